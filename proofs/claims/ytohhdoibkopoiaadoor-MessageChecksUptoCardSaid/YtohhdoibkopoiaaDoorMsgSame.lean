/- The contracts of Same, same (of what is alike) and bad (of what is not bad). -/
import Derived.Test.YtohhdoibkopoiaaDoorMsgCopy
import Derived.Test.YtohhdoibkopoiaaDoorRefVal
import Derived.Laws.StructEq
set_option linter.unusedVariables false
set_option linter.unusedSimpArgs false
namespace Go.Proofs.YtohhdoibkopoiaaDoor.Msg
open Go.RowKit Go.Proofs.YtohhdoibkopoiaaDoor.Mp

theorem fl_neq (n v : ByteArray) (w : World) : (binOp .neq 37 (.agg #[.string n, .string v]) (.agg #[.string n, .string v])).run Tryd.prog w = .ok (.bool false) w := by
  have hu := Tryd.underlying37
  have hs := Tryd.underlying9
  have e1 := run_equalIn_string (P := Tryd.prog) w 9998 9 n n hs
  have e2 := run_equalIn_string (P := Tryd.prog) w 9998 9 v v hs
  rw [run_neq_struct, run_equalIn_agg (P := Tryd.prog) w 9999 37 _ _ (by kernel_rfl) (by kernel_rfl)]
  simp only [Program.fieldsOf, hu]
  simp [Op.eqFields, e1, e2, go_sem]

set_option maxRecDepth 100000 in
theorem Same_true {w : World} {A A' : Option Addr} {fs : List Fl} {cp cp' : Nat} (h : FsAt w A fs) (h' : FsAt w A' fs) :
    Calls Tryd.prog 12 #[.slice A fs.length cp, .slice A' fs.length cp'] w fun e w' => e = .returned (.bool true) ∧ Below w.heap.size w w' := by
  have hlen : fs.length ≤ 9223372036854775807 := by have := h.len; omega
  have H := Kp.mk h
  have H' := Kp.mk h'
  have hneq := fl_neq
  clear h h'
  go_enter Tryd.func12, Tryd.ntmps12
  go_wp2
  go_loopw [5] (fun i wr => ∃ k : Nat, k ≤ fs.length ∧ i = .int .i64 k ∧ Kp (Below w.heap.size w wr)) (fun i _ => fs.length - (intOf i).toNat)
  case atStart => exact ⟨0, Nat.zero_le _, rfl, ⟨Below.refl _ _⟩⟩
  case round =>
    obtain ⟨k, hk, rfl, HB⟩ := hrel
    by_cases hlt : k < fs.length
    · obtain ⟨ad, rfl, h1, h2⟩ := (H.out.below HB.out).at_ k hlt
      obtain ⟨ad', rfl, h1', h2'⟩ := (H'.out.below HB.out).at_ k hlt
      obtain ⟨x, hx⟩ : ∃ x, x = fs[k]'hlt := ⟨_, rfl⟩
      rw [← hx] at h1 h2 h1' h2'
      go_wp2_with fail
      refine Reg.region_head 8 (by kernel_rfl) (by kernel_rfl) ?_
      simp only [List.take_succ_cons, List.take_zero, List.drop_succ_cons, List.drop_zero]
      repeat (refine Reg.headWp_cons (fun D hD => ?_); go_wp2)
      refine Reg.headWp_nil ?_
      go_wp2_with fail
      go_roundw
      case rel => exact ⟨k + 1, by omega, by go_num, ⟨HB.out.drew⟩⟩
      case measure => simp [intOf]; omega
    · go_wp2
      go_ret
      exact ⟨rfl, HB.out⟩

theorem bad_no (s : ByteArray) (hs : s.size ≤ 9223372036854775807) (hb : ∀ c ∈ s.data.toList, c.toNat ≠ 0 ∧ c.toNat ≠ 13 ∧ c.toNat ≠ 10) (w : World) :
    Calls Tryd.prog 15 #[.string s] w fun e w' => e = .returned (.bool false) ∧ w = w' := by
  have HBd := Kp.mk (show ∀ k (hk : k < s.size), (s[k]'hk).toNat ≠ 0 ∧ (s[k]'hk).toNat ≠ 13 ∧ (s[k]'hk).toNat ≠ 10 from fun k hk => hb _ (by show s.data[k] ∈ _; simp))
  clear hb
  go_enter Tryd.func15, Tryd.ntmps15
  go_wp2
  go_loop [6] (fun i => ∃ k : Nat, k ≤ s.size ∧ i = .int .i64 k) (fun i => s.size - (intOf i).toNat)
  case atStart => exact ⟨0, Nat.zero_le _, rfl⟩
  case round =>
    obtain ⟨k, hk, rfl⟩ := hrel
    by_cases hlt : k < s.size
    · obtain ⟨b0, b1, b2⟩ := HBd.out k hlt
      have q0 : (((s[k]'hlt).toNat : Int) == 0) = false := by simp only [beq_eq_false_iff_ne, ne_eq]; omega
      have q1 : (((s[k]'hlt).toNat : Int) == 13) = false := by simp only [beq_eq_false_iff_ne, ne_eq]; omega
      have q2 : (((s[k]'hlt).toNat : Int) == 10) = false := by simp only [beq_eq_false_iff_ne, ne_eq]; omega
      clear b0 b1 b2
      go_wp2
      go_round
      case rel => exact ⟨k + 1, by omega, by go_num⟩
      case measure => simp [intOf]; omega
    · go_wp2
      go_ret
      exact ⟨rfl, rfl⟩

set_option maxRecDepth 100000 in
theorem same_true {w : World} {A A' : Option Addr} {fs : List Fl} {cp cp' : Nat} (h : FsAt w A fs) (h' : FsAt w A' fs) (m s a p : ByteArray) (n : Int) :
    Calls Tryd.prog 11 #[.agg #[.string m, .string s, .string a, .string p, .slice A fs.length cp, .int .i64 n], .agg #[.string m, .string s, .string a, .string p, .slice A' fs.length cp', .int .i64 n]] w fun e w' => e = .returned (.bool true) ∧ Below w.heap.size w w' := by
  have H := Kp.mk h
  have H' := Kp.mk h'
  have HB := Kp.mk (((Below.refl w.heap.size w).alloc (Nat.le_refl _) (.cells #[.string m, .string s, .string a, .string p, .slice A fs.length cp, .int .i64 n] 27)).alloc (by simp) (.cells #[.string m, .string s, .string a, .string p, .slice A' fs.length cp', .int .i64 n] 31))
  clear h h'
  go_enter Tryd.func11, Tryd.ntmps11
  go_wp2_with fail
  refine (Same_true (H.out.below HB.out) (H'.out.below HB.out)).mono ?_
  rintro e w' ⟨rfl, hb⟩
  have HB2 := Kp.mk (HB.out.trans (hb.mono HB.out.size))
  go_wp2_with fail
  go_ret
  exact ⟨rfl, HB2.out⟩

end Go.Proofs.YtohhdoibkopoiaaDoor.Msg
