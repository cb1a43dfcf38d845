/- The reference's Value and much. -/
import Derived.Test.YtohhdoibkopoiaaDoorRefTok
set_option linter.unusedVariables false
set_option linter.unusedSimpArgs false
namespace Go.Proofs.YtohhdoibkopoiaaDoor.Msg
open Go.RowKit Go.Proofs.YtohhdoibkopoiaaDoor.Mp

def edgeB (c : UInt8) : Bool := ((c.toNat : Int) == 32) || ((c.toNat : Int) == 9)

theorem edgeB_eq (c : UInt8) : edgeB c = ([32, 9] : List UInt8).contains c := by
  unfold edgeB
  have h1 : ((c.toNat : Int) == 32) = (c == 32) := by
    rw [Bool.eq_iff_iff, beq_iff_eq, beq_iff_eq]
    exact ⟨fun h => UInt8.toNat.inj (show c.toNat = 32 by omega), fun h => by rw [h]; rfl⟩
  have h2 : ((c.toNat : Int) == 9) = (c == 9) := by
    rw [Bool.eq_iff_iff, beq_iff_eq, beq_iff_eq]
    exact ⟨fun h => UInt8.toNat.inj (show c.toNat = 9 by omega), fun h => by rw [h]; rfl⟩
  rw [h1, h2]
  simp only [List.contains, List.elem]
  cases c == 32 <;> cases c == 9 <;> rfl

theorem trim_edges (p : UInt8 → Bool) (l : List UInt8) (hz : 0 < l.length) : (((l.reverse.dropWhile p).reverse.dropWhile p) == l) = (!p (l[0]'hz) && !p (l[l.length - 1]'(by omega))) := by
  have hne : l ≠ [] := by intro e; simp [e] at hz
  have hlast : l[l.length - 1]'(by omega) = l.getLast hne := (List.getLast_eq_getElem hne).symm
  rw [hlast]
  have hl : l = l.dropLast ++ [l.getLast hne] := (List.dropLast_concat_getLast hne).symm
  have hr : l.reverse = l.getLast hne :: l.dropLast.reverse := by
    conv => lhs; rw [hl]
    rw [List.reverse_append]
    rfl
  rw [hr, List.dropWhile_cons]
  cases h1 : p (l.getLast hne) with
  | true =>
    simp only [if_true, Bool.not_true, Bool.and_false]
    rw [beq_eq_false_iff_ne]
    intro e
    have h2 := congrArg List.length e
    have h3 := (List.dropWhile_suffix (l := (List.dropWhile p l.dropLast.reverse).reverse) p).length_le
    have h4 := (List.dropWhile_suffix (l := l.dropLast.reverse) p).length_le
    simp only [List.length_reverse, List.length_dropLast] at h3 h4
    omega
  | false =>
    simp only [Bool.false_eq_true, if_false, Bool.not_false, Bool.and_true]
    rw [← hr, List.reverse_reverse]
    cases l with
    | nil => exact absurd rfl hne
    | cons a t =>
      rw [List.dropWhile_cons]
      simp only [List.getElem_cons_zero]
      cases h5 : p a with
      | true =>
        simp only [if_true, Bool.not_true]
        rw [beq_eq_false_iff_ne]
        intro e
        have h2 := congrArg List.length e
        have h3 := (List.dropWhile_suffix (l := t) p).length_le
        simp only [List.length_cons] at h2
        omega
      | false => simp

theorem value_edges (s : ByteArray) (hz : 0 < s.size) (h : s.data.toList.all okV = true) : valueB s = (!edgeB (s[0]'hz) && !edgeB (s[s.size - 1]'(by omega))) := by
  unfold valueB
  rw [h, edgeB_eq, edgeB_eq]
  unfold Lib.trimS Lib.trimLeftS Lib.trimRightS
  have := trim_edges (fun c => ([32, 9] : List UInt8).contains c) s.data.toList (by rw [Array.length_toList]; exact hz)
  rw [Bool.true_and, this]
  simp only [Array.length_toList, Array.getElem_toList]
  rfl

theorem value_empty (s : ByteArray) (hz : ¬ 0 < s.size) : valueB s = true := by
  obtain ⟨⟨l⟩⟩ := s
  cases l with
  | nil => decide
  | cons a l => exact absurd (show 0 < (l.length + 1) by omega) hz

set_option maxHeartbeats 1000000 in
theorem Value_any (s : ByteArray) (hs : s.size ≤ 9223372036854775807) (w : World) :
    Calls Tryd.prog 20 #[.string s] w fun e w' => e = .returned (.bool (valueB s)) ∧ w = w' := by
  go_enter Tryd.func20, Tryd.ntmps20
  go_wp2
  go_loop [3] (fun i => ∃ k : Nat, k ≤ s.size ∧ i = .int .i64 k ∧ Kp ((s.data.toList.take k).all okV = true)) (fun i => s.size - (intOf i).toNat)
  case atStart => exact ⟨0, Nat.zero_le _, rfl, ⟨rfl⟩⟩
  case round =>
    obtain ⟨k, hk, rfl, HP⟩ := hrel
    by_cases hlt : k < s.size
    · have HN := Kp.mk (show okV (s[k]'hlt) = false → Kp (valueB s = false) from fun h => ⟨by unfold valueB; rw [okV_of_false s k hlt h]; rfl⟩)
      have HY := Kp.mk (show okV (s[k]'hlt) = true → Kp ((s.data.toList.take (k + 1)).all okV = true) from fun h => ⟨by rw [okV_take_succ s k hlt, HP.out, h]; rfl⟩)
      by_cases h1 : ((s[k]'hlt).toNat : Int) < 32
      · by_cases h2 : ((s[k]'hlt).toNat : Int) = 9
        · have h3' : (((s[k]'hlt).toNat : Int) == 127) = false := by rw [h2]; rfl
          have HT := HY.out (by unfold okV; rw [show (s[k]'hlt).toNat = 9 by omega]; rfl)
          go_wp2
          go_round
          case rel => exact ⟨k + 1, by omega, by go_num, HT⟩
          case measure => simp [intOf]; omega
        · have HT := HN.out (by unfold okV; have h4 : (s[k]'hlt).toNat < 32 := by omega
                                have h5 : ¬ (s[k]'hlt).toNat = 9 := by omega
                                simp [h4, h5])
          go_wp2
          go_ret
          exact ⟨by rw [HT.out]; rfl, rfl⟩
      · by_cases h3 : (s[k]'hlt).toNat = 127
        · have h3' : (((s[k]'hlt).toNat : Int) == 127) = true := by rw [h3]; rfl
          have HT := HN.out (by unfold okV; rw [h3]; rfl)
          clear h3
          go_wp2
          go_ret
          exact ⟨by rw [HT.out]; rfl, rfl⟩
        · have h3' : (((s[k]'hlt).toNat : Int) == 127) = false := by simp only [beq_eq_false_iff_ne, ne_eq]; omega
          have HT := HY.out (by unfold okV; have h4 : ¬ (s[k]'hlt).toNat < 32 := by omega
                                simp [h4, h3])
          clear h3
          go_wp2
          go_round
          case rel => exact ⟨k + 1, by omega, by go_num, HT⟩
          case measure => simp [intOf]; omega
    · have hall : s.data.toList.all okV = true := by have := HP.out; rwa [List.take_of_length_le (show s.data.toList.length ≤ k by rw [Array.length_toList]; exact Nat.le_of_not_lt hlt)] at this
      by_cases hz : 0 < s.size
      · have HE := Kp.mk (value_edges s hz hall)
        have hz' : ((s.size : Int) == 0) = false := by simp only [beq_eq_false_iff_ne, ne_eq]; omega
        clear hall
        go_wp2
        all_goals
          go_ret
          refine ⟨?_, rfl⟩
          rw [HE.out]
          simp_all [edgeB, bne, Bool.and_assoc]
      · have HT : Kp (valueB s = true) := ⟨value_empty s hz⟩
        have hz' : ((s.size : Int) == 0) = true := by rw [show s.size = 0 by omega]; rfl
        go_wp2
        go_ret
        exact ⟨by rw [HT.out]; rfl, rfl⟩

set_option maxHeartbeats 400000 in
theorem much_any {w : World} {A : Option Addr} {fs : List Fl} {cp : Nat} (h : FsAt w A fs) (c s : Int) :
    Calls Tryd.prog 30 #[.slice A fs.length cp, .int .i64 c, .int .i64 s] w fun e w' => e = .returned (.bool (muchB fs c s)) ∧ Below w.heap.size w w' := by
  have hlen : fs.length ≤ 9223372036854775807 := by have := h.len; omega
  have H := Kp.mk h
  clear h
  go_enter Tryd.func30, Tryd.ntmps30
  go_wp2
  go_loopw [7, 8] (fun v i wr => ∃ k : Nat, k ≤ fs.length ∧ i = .int .i64 k ∧ v = .int .i64 (sizeW (fs.take k)) ∧ Kp (Below w.heap.size w wr)) (fun _ i _ => fs.length - (intOf i).toNat)
  case atStart => exact ⟨0, Nat.zero_le _, rfl, rfl, ⟨Below.refl _ _⟩⟩
  case round =>
    obtain ⟨k, hk, rfl, rfl, HB⟩ := hrel
    by_cases hlt : k < fs.length
    · obtain ⟨ad, rfl, h1, h2⟩ := (H.out.below HB.out).at_ k hlt
      have hsuc := Kp.mk (sizeW_take_succ fs k hlt)
      obtain ⟨x, hx⟩ : ∃ x, x = fs[k]'hlt := ⟨_, rfl⟩
      rw [← hx] at h1 h2
      go_wp2_with fail
      refine Reg.region_head 15 (by kernel_rfl) (by kernel_rfl) ?_
      simp only [List.take_succ_cons, List.take_zero, List.drop_succ_cons, List.drop_zero]
      repeat (refine Reg.headWp_cons (fun D hD => ?_); go_wp2)
      refine Reg.headWp_nil ?_
      go_wp2_with fail
      go_roundw
      case rel => exact ⟨k + 1, by omega, by go_num, by rw [hsuc.out, ← hx], ⟨HB.out.drew⟩⟩
      case measure => simp [intOf]; omega
    · have hall : Kp (sizeW (fs.take k) = sizeW fs) := ⟨by rw [List.take_of_length_le (by omega)]⟩
      rw [hall.out]
      by_cases hq : (fs.length : Int) > c
      · have HM : Kp (muchB fs c s = true) := ⟨by unfold muchB; simp [hq]⟩
        go_wp2
        go_ret
        exact ⟨by rw [HM.out]; rfl, HB.out⟩
      · have HM : Kp (muchB fs c s = decide (sizeW fs > s)) := ⟨by unfold muchB; simp [hq]⟩
        go_wp2
        go_ret
        exact ⟨by rw [HM.out]; rfl, HB.out⟩

end Go.Proofs.YtohhdoibkopoiaaDoor.Msg
