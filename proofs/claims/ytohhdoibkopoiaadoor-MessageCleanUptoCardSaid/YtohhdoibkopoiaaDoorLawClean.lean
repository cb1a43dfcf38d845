/- The law MessageClean, walked. -/
import Derived.Test.YtohhdoibkopoiaaDoorMsgSame
import Derived.Test.YtohhdoibkopoiaaDoorCleanPlain
import Derived.Test.YtohhdoibkopoiaaDoorMsgAwake
set_option linter.unusedVariables false
set_option linter.unusedSimpArgs false
namespace Go.Proofs.YtohhdoibkopoiaaDoor.Msg
open Go.RowKit Go.Proofs.YtohhdoibkopoiaaDoor.Mp

theorem not_zero_of {s : ByteArray} {l : List UInt8} (h : s.data.toList ≠ l) : (s.toList == l) = false := by
  rw [ByteArray.toList_eq]
  simpa using h

theorem vis_at {s : ByteArray} (h : Vis s) (k : Nat) (hk : k < s.size) : 32 < (s[k]'hk).toNat ∧ (s[k]'hk).toNat < 127 := h _ (by show s.data[k] ∈ _; simp)

theorem name_at {s : ByteArray} (h : everyB nameR s = true) (k : Nat) (hk : k < s.size) : 32 < (s[k]'hk).toNat ∧ (s[k]'hk).toNat < 127 ∧ (s[k]'hk).toNat ≠ 58 ∧ ¬ (65 ≤ (s[k]'hk).toNat ∧ (s[k]'hk).toNat ≤ 90) := nameR_range _ ((everyB_all h).1 _ (by show s.data[k] ∈ _; simp))

theorem pick4 (m s a p : ByteArray) (k : Nat) (hk : k < 4) : ∃ x, (#[Value.string m, .string s, .string a, .string p] : Array Value)[k]? = some (.string x) ∧ (x = m ∨ x = s ∨ x = a ∨ x = p) := by
  rcases k with _ | _ | _ | _ | k
  · exact ⟨m, rfl, .inl rfl⟩
  · exact ⟨s, rfl, .inr (.inl rfl)⟩
  · exact ⟨a, rfl, .inr (.inr (.inl rfl))⟩
  · exact ⟨p, rfl, .inr (.inr (.inr rfl))⟩
  · omega

set_option maxRecDepth 100000 in
set_option maxHeartbeats 1000000 in
theorem MessageClean_any {w : World} {A : Option Addr} {fs : List Fl} {cp : Nat} (h : FsAt w A fs) (hsz : ∀ f ∈ fs, f.n.size ≤ 9223372036854775807 ∧ f.v.size ≤ 9223372036854775807) :
    Calls Tryd.prog 4 #[.slice A fs.length cp] w fun e w' => e = .returned (.bool true) ∧ Below w.heap.size w w' := by
  have H := Kp.mk h
  have HZ := Kp.mk hsz
  clear h hsz
  go_enter Tryd.func4, Tryd.ntmps4
  go_wp2_with fail
  refine (copy_any H.out).mono ?_
  rintro e w1 ⟨rfl, hrow, hb1⟩
  have HF1 := Kp.mk (FsAt.of_row hrow H.out.len)
  have HB1 := Kp.mk hb1
  clear hrow hb1
  go_wp2_with fail
  (with_reducible refine (wide_any _).mono ?_)
  rintro e w2 ⟨rfl, hb⟩
  have HF2 := Kp.mk (HF1.out.below hb)
  have HB2 := Kp.mk (HB1.out.trans (hb.mono HB1.out.size))
  clear hb
  go_wp2_with fail
  refine (check_any (c := 1048576) (s := 1073741824) HF2.out HZ.out).mono ?_
  intro e w3 hp
  cases hc : checkF fs 1048576 1073741824 with
  | error c =>
    rw [hc] at hp
    obtain ⟨rfl, hb⟩ := hp
    have HB3 := Kp.mk (HB2.out.trans (hb.mono HB2.out.size))
    have hce := check_err hc
    have hc0 : (c == 0) = false := by unfold IsErr at hce; simp only [beq_eq_false_iff_ne, ne_eq]; omega
    have hc1 : ¬ c = 0 := by unfold IsErr at hce; omega
    clear hc hb hce
    simp only [reqNil]
    go_wp2_with fail
    have HB4 := Kp.mk (HB3.out.alloc HB3.out.size (.cells reqZero 27))
    have hnil : ∀ W : World, FsAt W none [] := fun W => ⟨fun k hk => absurd hk (by simp), by decide⟩
    refine (same_true (fs := []) (cp := 0) (cp' := 0) (hnil _) (hnil _) _ _ _ _ _).mono ?_
    rintro e w5 ⟨rfl, hb⟩
    have HB5 := Kp.mk (HB4.out.trans (hb.mono HB4.out.size))
    clear hb
    go_wp2_with fail
    refine (awake_any _).mono ?_
    rintro e w6 ⟨rfl, hb⟩
    have HB6 := Kp.mk (HB5.out.trans (hb.mono HB5.out.size))
    clear hb
    go_wp2_with fail
    go_ret
    exact ⟨rfl, HB6.out⟩
  | ok st =>
    rw [hc] at hp
    obtain ⟨fv, rfl, hrow, hb⟩ := hp
    obtain ⟨Af, cf, rfl⟩ := row_slice hrow
    have HB3 := Kp.mk (HB2.out.trans (hb.mono HB2.out.size))
    have HF3 := Kp.mk (FsAt.of_row hrow (by have := check_size hc; have := H.out.len; omega))
    have HQ := Kp.mk (check_facts hc)
    have HS := Kp.mk (check_P (P := fun b => b.size ≤ 9223372036854775807) hc (fun f hf => (HZ.out f hf).2) (by decide))
    clear hc hrow hb
    simp only [reqVal]
    have hlenF : st.fields.length ≤ 9223372036854775807 := by have := HF3.out.len; omega
    go_wp2_with fail
    have hbk := heap_alloc_new w3 (.cells (reqCells st.m st.s st.a st.p (.slice Af st.fields.length cf) st.len) 27)
    have hb4 := (Below.refl w3.heap.size w3).alloc (Nat.le_refl _) (.cells (reqCells st.m st.s st.a st.p (.slice Af st.fields.length cf) st.len) 27)
    have hsl : ((w3.alloc (.cells (reqCells st.m st.s st.a st.p (.slice Af st.fields.length cf) st.len) 27)).alloc (.cells #[.string st.m, .string st.s, .string st.a, .string st.p] 9)).heap[w3.heap.size + 1]? = some (.cells #[.string st.m, .string st.s, .string st.a, .string st.p] 9 (0, 0)) := by
      have := heap_alloc_new (w3.alloc (.cells (reqCells st.m st.s st.a st.p (.slice Af st.fields.length cf) st.len) 27)) (.cells #[.string st.m, .string st.s, .string st.a, .string st.p] 9)
      simpa using this
    have hbk' := (Below.heap_alloc _ (.cells #[.string st.m, .string st.s, .string st.a, .string st.p] 9) _ (lt_of_heap hbk)).trans hbk
    have hb5 := hb4.alloc hb4.size (.cells #[.string st.m, .string st.s, .string st.a, .string st.p] 9)
    simp only [reqCells] at hbk' hsl hb5
    generalize (w3.alloc (.cells #[.string st.m, .string st.s, .string st.a, .string st.p, .slice Af st.fields.length cf, .int .i64 st.len] 27)).alloc (.cells #[.string st.m, .string st.s, .string st.a, .string st.p] 9) = W at hbk' hsl hb5 ⊢
    have HBK := Kp.mk hbk'
    have HSL := Kp.mk hsl
    have HB5 := Kp.mk (HB3.out.trans (hb5.mono HB3.out.size))
    have HF5 := Kp.mk (HF3.out.below hb5)
    have HVis : ∀ x, (x = st.m ∨ x = st.s ∨ x = st.a ∨ x = st.p) → Vis x := by
      obtain ⟨⟨q1, q2, q3, _⟩, q4, _⟩ := HQ.out
      rintro x (rfl | rfl | rfl | rfl)
      · exact vis_every tokR_range q1
      · exact q2
      · exact vis_every authR_range q4
      · exact q3
    have HV := Kp.mk HVis
    clear hbk hb4 hsl hbk' hb5 HVis
    go_loop [37] (fun i => ∃ k : Nat, k ≤ 4 ∧ i = .int .i64 k) (fun i => 4 - (intOf i).toNat)
    case atStart => exact ⟨0, by omega, rfl⟩
    case round =>
      obtain ⟨k, hk, rfl⟩ := hrel
      by_cases hlt : k < 4
      · obtain ⟨x, hx, hxx⟩ := pick4 st.m st.s st.a st.p k hlt
        have hxc : W.cell? ⟨w3.heap.size + 1, k, none⟩ = some (.string x) := by rw [cell_of_blk HSL.out]; exact hx
        have HX := Kp.mk (HV.out x hxx)
        have hxs : x.size ≤ 9223372036854775807 := by
          obtain ⟨s1, s2, s3, s4, _⟩ := HS.out
          rcases hxx with rfl | rfl | rfl | rfl
          · exact s1
          · exact s2
          · exact s3
          · exact s4
        clear hx hxx
        go_wp2_with fail
        go_loop [43] (fun i => ∃ j : Nat, j ≤ x.size ∧ i = .int .i64 j) (fun i => x.size - (intOf i).toNat)
        case atStart => exact ⟨0, by omega, rfl⟩
        case round =>
          obtain ⟨j, hj, rfl⟩ := hrel
          by_cases hjl : j < x.size
          · obtain ⟨b0, b1⟩ := vis_at HX.out j hjl
            have q0 : ¬ ((x[j]'hjl).toNat : Int) ≤ 32 := by omega
            have q1 : ¬ ((x[j]'hjl).toNat : Int) ≥ 127 := by omega
            have q2 : decide (((x[j]'hjl).toNat : Int) ≤ 32) = false := by simpa using q0
            have q3 : decide (((x[j]'hjl).toNat : Int) ≥ 127) = false := by simpa using q1
            clear b0 b1
            go_wp2_with fail
            go_round
            case rel => exact ⟨j + 1, by omega, by go_num⟩
            case measure => simp [intOf]; omega
          · go_wp2_with fail
            go_round
            case rel => exact ⟨k + 1, by omega, by go_num⟩
            case measure => simp [intOf]; omega
      · have c4 : W.cell? ⟨w3.heap.size, 4, none⟩ = some (.slice Af st.fields.length cf) := by rw [cell_of_blk HBK.out]; rfl
        go_wp2_with fail
        go_loopw [61] (fun i wr => ∃ k : Nat, k ≤ st.fields.length ∧ i = .int .i64 k ∧ Kp (Below W.heap.size W wr)) (fun i _ => st.fields.length - (intOf i).toNat)
        case atStart => exact ⟨0, Nat.zero_le _, rfl, ⟨Below.refl _ _⟩⟩
        case round =>
          clear c4
          obtain ⟨k2, hk2, rfl, HW⟩ := hrel
          by_cases hl2 : k2 < st.fields.length
          · obtain ⟨ad, rfl, h1, h2⟩ := (HF5.out.below HW.out).at_ k2 hl2
            have hmem := List.getElem_mem hl2
            have hfo := HQ.out.flds _ hmem
            have hfz := HZ.out _ (HS.out.2.2.2.2 _ hmem)
            obtain ⟨x, hx⟩ : ∃ x, x = st.fields[k2]'hl2 := ⟨_, rfl⟩
            rw [← hx] at h1 h2 hfo hfz
            clear hx hmem
            have hzn := hfz.1
            have hzv := hfz.2
            obtain ⟨f1, f2, f3, f4⟩ := hfo
            have HN := Kp.mk f1
            have HH := Kp.mk f3
            have e0 : (x.n.toList == []) = false := not_zero_of (everyB_all f1).2
            have e1 : (x.n.toList == [104, 111, 115, 116]) = false := not_zero_of f4
            have HB6 := Kp.mk (HB5.out.trans (HW.out.mono HB5.out.size))
            have hB0 := HB6.out.size
            have HB7 := Kp.mk (HB6.out.alloc hB0 (.cells #[.string x.n, .string x.v] 37))
            have HX := Kp.mk (heap_alloc_new wr (.cells #[.string x.n, .string x.v] 37))
            have HW7 := Kp.mk (HW.out.alloc HW.out.size (.cells #[.string x.n, .string x.v] 37))
            have hbn := Kp.mk (name_ok f1)
            have hbv := Kp.mk (value_ok f2)
            clear f1 f2 f3 f4 hfz
            go_wp2_with fail
            refine (bad_no x.n hzn hbn.out _).mono ?_
            rintro e w7 ⟨rfl, rfl⟩
            go_wp2_with fail
            refine (bad_no x.v hzv hbv.out _).mono ?_
            rintro e w7 ⟨rfl, rfl⟩
            go_wp2_with fail
            refine (Hop_any x.n x.v _).mono ?_
            rintro e w8 ⟨rfl, hq⟩
            rw [HH.out]
            have HX8 := Kp.mk (heap_kept hq HX.out)
            have HW8 := Kp.mk (HW7.out.trans (hq.mono HW7.out.size))
            have cn8 : w8.cell? ⟨wr.heap.size, 0, none⟩ = some (.string x.n) := by rw [cell_of_blk HX8.out]; rfl
            have cv8 : w8.cell? ⟨wr.heap.size, 1, none⟩ = some (.string x.v) := by rw [cell_of_blk HX8.out]; rfl
            clear hq
            go_wp2_with fail
            go_loop [90] (fun i => ∃ j : Nat, j ≤ x.n.size ∧ i = .int .i64 j) (fun i => x.n.size - (intOf i).toNat)
            case atStart => exact ⟨0, by omega, rfl⟩
            case round =>
              obtain ⟨j, hj, rfl⟩ := hrel
              by_cases hjl : j < x.n.size
              · obtain ⟨b0, b1, b2, b3⟩ := name_at HN.out j hjl
                have q0 : ¬ ((x.n[j]'hjl).toNat : Int) ≤ 32 := by omega
                have q1 : ¬ ((x.n[j]'hjl).toNat : Int) ≥ 127 := by omega
                have q2 : decide (((x.n[j]'hjl).toNat : Int) ≤ 32) = false := by simpa using q0
                have q3 : decide (((x.n[j]'hjl).toNat : Int) ≥ 127) = false := by simpa using q1
                have q4 : (((x.n[j]'hjl).toNat : Int) == 58) = false := by simp only [beq_eq_false_iff_ne, ne_eq]; omega
                by_cases b4 : ((x.n[j]'hjl).toNat : Int) ≥ 65
                · have b5 : ¬ ((x.n[j]'hjl).toNat : Int) ≤ 90 := by omega
                  clear b0 b1 b2 b3
                  go_wp2_with fail
                  go_round
                  case rel => exact ⟨j + 1, by omega, by go_num⟩
                  case measure => simp [intOf]; omega
                · clear b0 b1 b2 b3
                  go_wp2_with fail
                  go_round
                  case rel => exact ⟨j + 1, by omega, by go_num⟩
                  case measure => simp [intOf]; omega
              · go_wp2_with fail
                go_roundw
                case rel => exact ⟨k2 + 1, by omega, by go_num, HW8⟩
                case measure => simp [intOf]; omega
          · have HB6 := Kp.mk (HB5.out.trans (HW.out.mono HB5.out.size))
            have d0 : wr.cell? ⟨w3.heap.size, 0, none⟩ = some (.string st.m) := by rw [HW.out.cell (p := ⟨w3.heap.size, 0, none⟩) (lt_of_heap HBK.out), cell_of_blk HBK.out]; rfl
            have d2 : wr.cell? ⟨w3.heap.size, 2, none⟩ = some (.string st.a) := by rw [HW.out.cell (p := ⟨w3.heap.size, 2, none⟩) (lt_of_heap HBK.out), cell_of_blk HBK.out]; rfl
            have d3 : wr.cell? ⟨w3.heap.size, 3, none⟩ = some (.string st.p) := by rw [HW.out.cell (p := ⟨w3.heap.size, 3, none⟩) (lt_of_heap HBK.out), cell_of_blk HBK.out]; rfl
            have hmn : (st.m.toList == []) = false := not_zero_of (everyB_all HQ.out.line.1).2
            have han : (st.a.toList == []) = false := not_zero_of (everyB_all HQ.out.auth).2
            have hiff := HQ.out.line.2.2.2
            rw [← ByteArray.toList_eq, ← ByteArray.toList_eq] at hiff
            cases hmc : (st.m.toList == [67, 79, 78, 78, 69, 67, 84]) with
            | true =>
              have hpc : (st.p.toList == []) = true := by rw [beq_iff_eq]; exact hiff.1 (beq_iff_eq.1 hmc)
              clear hiff
              go_wp2_with fail
              refine (awake_any _).mono ?_
              rintro e w9 ⟨rfl, hb⟩
              have HB9 := Kp.mk (HB6.out.trans (hb.mono HB6.out.size))
              clear hb
              go_wp2_with fail
              go_ret
              exact ⟨rfl, HB9.out⟩
            | false =>
              have hpc : (st.p.toList == []) = false := by
                rw [beq_eq_false_iff_ne]
                intro e
                have := hiff.2 e
                rw [beq_eq_false_iff_ne] at hmc
                exact hmc this
              clear hiff
              go_wp2_with fail
              refine (awake_any _).mono ?_
              rintro e w9 ⟨rfl, hb⟩
              have HB9 := Kp.mk (HB6.out.trans (hb.mono HB6.out.size))
              clear hb
              go_wp2_with fail
              go_ret
              exact ⟨rfl, HB9.out⟩

end Go.Proofs.YtohhdoibkopoiaaDoor.Msg
