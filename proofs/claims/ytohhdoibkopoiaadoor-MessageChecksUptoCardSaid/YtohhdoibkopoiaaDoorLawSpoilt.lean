/- The law MessageSpoilt, walked. -/
import Derived.Test.YtohhdoibkopoiaaDoorSpoiltPlain
import Derived.Test.YtohhdoibkopoiaaDoorMsgSame
import Derived.Test.YtohhdoibkopoiaaDoorMsgSizes
import Derived.Maps.AppendAt
import Derived.Deep.CutRange
set_option linter.unusedVariables false
set_option linter.unusedSimpArgs false
namespace Go.Proofs.YtohhdoibkopoiaaDoor.Msg
open Go.RowKit Go.Proofs.YtohhdoibkopoiaaDoor.Mp

theorem line_sizes {L fs : List Fl} (hL : L = lineFs ++ fs) (hz : ∀ f ∈ fs, f.n.size ≤ 9223372036854775807 ∧ f.v.size ≤ 9223372036854775807) : ∀ f ∈ L, f.n.size ≤ 9223372036854775807 ∧ f.v.size ≤ 9223372036854775807 := by
  intro f hf
  rw [hL] at hf
  rcases List.mem_append.1 hf with hf | hf
  · have hall : ∀ f ∈ lineFs, f.n.size ≤ 9223372036854775807 ∧ f.v.size ≤ 9223372036854775807 := by decide
    exact hall f hf
  · exact hz f hf

/-- a row's length, its capacity -/
theorem row_cap {w : World} {base e size l c m : Nat} {A : Option Addr} {xs : List Value} (h : w.ownsRow base e size (.slice A l c) l xs) (hl : l = 4 + m) : ∃ g, A = some ⟨g, 0, none⟩ ∧ 4 + m ≤ c ∧ c ≤ 9223372036854775807 := by
  obtain ⟨_, ⟨_, h0⟩ | ⟨g, cap, cur, hv, _, _, h1, h2, _⟩⟩ := h
  · omega
  · simp only [Value.slice.injEq] at hv
    obtain ⟨rfl, -, rfl⟩ := hv
    exact ⟨g, rfl, by omega, by unfold maxLen at h2; omega⟩

theorem FsAt.take {w : World} {A : Option Addr} {fs : List Fl} (h : FsAt w A fs) (n : Nat) : FsAt w A (fs.take n) := by
  refine ⟨fun k hk => ?_, by have := h.len; rw [List.length_take]; omega⟩
  have hk' : k < fs.length := by rw [List.length_take] at hk; omega
  rw [List.getElem_take]
  exact h.at_ k hk'

theorem room5 {k n : Nat} (h : k ≤ n) (hn : n ≤ 1048576) : (4 + k + 1) * 32 ≤ 140737488355328 := by omega
theorem room5m {k n : Nat} (h : k ≤ n) (hn : n ≤ 1048576) : 4 + k + 1 ≤ maxLen := by unfold maxLen; omega

theorem row_lt {w : World} {base e size n l c g : Nat} {xs : List Value} (h : w.ownsRow base e size (.slice (some ⟨g, 0, none⟩) l c) n xs) : g < w.heap.size := by
  obtain ⟨_, ⟨h0, _⟩ | ⟨g', cap, cur, hv, _, hh, _⟩⟩ := h
  · cases h0
  · simp only [Value.slice.injEq, Option.some.injEq, Addr.mk.injEq] at hv
    obtain ⟨⟨rfl, _⟩, _⟩ := hv
    exact lt_of_heap hh

theorem room6 {k n m : Nat} (h : k ≤ n) (hn : n ≤ 1048576) (hm : m = 4 + n) : (4 + k + 1 + (m - (4 + k))) * 32 ≤ 140737488355328 := by omega
theorem room6m {k n m : Nat} (h : k ≤ n) (hn : n ≤ 1048576) (hm : m = 4 + n) : 4 + k + 1 + (m - (4 + k)) ≤ maxLen := by unfold maxLen; omega

theorem FsAt.dropAt {w : World} {g : Nat} {fs : List Fl} (h : FsAt w (some ⟨g, 0, none⟩) fs) (n : Nat) : FsAt w (some ⟨g, n * 2, none⟩) (fs.drop n) := by
  refine ⟨fun k hk => ?_, by have := h.len; rw [List.length_drop]; omega⟩
  have hk' : n + k < fs.length := by rw [List.length_drop] at hk; omega
  obtain ⟨ad, ha, h1, h2⟩ := h.at_ (n + k) hk'
  obtain rfl := Option.some.inj ha
  have e : ∀ j, (⟨g, 0, none⟩ : Addr).add j = ⟨g, j, none⟩ := fun j => by unfold Addr.add; split <;> simp_all
  have e2 : (⟨g, n * 2, none⟩ : Addr).add (k * 2) = ⟨g, (n + k) * 2, none⟩ := by unfold Addr.add; split <;> simp_all <;> omega
  rw [e] at h1 h2
  refine ⟨_, rfl, ?_, ?_⟩
  · rw [e2, List.getElem_drop]; exact h1
  · rw [e2, List.getElem_drop]; exact h2

theorem spoilt_len {a n k x : Nat} (h : x = 4 + k + 1 + (a - (4 + k))) (ha : a = 4 + n) (hk : k ≤ n) (hn : n ≤ 1048576) : (x + 1) * 32 ≤ 140737488355328 := by omega

theorem spoilt_sizes {L : List Fl} {k : Nat} {f : Fl} (h : ∀ f ∈ L, f.n.size ≤ 9223372036854775807 ∧ f.v.size ≤ 9223372036854775807) (hf : f.n.size ≤ 9223372036854775807 ∧ f.v.size ≤ 9223372036854775807) :
    ∀ g ∈ L.take (4 + k) ++ [f] ++ L.drop (4 + k), g.n.size ≤ 9223372036854775807 ∧ g.v.size ≤ 9223372036854775807 := by
  intro g hg
  rcases List.mem_append.1 hg with hg | hg
  · rcases List.mem_append.1 hg with hg | hg
    · exact h g (List.mem_of_mem_take hg)
    · simp only [List.mem_singleton] at hg
      subst hg; exact hf
  · exact h g (List.mem_of_mem_drop hg)

theorem spoilt_in {L fs : List Fl} {k : Nat} {f : Fl} {st : PSt} (hL : L = lineFs ++ fs) (h : checkF L 1048576 1073741824 = .ok st) (ht : total fs + total [f] ≤ 1048576) (hn : fs.length ≤ 65536)
    (e1 : (f.n.toList == [99, 111, 110, 116, 101, 110, 116, 45, 108, 101, 110, 103, 116, 104]) = false) (e2 : (f.n.toList == [104, 111, 115, 116]) = false) :
    if wrongB f = true then ∃ e, checkF (L.take (4 + k) ++ [f] ++ L.drop (4 + k)) 1048576 1073741824 = .error e ∧ IsErr e else ∃ st', checkF (L.take (4 + k) ++ [f] ++ L.drop (4 + k)) 1048576 1073741824 = .ok st' := by
  have htt : total (L.take (4 + k) ++ [f] ++ L.drop (4 + k)) = total L + total [f] := by
    have h1 : total L = total (L.take (4 + k)) + total (L.drop (4 + k)) := by rw [← total_append, List.take_append_drop]
    rw [total_append, total_append, h1]; omega
  have hll : (L.take (4 + k) ++ [f] ++ L.drop (4 + k)).length = L.length + 1 := by
    have h1 : L.length = (L.take (4 + k)).length + (L.drop (4 + k)).length := by rw [← List.length_append, List.take_append_drop]
    rw [List.length_append, List.length_append, h1]
    simp only [List.length_singleton]
    omega
  have hL4 : L.length = 4 + fs.length := by rw [hL, List.length_append]; rfl
  have hLt : total L = 42 + total fs := by rw [hL, total_append]; rfl
  have hm : muchB (L.take (4 + k) ++ [f] ++ L.drop (4 + k)) 1048576 1073741824 = false := muchB_small (by rw [hll, hL4]; omega) (by rw [htt, hLt]; omega) (by rw [htt, hLt]; omega)
  rw [beq_eq_false_iff_ne, ByteArray.toList_eq] at e1 e2
  subst hL
  have hs := spoilt h hm e1 e2
  cases hw : wrongB f with
  | true =>
    rw [hw, if_pos rfl] at hs
    rw [if_pos rfl]
    obtain ⟨e, he⟩ := hs
    exact ⟨e, he, check_err he⟩
  | false =>
    rw [hw, if_neg (by decide)] at hs
    rw [if_neg (by decide)]
    exact hs

theorem ne_true {c : Int} (h : ¬ c = 0) : (c != 0) = true := by simp [h]
theorem if_true_of {b : Bool} {P Q : Prop} (h : if b = true then P else Q) (hb : b = true) : P := by rw [if_pos hb] at h; exact h
theorem if_false_of {b : Bool} {P Q : Prop} (h : if b = true then P else Q) (hb : b = false) : Q := by rw [hb, if_neg (by decide)] at h; exact h

theorem blk_le {o : Option Nat} {a b B j : Nat} (h : o = some a ∨ o = some b) (ha : B ≤ a) (hb : B ≤ b) (hj : o = some j) : B ≤ j := by
  rcases h with h | h
  · rw [h] at hj; cases hj; exact ha
  · rw [h] at hj; cases hj; exact hb

theorem flCells_app (a b : List Fl) : flCells (a ++ b) = flCells a ++ flCells b := by unfold flCells; exact List.flatMap_append

theorem ck_below {w : World} {r : Except Int PSt} {e : Ending} {w' : World} (h : CkPost w r e w') : Below w.heap.size w w' := by
  cases r with
  | ok st => obtain ⟨_, _, _, hb⟩ := h; exact hb
  | error c => exact h.2

theorem line_app {w3 : World} {B : Nat} {v3 : Value} {fs : List Fl} (h : w3.ownsRow B 37 2 v3 (4 + fs.length) (flCells lineFs ++ flCells fs)) : w3.ownsRow B 37 2 v3 (lineFs ++ fs).length (flCells (lineFs ++ fs)) := by
  have h2 : (lineFs ++ fs).length = 4 + fs.length := by rw [List.length_append]; rfl
  rw [flCells_app, h2]; exact h

theorem row_keep {w w' : World} {base e size n : Nat} {A : Option Addr} {l c : Nat} {xs : List Value} (h : w.ownsRow base e size (.slice A l c) n xs) (hb : Below w.heap.size w w') : w'.ownsRow base e size (.slice A l c) n xs :=
  h.kept (row := none) ⟨hb.os, hb.tape, hb.output, hb.size, fun i hi _ => hb.block i hi⟩ (by cases A <;> simp [Value.ownBlock])

set_option maxRecDepth 100000 in
set_option maxHeartbeats 1000000 in
theorem MessageSpoilt_any {w : World} {A : Option Addr} {fs : List Fl} {cp : Nat} (h : FsAt w A fs) (hsz : ∀ f ∈ fs, f.n.size ≤ 9223372036854775807 ∧ f.v.size ≤ 9223372036854775807)
    (at_ : Int) (hat : -9223372036854775808 ≤ at_ ∧ at_ ≤ 9223372036854775807) (mn mv : ByteArray) (hmn : mn.size ≤ 9223372036854775807) (hmv : mv.size ≤ 9223372036854775807) (htot : total fs + total [⟨mn, mv⟩] ≤ 1048576) (hfl : fs.length ≤ 1048576) :
    Calls Tryd.prog 5 #[.slice A fs.length cp, .int .i64 at_, .agg #[.string mn, .string mv]] w fun e w' => e = .returned (.bool true) ∧ Below w.heap.size w w' := by
  have hlenA := h.len
  have H := Kp.mk h
  have HZ := Kp.mk hsz
  have HB0 := Kp.mk ((Below.refl w.heap.size w).alloc (Nat.le_refl _) (.cells #[.string mn, .string mv] 37))
  have HX0 := Kp.mk (heap_alloc_new w (.cells #[.string mn, .string mv] 37))
  clear h hsz
  go_enter Tryd.func5, Tryd.ntmps5
  go_wp2_with fail
  generalize w.alloc (.cells #[.string mn, .string mv] 37) = W at HB0 HX0 ⊢
  have hWs : w.heap.size < W.heap.size := lt_of_heap HX0.out
  refine (line_of _).mono ?_
  rintro e w1 ⟨rfl, hw1⟩
  have hrow1 := line_row W
  have hb1 := (Below.refl W.heap.size W).alloc (Nat.le_refl _) (.cells (flCells lineFs).toArray 37)
  rw [← hw1] at hrow1 hb1
  have HR1 := Kp.mk hrow1
  have HB1 := Kp.mk hb1
  clear hrow1 hb1 hw1
  go_wp2_with fail
  refine (copy_any ((H.out.below HB0.out).below HB1.out)).mono ?_
  rintro e w2 ⟨rfl, hrow, hb2⟩
  have HB2 := Kp.mk (HB1.out.trans (hb2.mono HB1.out.size))
  have HC2 := Kp.mk (FsAt.of_row hrow hlenA)
  have HR2 := Kp.mk (row_keep HR1.out hb2)
  clear hrow hb2
  have hinfo : (Tryd.prog.info? 37).map (fun i => (i.zero, i.size, i.bytes)) = some (some (.agg #[.string ⟨#[]⟩, .string ⟨#[]⟩]), 2, 32) := by kernel_rfl
  obtain ⟨i0, hi, hz0, hz1, hz2⟩ := info_parts hinfo
  have hfm : fs.length + 5 ≤ maxLen := by unfold maxLen; omega
  have hBs2 := HB2.out.size
  go_wp2_with (at_builtin; refine wpList_append_own_at _ rfl (.tmp 14) (.tmp 16) 22 rfl W.heap.size 37 i0 (.agg #[.string ⟨#[]⟩, .string ⟨#[]⟩]) 2 32 Tryd.underlying22 hi hz0 hz1 hz2 rfl (by decide) (.slice (some ⟨W.heap.size, 0, none⟩) 4 4) 4 (flCells lineFs) rfl HR2.out ⟨w1.heap.size, 0, none⟩ fs.length fs.length (flCells fs) rfl (flCells_length fs) HC2.out.cells (flCells_one fs) (by omega) (by omega) hBs2 ?_)
  intro v3 w3 hown hg _ hat3
  have hown' := line_app hown
  obtain ⟨Ai, ci, rfl⟩ := row_slice hown'
  have HI3 := Kp.mk hown'
  have HB3 := Kp.mk (HB2.out.grown (row := some W.heap.size) hg HB2.out.size (fun k hk => by cases hk; exact Nat.le_refl _))
  obtain ⟨L, hL⟩ : ∃ L, L = lineFs ++ fs := ⟨_, rfl⟩
  have hLl : L.length = 4 + fs.length := by rw [hL, List.length_append]; rfl
  have hLlen : (L.length + 1) * 32 ≤ 140737488355328 := by omega
  rw [← hL] at HI3
  rw [← hL]
  have HL := Kp.mk hL
  have HF3 := Kp.mk (FsAt.of_row HI3.out hLlen)
  have HLl := Kp.mk hLl
  have HLlen := Kp.mk hLlen
  clear hown hg hat3 hown' hL hLl hLlen
  go_wp2_with fail
  (with_reducible refine (wide_any _).mono ?_)
  rintro e w4 ⟨rfl, hb⟩
  have HB4 := Kp.mk (HB3.out.trans (hb.mono HB3.out.size))
  have HF4 := Kp.mk (HF3.out.below hb)
  have HI4 := Kp.mk (row_keep HI3.out hb)
  clear hb
  go_wp2_with fail
  have HLZ := Kp.mk (line_sizes HL.out HZ.out)
  have hck := check_any (w := w4) (cp := ci) (c := 1048576) (s := 1073741824) HF4.out HLZ.out
  generalize hr : checkF L 1048576 1073741824 = r at hck
  have HRr := Kp.mk hr
  clear hr
  refine hck.mono ?_
  intro e w5 hp
  have hb5 := ck_below hp
  have HB5 := Kp.mk (HB4.out.trans (hb5.mono HB4.out.size))
  have HF5 := Kp.mk (HF4.out.below hb5)
  have HI5 := Kp.mk (row_keep HI4.out hb5)
  clear hb5
  have HRr2 := HRr
  cases r with
  | error c =>
    obtain ⟨rfl, _⟩ := hp
    have hce := check_err HRr.out
    have hc0 : (c == 0) = false := by unfold IsErr at hce; simp only [beq_eq_false_iff_ne, ne_eq]; omega
    have hc1 : ¬ c = 0 := by unfold IsErr at hce; omega
    clear hce
    simp only [reqNil]
    have HB6 := Kp.mk (HB5.out.alloc HB5.out.size (.cells reqZero 27))
    go_wp2_with fail
    refine (awake_any _).mono ?_
    rintro e w9 ⟨rfl, hb⟩
    have HB9 := Kp.mk (HB6.out.trans (hb.mono HB6.out.size))
    clear hb
    go_wp2_with fail
    go_ret
    exact ⟨rfl, HB0.out.trans (HB9.out.mono (Nat.le_of_lt hWs))⟩
  | ok st =>
    obtain ⟨fv, rfl, hrowf, _⟩ := hp
    obtain ⟨Af, cf, rfl⟩ := row_slice hrowf
    clear hrowf
    simp only [reqVal]
    have HB6 := Kp.mk (HB5.out.alloc HB5.out.size (.cells #[.string st.m, .string st.s, .string st.a, .string st.p, .slice Af st.fields.length cf, .int .i64 st.len] 27))
    have HF6 := Kp.mk (HF5.out.below ((Below.refl w5.heap.size w5).alloc (Nat.le_refl _) (.cells #[.string st.m, .string st.s, .string st.a, .string st.p, .slice Af st.fields.length cf, .int .i64 st.len] 27)))
    have HI6 := Kp.mk (row_keep HI5.out ((Below.refl w5.heap.size w5).alloc (Nat.le_refl _) (.cells #[.string st.m, .string st.s, .string st.a, .string st.p, .slice Af st.fields.length cf, .int .i64 st.len] 27)))
    by_cases g1 : at_ < 0
    · go_wp2_with fail
      refine (awake_any _).mono ?_
      rintro e w9 ⟨rfl, hb⟩
      have HB9 := Kp.mk (HB6.out.trans (hb.mono HB6.out.size))
      clear hb
      go_wp2_with fail
      go_ret
      exact ⟨rfl, HB0.out.trans (HB9.out.mono (Nat.le_of_lt hWs))⟩
    · by_cases g2 : at_ > fs.length
      · go_wp2_with fail
        refine (awake_any _).mono ?_
        rintro e w9 ⟨rfl, hb⟩
        have HB9 := Kp.mk (HB6.out.trans (hb.mono HB6.out.size))
        clear hb
        go_wp2_with fail
        go_ret
        exact ⟨rfl, HB0.out.trans (HB9.out.mono (Nat.le_of_lt hWs))⟩
      · by_cases g3 : (fs.length : Int) > 65536
        · go_wp2_with fail
          refine (awake_any _).mono ?_
          rintro e w9 ⟨rfl, hb⟩
          have HB9 := Kp.mk (HB6.out.trans (hb.mono HB6.out.size))
          clear hb
          go_wp2_with fail
          go_ret
          exact ⟨rfl, HB0.out.trans (HB9.out.mono (Nat.le_of_lt hWs))⟩
        · go_wp2_with fail
          generalize w5.alloc (.cells #[.string st.m, .string st.s, .string st.a, .string st.p, .slice Af st.fields.length cf, .int .i64 st.len] 27) = w6 at HB6 HF6 HI6 ⊢
          refine (Sizes_some HF6.out).mono ?_
          rintro e w7 ⟨⟨z, rfl⟩, hb⟩
          have HB7 := Kp.mk (HB6.out.trans (hb.mono HB6.out.size))
          have HF7 := Kp.mk (HF6.out.below hb)
          have HI7 := Kp.mk (row_keep HI6.out hb)
          clear hb
          by_cases g4 : z > 268435456
          · go_wp2_with fail
            refine (awake_any _).mono ?_
            rintro e w9 ⟨rfl, hb⟩
            have HB9 := Kp.mk (HB7.out.trans (hb.mono HB7.out.size))
            clear hb
            go_wp2_with fail
            go_ret
            exact ⟨rfl, HB0.out.trans (HB9.out.mono (Nat.le_of_lt hWs))⟩
          · have x0 : w7.cell? ⟨w.heap.size, 0, none⟩ = some (.string mn) := by rw [HB7.out.cell (p := ⟨w.heap.size, 0, none⟩) hWs, cell_of_blk HX0.out]; rfl
            have x1 : w7.cell? ⟨w.heap.size, 1, none⟩ = some (.string mv) := by rw [HB7.out.cell (p := ⟨w.heap.size, 1, none⟩) hWs, cell_of_blk HX0.out]; rfl
            have hb7 := (Below.refl w7.heap.size w7).alloc (Nat.le_refl _) (.cells #[.string mn, .string mv] 37)
            have hr7 : (w7.alloc (.cells #[.string mn, .string mv] 37)).ownsRow w7.heap.size 37 2 (.slice (some ⟨w7.heap.size, 0, none⟩) 1 1) ([⟨mn, mv⟩] : List Fl).length (flCells [⟨mn, mv⟩]) :=
              ⟨rfl, .inr ⟨_, _, _, rfl, Nat.le_refl _, heap_alloc_new _ _, Nat.le_refl _, by decide, rfl, rfl⟩⟩
            have HF8 := Kp.mk (FsAt.of_row (fs := [⟨mn, mv⟩]) (cp := 1) hr7 (by simp))
            have HB8 := Kp.mk (HB7.out.trans (hb7.mono HB7.out.size))
            have HI8 := Kp.mk (row_keep HI7.out hb7)
            clear hb7 hr7
            go_wp2_with fail
            refine (Sizes_some (fs := [⟨mn, mv⟩]) (cp := 1) HF8.out).mono ?_
            rintro e w8 ⟨⟨z2, rfl⟩, hb⟩
            have HB9 := Kp.mk (HB8.out.trans (hb.mono HB8.out.size))
            have HI9 := Kp.mk (row_keep HI8.out hb)
            clear hb x0 x1
            by_cases g5 : z2 > 268435456
            · go_wp2_with fail
              refine (awake_any _).mono ?_
              rintro e w9 ⟨rfl, hb⟩
              have HB10 := Kp.mk (HB9.out.trans (hb.mono HB9.out.size))
              clear hb
              go_wp2_with fail
              go_ret
              exact ⟨rfl, HB0.out.trans (HB10.out.mono (Nat.le_of_lt hWs))⟩
            · have x0 : w8.cell? ⟨w.heap.size, 0, none⟩ = some (.string mn) := by rw [HB9.out.cell (p := ⟨w.heap.size, 0, none⟩) hWs, cell_of_blk HX0.out]; rfl
              have x1 : w8.cell? ⟨w.heap.size, 1, none⟩ = some (.string mv) := by rw [HB9.out.cell (p := ⟨w.heap.size, 1, none⟩) hWs, cell_of_blk HX0.out]; rfl
              go_upto_region 5 with fail
              go_cut [10] from 53 to 66 (fun v10 wc => v10 = .bool (wrongB ⟨mn, mv⟩) ∧ Kp (Below w8.heap.size w8 wc))
              case first =>
                cases q1 : everyB nameR mn with
                | false =>
                  have HW : Kp (wrongB ⟨mn, mv⟩ = true) := ⟨by unfold wrongB; simp only []; rw [q1]; rfl⟩
                  have HQ1 := Kp.mk q1
                  clear q1
                  go_wp2_with fail
                  refine (name_any mn hmn _).mono ?_
                  rintro e w9 ⟨rfl, rfl⟩
                  rw [HQ1.out]
                  go_wp2_with fail
                  go_meet
                  case rel => exact ⟨by rw [HW.out], ⟨Below.refl _ _⟩⟩
                | true =>
                  have HQ1 := Kp.mk q1
                  cases q2 : valueB mv with
                  | false =>
                    have HW : Kp (wrongB ⟨mn, mv⟩ = true) := ⟨by unfold wrongB; simp only []; rw [q1, q2]; rfl⟩
                    have HQ2 := Kp.mk q2
                    clear q1 q2
                    go_wp2_with fail
                    refine (name_any mn hmn _).mono ?_
                    rintro e w9 ⟨rfl, rfl⟩
                    rw [HQ1.out]
                    go_wp2_with fail
                    refine (Value_any mv hmv _).mono ?_
                    rintro e w9 ⟨rfl, rfl⟩
                    rw [HQ2.out]
                    go_wp2_with fail
                    go_meet
                    case rel => exact ⟨by rw [HW.out], ⟨Below.refl _ _⟩⟩
                  | true =>
                    have HW : Kp (wrongB ⟨mn, mv⟩ = hopB mn.data.toList mv.data.toList) := ⟨by unfold wrongB; simp only []; rw [q1, q2]; rfl⟩
                    have HQ2 := Kp.mk q2
                    clear q1 q2
                    go_wp2_with fail
                    refine (name_any mn hmn _).mono ?_
                    rintro e w9 ⟨rfl, rfl⟩
                    rw [HQ1.out]
                    go_wp2_with fail
                    refine (Value_any mv hmv _).mono ?_
                    rintro e w9 ⟨rfl, rfl⟩
                    rw [HQ2.out]
                    go_wp2_with fail
                    refine (Hop_any mn mv _).mono ?_
                    rintro e w9 ⟨rfl, hb⟩
                    have HBc := Kp.mk hb
                    clear hb
                    go_wp2_with fail
                    go_meet
                    case rel => exact ⟨by rw [HW.out], HBc⟩
              case rest =>
                obtain ⟨rfl, HC⟩ := hcut
                obtain ⟨k, rfl⟩ : ∃ k : Nat, at_ = k := ⟨at_.toNat, by omega⟩
                have HBc := Kp.mk (HB9.out.trans (HC.out.mono HB9.out.size))
                have HIc := Kp.mk (row_keep HI9.out HC.out)
                have y0 : wc.cell? ⟨w.heap.size, 0, none⟩ = some (.string mn) := by rw [HBc.out.cell (p := ⟨w.heap.size, 0, none⟩) hWs, cell_of_blk HX0.out]; rfl
                have y1 : wc.cell? ⟨w.heap.size, 1, none⟩ = some (.string mv) := by rw [HBc.out.cell (p := ⟨w.heap.size, 1, none⟩) hWs, cell_of_blk HX0.out]; rfl
                clear x0 x1
                cases e1 : (mn.toList == [99, 111, 110, 116, 101, 110, 116, 45, 108, 101, 110, 103, 116, 104]) with
                | true =>
                  go_wp2_with fail
                  refine (awake_any _).mono ?_
                  rintro e w9 ⟨rfl, hb⟩
                  have HB10 := Kp.mk (HBc.out.trans (hb.mono HBc.out.size))
                  clear hb
                  go_wp2_with fail
                  go_ret
                  exact ⟨rfl, HB0.out.trans (HB10.out.mono (Nat.le_of_lt hWs))⟩
                | false =>
                  cases e2 : (mn.toList == [104, 111, 115, 116]) with
                  | true =>
                    go_wp2_with fail
                    refine (awake_any _).mono ?_
                    rintro e w9 ⟨rfl, hb⟩
                    have HB10 := Kp.mk (HBc.out.trans (hb.mono HBc.out.size))
                    clear hb
                    go_wp2_with fail
                    go_ret
                    exact ⟨rfl, HB0.out.trans (HB10.out.mono (Nat.le_of_lt hWs))⟩
                  | false =>
                    obtain ⟨g, rfl, hc1, hc2⟩ := row_cap HIc.out HLl.out
                    have hkf : k ≤ fs.length := by omega
                    have hkc : 4 + k ≤ ci := by omega
                    have HFc := Kp.mk (FsAt.of_row HIc.out HLlen.out)
                    have hnl : ((L.take (4 + k)).length = 4 + k) := by rw [List.length_take, HLl.out]; omega
                    have HT := Kp.mk (FsAt.take HFc.out (4 + k))
                    have hcl := Kp.mk (flCells_length (L.take (4 + k)))
                    rw [hnl] at hcl
                    have hBc := HBc.out.size
                    have hfm2 : 4 + k ≤ maxLen := by omega
                    have hby : (0 + (4 + k)) * 32 ≤ 140737488355328 := by omega
                    have hfm3 := room5m hkf hfl
                    have hby3 := room5 hkf hfl
                    clear hnl
                    go_upto_region 9 with fail
                    go_wp2_with (at_builtin; refine wpList_append_own_at _ rfl (.tmp 76) (.tmp 80) 22 rfl W.heap.size 37 i0 (.agg #[.string ⟨#[]⟩, .string ⟨#[]⟩]) 2 32 Tryd.underlying22 hi hz0 hz1 hz2 rfl (by decide) (.slice none 0 0) 0 [] rfl (World.ownsRow_nil _ _ _ _) ⟨g, 0, none⟩ (4 + k) ci (flCells (L.take (4 + k))) rfl hcl.out HT.out.cells (flCells_one _) (by omega) hby hBc ?_)
                    intro vA wA hownA hgA hnA hatA
                    obtain ⟨AA, cA, rfl⟩ := row_slice hownA
                    have hblkA : (Value.slice AA (4 + k) cA).ownBlock = some wc.heap.size := by
                      rcases hatA with h | h
                      · obtain ⟨_, ⟨h2, _⟩ | ⟨gg, _, _, h2, _⟩⟩ := hownA
                        · exact absurd h2 hnA
                        · rw [h2] at h; exact absurd h (by simp [Value.ownBlock])
                      · exact h
                    have HBA := Kp.mk (HBc.out.grown (row := none) hgA HBc.out.size (fun k hk => by cases hk))
                    have HIA := Kp.mk (HIc.out.kept (w' := wA) (row := none) hgA (.inr (by simp [Value.ownBlock])))
                    have HOA := Kp.mk hownA
                    have HKA := Kp.mk hblkA
                    have HgA := Kp.mk hgA
                    have z0 : wA.cell? ⟨w.heap.size, 0, none⟩ = some (.string mn) := by rw [HBA.out.cell (p := ⟨w.heap.size, 0, none⟩) hWs, cell_of_blk HX0.out]; rfl
                    have z1 : wA.cell? ⟨w.heap.size, 1, none⟩ = some (.string mv) := by rw [HBA.out.cell (p := ⟨w.heap.size, 1, none⟩) hWs, cell_of_blk HX0.out]; rfl
                    have hbn := (Below.refl wA.heap.size wA).alloc (Nat.le_refl _) (.cells #[.string mn, .string mv] 37)
                    have HBN := Kp.mk (HBA.out.trans (hbn.mono HBA.out.size))
                    have HIN := Kp.mk (row_keep HIA.out hbn)
                    have HON := Kp.mk (row_keep HOA.out hbn)
                    have hrn : (wA.alloc (.cells #[.string mn, .string mv] 37)).ownsRow wA.heap.size 37 2 (.slice (some ⟨wA.heap.size, 0, none⟩) 1 1) ([⟨mn, mv⟩] : List Fl).length (flCells [⟨mn, mv⟩]) :=
                      ⟨rfl, .inr ⟨_, _, _, rfl, Nat.le_refl _, heap_alloc_new _ _, Nat.le_refl _, by decide, rfl, rfl⟩⟩
                    have HFN := Kp.mk (FsAt.of_row (fs := [⟨mn, mv⟩]) (cp := 1) hrn (by simp))
                    have hBN := HBN.out.size
                    clear hownA hgA hnA hatA hblkA hbn hrn y0 y1 hby
                    go_upto_region 10 with fail
                    go_wp2_with (at_builtin; refine wpList_append_own_at _ rfl (.tmp 82) (.tmp 84) 22 rfl W.heap.size 37 i0 (.agg #[.string ⟨#[]⟩, .string ⟨#[]⟩]) 2 32 Tryd.underlying22 hi hz0 hz1 hz2 rfl (by decide) (.slice AA (4 + k) cA) (4 + k) (flCells (L.take (4 + k))) rfl HON.out ⟨wA.heap.size, 0, none⟩ 1 1 (flCells [⟨mn, mv⟩]) rfl rfl HFN.out.cells (flCells_one _) hfm3 hby3 hBN ?_)
                    intro vB wB hownB hgB hnB hatB
                    obtain ⟨AB, cB, rfl⟩ := row_slice hownB
                    have HBB := Kp.mk (HBN.out.grown (row := some wc.heap.size) (HKA.out ▸ hgB) HBN.out.size (fun k hk => by cases hk; exact HBc.out.size))
                    have hgne : g ≠ wc.heap.size := Nat.ne_of_lt (row_lt HIc.out)
                    have HIB := Kp.mk (HIN.out.kept (w' := wB) (row := some wc.heap.size) (HKA.out ▸ hgB) (.inr (by simp [Value.ownBlock, hgne])))
                    have hblkB : (Value.slice AB (4 + k + 1) cB).ownBlock = some wc.heap.size ∨ (Value.slice AB (4 + k + 1) cB).ownBlock = some (wA.heap.size + 1) := by rw [HKA.out] at hatB; exact hatB
                    have HOB := Kp.mk hownB
                    have HKB := Kp.mk hblkB
                    have HFB := Kp.mk (FsAt.of_row HIB.out HLlen.out)
                    clear hownB hgB hnB hatB hblkB hgne z0 z1
                    go_upto_region 11 with fail
                    have hnd : ((L.drop (4 + k)).length = L.length - (4 + k)) := List.length_drop ..
                    have HD := Kp.mk (FsAt.dropAt HFB.out (4 + k))
                    have hcd := Kp.mk (flCells_length (L.drop (4 + k)))
                    rw [hnd] at hcd
                    have hBB := HBB.out.size
                    have hll : 4 + k ≤ L.length := by rw [HLl.out]; omega
                    have hby4 := room6 hkf hfl HLl.out
                    have hfm4 := room6m hkf hfl HLl.out
                    clear hnd
                    have hci : L.length ≤ ci := by rw [HLl.out]; exact hc1
                    by_cases hce : ci = 4 + k
                    · have HD0 : Kp (FsAt wB (some ⟨g, 0, none⟩) (L.drop (4 + k))) := ⟨⟨fun j hj => absurd hj (by rw [List.length_drop]; omega), HD.out.len⟩⟩
                      go_wp2_with (at_builtin; refine wpList_append_own_at _ rfl (.tmp 86) (.tmp 90) 22 rfl W.heap.size 37 i0 (.agg #[.string ⟨#[]⟩, .string ⟨#[]⟩]) 2 32 Tryd.underlying22 hi hz0 hz1 hz2 rfl (by decide) (.slice AB (4 + k + 1) cB) (4 + k + 1) _ rfl HOB.out ⟨g, 0, none⟩ (L.length - (4 + k)) _ (flCells (L.drop (4 + k))) rfl hcd.out HD0.out.cells (flCells_one _) hfm4 hby4 hBB ?_)
                      intro vC wC hownC hgC hnC hatC
                      have hlW : (L.take (4 + k) ++ [(⟨mn, mv⟩ : Fl)] ++ L.drop (4 + k)).length = 4 + k + 1 + (L.length - (4 + k)) := by rw [List.length_append, List.length_append, List.length_take, List.length_drop, Nat.min_eq_left hll]; rfl
                      have hcW : flCells (L.take (4 + k) ++ [(⟨mn, mv⟩ : Fl)] ++ L.drop (4 + k)) = flCells (L.take (4 + k)) ++ (flCells [⟨mn, mv⟩] ++ flCells (L.drop (4 + k))) := by rw [flCells_app, flCells_app, List.append_assoc]
                      rw [← hlW, ← hcW] at hownC
                      obtain ⟨AC, cC, rfl⟩ := row_slice hownC
                      have HBC := Kp.mk (HBB.out.grown (row := (Value.slice AB (4 + k + 1) cB).ownBlock) hgC HBB.out.size (fun j hj => blk_le HKB.out HBc.out.size (Nat.le_succ_of_le HBA.out.size) hj))
                      have HFC := Kp.mk (FsAt.of_row hownC (spoilt_len hlW HLl.out hkf hfl))
                      have HP := Kp.mk (spoilt_in (fs := fs) (k := k) (f := ⟨mn, mv⟩) HL.out HRr.out htot (by omega) e1 e2)
                      have HWZ := Kp.mk (spoilt_sizes (L := L) (k := k) (f := ⟨mn, mv⟩) HLZ.out ⟨hmn, hmv⟩)
                      clear hownC hgC hnC hatC hcW hlW
                      obtain ⟨Wl, hWl⟩ : ∃ Wl, Wl = L.take (4 + k) ++ [(⟨mn, mv⟩ : Fl)] ++ L.drop (4 + k) := ⟨_, rfl⟩
                      rw [← hWl] at HFC HP HWZ
                      rw [← hWl]
                      clear hWl
                      go_wp2_with fail
                      (with_reducible refine (wide_any _).mono ?_)
                      rintro e wD ⟨rfl, hb⟩
                      have HBD := Kp.mk (HBC.out.trans (hb.mono HBC.out.size))
                      have HFD := Kp.mk (HFC.out.below hb)
                      clear hb
                      go_wp2_with fail
                      have hck2 := check_any (w := wD) (cp := cC) (c := 1048576) (s := 1073741824) HFD.out HWZ.out
                      generalize checkF Wl 1048576 1073741824 = r2 at hck2 HP
                      refine hck2.mono ?_
                      intro e wE hp2
                      have HBE := Kp.mk (HBD.out.trans ((ck_below hp2).mono HBD.out.size))
                      cases hw : wrongB ⟨mn, mv⟩ with
                      | true =>
                        obtain ⟨c2, rfl, hce⟩ := if_true_of HP.out hw
                        obtain ⟨rfl, _⟩ := hp2
                        have hc0 : (c2 == 0) = false := by unfold IsErr at hce; simp only [beq_eq_false_iff_ne, ne_eq]; omega
                        have hc1 : ¬ c2 = 0 := by unfold IsErr at hce; omega
                        clear hce
                        simp only [reqNil]
                        have HBF := Kp.mk (HBE.out.alloc HBE.out.size (.cells reqZero 27))
                        go_wp2_with fail
                        refine (awake_any _).mono ?_
                        rintro e wG ⟨rfl, hb⟩
                        have HBG := Kp.mk (HBF.out.trans (hb.mono HBF.out.size))
                        clear hb
                        go_wp2_with fail
                        go_ret
                        exact ⟨congrArg (fun b => Ending.returned (Value.bool b)) (ne_true hc1), HB0.out.trans (HBG.out.mono (Nat.le_of_lt hWs))⟩
                      | false =>
                        obtain ⟨st2, rfl⟩ := if_false_of HP.out hw
                        obtain ⟨fv2, rfl, hrow2, _⟩ := hp2
                        obtain ⟨Af2, cf2, rfl⟩ := row_slice hrow2
                        clear hrow2
                        simp only [reqVal]
                        have HBF := Kp.mk (HBE.out.alloc HBE.out.size (.cells #[.string st2.m, .string st2.s, .string st2.a, .string st2.p, .slice Af2 st2.fields.length cf2, .int .i64 st2.len] 27))
                        go_wp2_with fail
                        refine (awake_any _).mono ?_
                        rintro e wG ⟨rfl, hb⟩
                        have HBG := Kp.mk (HBF.out.trans (hb.mono HBF.out.size))
                        clear hb
                        go_wp2_with fail
                        go_ret
                        exact ⟨rfl, HB0.out.trans (HBG.out.mono (Nat.le_of_lt hWs))⟩
                    · go_wp2_with (at_builtin; refine wpList_append_own_at _ rfl (.tmp 86) (.tmp 90) 22 rfl W.heap.size 37 i0 (.agg #[.string ⟨#[]⟩, .string ⟨#[]⟩]) 2 32 Tryd.underlying22 hi hz0 hz1 hz2 rfl (by decide) (.slice AB (4 + k + 1) cB) (4 + k + 1) _ rfl HOB.out ⟨g, (4 + k) * 2, none⟩ (L.length - (4 + k)) _ (flCells (L.drop (4 + k))) rfl hcd.out HD.out.cells (flCells_one _) hfm4 hby4 hBB ?_)
                      intro vC wC hownC hgC hnC hatC
                      have hlW : (L.take (4 + k) ++ [(⟨mn, mv⟩ : Fl)] ++ L.drop (4 + k)).length = 4 + k + 1 + (L.length - (4 + k)) := by rw [List.length_append, List.length_append, List.length_take, List.length_drop, Nat.min_eq_left hll]; rfl
                      have hcW : flCells (L.take (4 + k) ++ [(⟨mn, mv⟩ : Fl)] ++ L.drop (4 + k)) = flCells (L.take (4 + k)) ++ (flCells [⟨mn, mv⟩] ++ flCells (L.drop (4 + k))) := by rw [flCells_app, flCells_app, List.append_assoc]
                      rw [← hlW, ← hcW] at hownC
                      obtain ⟨AC, cC, rfl⟩ := row_slice hownC
                      have HBC := Kp.mk (HBB.out.grown (row := (Value.slice AB (4 + k + 1) cB).ownBlock) hgC HBB.out.size (fun j hj => blk_le HKB.out HBc.out.size (Nat.le_succ_of_le HBA.out.size) hj))
                      have HFC := Kp.mk (FsAt.of_row hownC (spoilt_len hlW HLl.out hkf hfl))
                      have HP := Kp.mk (spoilt_in (fs := fs) (k := k) (f := ⟨mn, mv⟩) HL.out HRr.out htot (by omega) e1 e2)
                      have HWZ := Kp.mk (spoilt_sizes (L := L) (k := k) (f := ⟨mn, mv⟩) HLZ.out ⟨hmn, hmv⟩)
                      clear hownC hgC hnC hatC hcW hlW
                      obtain ⟨Wl, hWl⟩ : ∃ Wl, Wl = L.take (4 + k) ++ [(⟨mn, mv⟩ : Fl)] ++ L.drop (4 + k) := ⟨_, rfl⟩
                      rw [← hWl] at HFC HP HWZ
                      rw [← hWl]
                      clear hWl
                      go_wp2_with fail
                      (with_reducible refine (wide_any _).mono ?_)
                      rintro e wD ⟨rfl, hb⟩
                      have HBD := Kp.mk (HBC.out.trans (hb.mono HBC.out.size))
                      have HFD := Kp.mk (HFC.out.below hb)
                      clear hb
                      go_wp2_with fail
                      have hck2 := check_any (w := wD) (cp := cC) (c := 1048576) (s := 1073741824) HFD.out HWZ.out
                      generalize checkF Wl 1048576 1073741824 = r2 at hck2 HP
                      refine hck2.mono ?_
                      intro e wE hp2
                      have HBE := Kp.mk (HBD.out.trans ((ck_below hp2).mono HBD.out.size))
                      cases hw : wrongB ⟨mn, mv⟩ with
                      | true =>
                        obtain ⟨c2, rfl, hce⟩ := if_true_of HP.out hw
                        obtain ⟨rfl, _⟩ := hp2
                        have hc0 : (c2 == 0) = false := by unfold IsErr at hce; simp only [beq_eq_false_iff_ne, ne_eq]; omega
                        have hc1 : ¬ c2 = 0 := by unfold IsErr at hce; omega
                        clear hce
                        simp only [reqNil]
                        have HBF := Kp.mk (HBE.out.alloc HBE.out.size (.cells reqZero 27))
                        go_wp2_with fail
                        refine (awake_any _).mono ?_
                        rintro e wG ⟨rfl, hb⟩
                        have HBG := Kp.mk (HBF.out.trans (hb.mono HBF.out.size))
                        clear hb
                        go_wp2_with fail
                        go_ret
                        exact ⟨congrArg (fun b => Ending.returned (Value.bool b)) (ne_true hc1), HB0.out.trans (HBG.out.mono (Nat.le_of_lt hWs))⟩
                      | false =>
                        obtain ⟨st2, rfl⟩ := if_false_of HP.out hw
                        obtain ⟨fv2, rfl, hrow2, _⟩ := hp2
                        obtain ⟨Af2, cf2, rfl⟩ := row_slice hrow2
                        clear hrow2
                        simp only [reqVal]
                        have HBF := Kp.mk (HBE.out.alloc HBE.out.size (.cells #[.string st2.m, .string st2.s, .string st2.a, .string st2.p, .slice Af2 st2.fields.length cf2, .int .i64 st2.len] 27))
                        go_wp2_with fail
                        refine (awake_any _).mono ?_
                        rintro e wG ⟨rfl, hb⟩
                        have HBG := Kp.mk (HBF.out.trans (hb.mono HBF.out.size))
                        clear hb
                        go_wp2_with fail
                        go_ret
                        exact ⟨rfl, HB0.out.trans (HBG.out.mono (Nat.le_of_lt hWs))⟩

end Go.Proofs.YtohhdoibkopoiaaDoor.Msg
