/- The law MessageChecks, walked. -/
import Derived.Test.YtohhdoibkopoiaaDoorRefCheck
import Derived.Test.YtohhdoibkopoiaaDoorMsgSame
set_option linter.unusedVariables false
set_option linter.unusedSimpArgs false
namespace Go.Proofs.YtohhdoibkopoiaaDoor.Msg
open Go.RowKit Go.Proofs.YtohhdoibkopoiaaDoor.Mp

/-- one cell of an own row written -/
theorem row_mark {w : World} {base e l c n g j : Nat} {xs : List Value} (h : w.ownsRow base e 2 (.slice (some ⟨g, 0, none⟩) l c) n xs) (u : Value) :
    ∃ xs', (w.setCell ⟨g, j, none⟩ u).ownsRow base e 2 (.slice (some ⟨g, 0, none⟩) l c) n xs' := by
  obtain ⟨h0, ⟨h1, _⟩ | ⟨g', cap, cur, hv, hg, hh, hn, hc, hs, ht⟩⟩ := h
  · cases h1
  · simp only [Value.slice.injEq, Option.some.injEq, Addr.mk.injEq] at hv
    obtain ⟨⟨rfl, _⟩, rfl, rfl⟩ := hv
    refine ⟨(cur.setIfInBounds j u).toList.take (l * 2), ?_, .inr ⟨g, c, _, rfl, hg, setCell_blk hh j u, hn, hc, by simpa using hs, rfl⟩⟩
    have h2 : l * 2 ≤ c * 2 := Nat.mul_le_mul_right 2 hn
    rw [List.length_take]
    simp only [Array.length_toList, Array.size_setIfInBounds]
    omega

theorem row_cell {w : World} {base e l c n j : Nat} {A : Option Addr} {xs : List Value} (h : w.ownsRow base e 2 (.slice A l c) n xs) (hj : j < n) :
    ∃ g u, A = some ⟨g, 0, none⟩ ∧ base ≤ g ∧ g < w.heap.size ∧ w.cell? ⟨g, j * 2, none⟩ = some u ∧ (∀ i, w.frozen? ⟨g, i, none⟩ = false) := by
  obtain ⟨h0, ⟨h1, h2⟩ | ⟨g', cap, cur, hv, hg, hh, hn, hc, hs, ht⟩⟩ := h
  · omega
  · simp only [Value.slice.injEq] at hv
    obtain ⟨rfl, rfl, rfl⟩ := hv
    have hlt : j * 2 < cur.size := by rw [hs]; omega
    exact ⟨g', cur[j * 2], rfl, hg, lt_of_heap hh, by rw [cell_of_blk hh]; exact Array.getElem?_eq_getElem hlt, free_of_blk hh⟩

set_option maxRecDepth 100000 in
set_option maxHeartbeats 1000000 in
theorem MessageChecks_any {w : World} {A : Option Addr} {fs : List Fl} {cp : Nat} (h : FsAt w A fs) (hsz : ∀ f ∈ fs, f.n.size ≤ 9223372036854775807 ∧ f.v.size ≤ 9223372036854775807) (c s : Int) :
    Calls Tryd.prog 3 #[.slice A fs.length cp, .agg #[.int .i64 c, .int .i64 s]] w fun e w' => e = .returned (.bool true) ∧ Below w.heap.size w w' := by
  have hlenA := h.len
  have H := Kp.mk h
  have HZ := Kp.mk hsz
  have HB0 := Kp.mk ((Below.refl w.heap.size w).alloc (Nat.le_refl _) (.cells #[.int .i64 c, .int .i64 s] 24))
  have HX0 := Kp.mk (heap_alloc_new w (.cells #[.int .i64 c, .int .i64 s] 24))
  clear h hsz
  go_enter Tryd.func3, Tryd.ntmps3
  go_upto_region 1 with fail
  generalize w.alloc (.cells #[.int .i64 c, .int .i64 s] 24) = W at HB0 HX0 ⊢
  have HWs := Kp.mk (lt_of_heap HX0.out)
  go_wp2_with fail
  refine (copy_any (H.out.below HB0.out)).mono ?_
  rintro e w2 ⟨rfl, hrow, hb⟩
  have HB2 := Kp.mk (HB0.out.trans (hb.mono HB0.out.size))
  have HI2 := Kp.mk (FsAt.of_row hrow hlenA)
  have HX2 := Kp.mk ((hb.block _ HWs.out).trans HX0.out)
  have HA2 := Kp.mk (H.out.below HB2.out)
  clear hrow hb
  have x0 : w2.cell? ⟨w.heap.size, 0, none⟩ = some (.int .i64 c) := by rw [cell_of_blk HX2.out]; rfl
  have x1 : w2.cell? ⟨w.heap.size, 1, none⟩ = some (.int .i64 s) := by rw [cell_of_blk HX2.out]; rfl
  have hlt2 := lt_of_heap HX2.out
  go_wp2_with fail
  have hck := check_any (w := w2) (cp := fs.length) (c := c) (s := s) HI2.out HZ.out
  generalize hr : checkF fs c s = r at hck
  have HRr := Kp.mk hr
  clear hr
  refine hck.mono ?_
  intro e w3 hp
  have HC3 := Kp.mk (ck_below hp)
  have y0 : w3.cell? ⟨w.heap.size, 0, none⟩ = some (.int .i64 c) := (HC3.out.cell (p := ⟨w.heap.size, 0, none⟩) hlt2).trans x0
  have y1 : w3.cell? ⟨w.heap.size, 1, none⟩ = some (.int .i64 s) := (HC3.out.cell (p := ⟨w.heap.size, 1, none⟩) hlt2).trans x1
  clear x0 x1 hck
  cases r with
  | error c1 =>
    obtain ⟨rfl, _⟩ := hp
    have hnil : ∀ W : World, FsAt W none [] := fun W => ⟨fun k hk => absurd hk (by simp), by decide⟩
    simp only [reqNil]
    have hb4 := (Below.refl w3.heap.size w3).alloc (Nat.le_refl _) (.cells #[.string ⟨#[]⟩, .string ⟨#[]⟩, .string ⟨#[]⟩, .string ⟨#[]⟩, .slice none 0 0, .int .i64 0] 27)
    have hx4 := heap_alloc_new w3 (.cells #[.string ⟨#[]⟩, .string ⟨#[]⟩, .string ⟨#[]⟩, .string ⟨#[]⟩, .slice none 0 0, .int .i64 0] 27)
    have hlt3 := Nat.lt_of_lt_of_le hlt2 HC3.out.size
    go_upto_region 3 with fail
    generalize w3.alloc (.cells #[.string ⟨#[]⟩, .string ⟨#[]⟩, .string ⟨#[]⟩, .string ⟨#[]⟩, .slice none 0 0, .int .i64 0] 27) = w4 at hb4 hx4 ⊢
    have z0 : w4.cell? ⟨w.heap.size, 0, none⟩ = some (.int .i64 c) := (hb4.cell (p := ⟨w.heap.size, 0, none⟩) hlt3).trans y0
    have z1 : w4.cell? ⟨w.heap.size, 1, none⟩ = some (.int .i64 s) := (hb4.cell (p := ⟨w.heap.size, 1, none⟩) hlt3).trans y1
    have HC4 := Kp.mk (HC3.out.trans (hb4.mono HC3.out.size))
    have HX4 := Kp.mk hx4
    clear hb4 hx4 y0 y1
    go_wp2_with fail
    have hck2 := Check_any (w := w4) (cp := cp) (HA2.out.below (HC4.out.mono (Nat.le_refl _))) HZ.out c s
    rw [HRr.out] at hck2
    refine hck2.mono ?_
    intro e w5 hp2
    have hb5 := ck_below hp2
    have HC5 := Kp.mk (HC4.out.trans (hb5.mono HC4.out.size))
    have HX5 := Kp.mk ((hb5.block _ (lt_of_heap HX4.out)).trans HX4.out)
    obtain ⟨rfl, _⟩ := hp2
    simp only [reqNil]
    clear hb5 hck2 z0 z1
    have hb6 := (Below.refl w5.heap.size w5).alloc (Nat.le_refl _) (.cells #[.string ⟨#[]⟩, .string ⟨#[]⟩, .string ⟨#[]⟩, .string ⟨#[]⟩, .slice none 0 0, .int .i64 0] 31)
    have hx6 := heap_alloc_new w5 (.cells #[.string ⟨#[]⟩, .string ⟨#[]⟩, .string ⟨#[]⟩, .string ⟨#[]⟩, .slice none 0 0, .int .i64 0] 31)
    go_upto_region 4 with fail
    generalize w5.alloc (.cells #[.string ⟨#[]⟩, .string ⟨#[]⟩, .string ⟨#[]⟩, .string ⟨#[]⟩, .slice none 0 0, .int .i64 0] 31) = w6 at hb6 hx6 ⊢
    have HC6 := Kp.mk (HC5.out.trans (hb6.mono HC5.out.size))
    have HX6 := Kp.mk ((hb6.block _ (lt_of_heap HX5.out)).trans HX5.out)
    have a0 : w6.cell? ⟨w3.heap.size, 0, none⟩ = some (.string ⟨#[]⟩) := by rw [cell_of_blk HX6.out]; rfl
    have a1 : w6.cell? ⟨w3.heap.size, 1, none⟩ = some (.string ⟨#[]⟩) := by rw [cell_of_blk HX6.out]; rfl
    have a2 : w6.cell? ⟨w3.heap.size, 2, none⟩ = some (.string ⟨#[]⟩) := by rw [cell_of_blk HX6.out]; rfl
    have a3 : w6.cell? ⟨w3.heap.size, 3, none⟩ = some (.string ⟨#[]⟩) := by rw [cell_of_blk HX6.out]; rfl
    have a4 : w6.cell? ⟨w3.heap.size, 4, none⟩ = some (.slice none 0 0) := by rw [cell_of_blk HX6.out]; rfl
    have a5 : w6.cell? ⟨w3.heap.size, 5, none⟩ = some (.int .i64 0) := by rw [cell_of_blk HX6.out]; rfl
    have b0 : w6.cell? ⟨w5.heap.size, 0, none⟩ = some (.string ⟨#[]⟩) := by rw [cell_of_blk hx6]; rfl
    have b1 : w6.cell? ⟨w5.heap.size, 1, none⟩ = some (.string ⟨#[]⟩) := by rw [cell_of_blk hx6]; rfl
    have b2 : w6.cell? ⟨w5.heap.size, 2, none⟩ = some (.string ⟨#[]⟩) := by rw [cell_of_blk hx6]; rfl
    have b3 : w6.cell? ⟨w5.heap.size, 3, none⟩ = some (.string ⟨#[]⟩) := by rw [cell_of_blk hx6]; rfl
    have b4 : w6.cell? ⟨w5.heap.size, 4, none⟩ = some (.slice none 0 0) := by rw [cell_of_blk hx6]; rfl
    have b5 : w6.cell? ⟨w5.heap.size, 5, none⟩ = some (.int .i64 0) := by rw [cell_of_blk hx6]; rfl
    clear hb6 hx6
    go_wp2_with fail
    refine (same_true (fs := []) (cp := 0) (cp' := 0) (hnil _) (hnil _) _ _ _ _ _).mono ?_
    rintro e w7 ⟨rfl, hb⟩
    have HC7 := Kp.mk (HC6.out.trans (hb.mono HC6.out.size))
    have HX7 := Kp.mk ((hb.block _ (lt_of_heap HX6.out)).trans HX6.out)
    clear hb a0 a1 a2 a3 a4 a5 b0 b1 b2 b3 b4 b5
    have hcc : (c1 != c1) = false := by simp
    go_wp2_with fail
    refine (Same_true (fs := fs) (cp := fs.length) (cp' := cp) (HI2.out.below HC7.out) (HA2.out.below HC7.out)).mono ?_
    rintro e w8 ⟨rfl, hb⟩
    have HC8 := Kp.mk (HC7.out.trans (hb.mono HC7.out.size))
    have HX8 := Kp.mk ((hb.block _ (lt_of_heap HX7.out)).trans HX7.out)
    clear hb
    have d4 : w8.cell? ⟨w3.heap.size, 4, none⟩ = some (.slice none 0 0) := by rw [cell_of_blk HX8.out]; rfl
    go_wp2_with fail
    go_loopw [46] (fun v wr => v = .int .i64 0 ∧ wr = w8) (fun _ _ => 0)
    case atStart => exact ⟨rfl, rfl⟩
    case round =>
      obtain ⟨rfl, rfl⟩ := hrel
      go_wp2_with fail
      refine (Same_true (fs := fs) (cp := fs.length) (cp' := cp) (HI2.out.below HC8.out) (HA2.out.below HC8.out)).mono ?_
      rintro e w9 ⟨rfl, hb⟩
      have HC9 := Kp.mk (HC8.out.trans (hb.mono HC8.out.size))
      clear hb
      go_wp2_with fail
      refine (awake_any _).mono ?_
      rintro e w10 ⟨rfl, hb⟩
      have HC10 := Kp.mk (HC9.out.trans (hb.mono HC9.out.size))
      clear hb
      go_wp2_with fail
      go_ret
      exact ⟨rfl, HB2.out.trans (HC10.out.mono HB2.out.size)⟩
  | ok st =>
    obtain ⟨fv, rfl, hrowf, _⟩ := hp
    obtain ⟨Af, cf, rfl⟩ := row_slice hrowf
    have HRF := Kp.mk hrowf
    have HFl := Kp.mk (show (st.fields.length + 1) * 32 ≤ 140737488355328 from by have := check_size HRr.out; omega)
    have HFf := Kp.mk (FsAt.of_row hrowf HFl.out)
    clear hrowf
    simp only [reqVal]
    have hb4 := (Below.refl w3.heap.size w3).alloc (Nat.le_refl _) (.cells #[.string st.m, .string st.s, .string st.a, .string st.p, .slice Af st.fields.length cf, .int .i64 st.len] 27)
    have hx4 := heap_alloc_new w3 (.cells #[.string st.m, .string st.s, .string st.a, .string st.p, .slice Af st.fields.length cf, .int .i64 st.len] 27)
    have hlt3 := Nat.lt_of_lt_of_le hlt2 HC3.out.size
    go_upto_region 3 with fail
    generalize w3.alloc (.cells #[.string st.m, .string st.s, .string st.a, .string st.p, .slice Af st.fields.length cf, .int .i64 st.len] 27) = w4 at hb4 hx4 ⊢
    have z0 : w4.cell? ⟨w.heap.size, 0, none⟩ = some (.int .i64 c) := (hb4.cell (p := ⟨w.heap.size, 0, none⟩) hlt3).trans y0
    have z1 : w4.cell? ⟨w.heap.size, 1, none⟩ = some (.int .i64 s) := (hb4.cell (p := ⟨w.heap.size, 1, none⟩) hlt3).trans y1
    have HC4 := Kp.mk (HC3.out.trans (hb4.mono HC3.out.size))
    have HX4 := Kp.mk hx4
    have HFf4 := Kp.mk (HFf.out.below hb4)
    have HRF4 := Kp.mk (row_keep HRF.out hb4)
    clear hb4 hx4 y0 y1
    go_wp2_with fail
    have hck2 := Check_any (w := w4) (cp := cp) (HA2.out.below (HC4.out.mono (Nat.le_refl _))) HZ.out c s
    rw [HRr.out] at hck2
    refine hck2.mono ?_
    intro e w5 hp2
    have hb5 := ck_below hp2
    have HC5 := Kp.mk (HC4.out.trans (hb5.mono HC4.out.size))
    have HX5 := Kp.mk ((hb5.block _ (lt_of_heap HX4.out)).trans HX4.out)
    obtain ⟨fv2, rfl, hrow2, _⟩ := hp2
    obtain ⟨Af2, cf2, rfl⟩ := row_slice hrow2
    have HFg := Kp.mk (FsAt.of_row hrow2 HFl.out)
    have HFf5 := Kp.mk (HFf4.out.below hb5)
    have HRF5 := Kp.mk (row_keep HRF4.out hb5)
    clear hrow2
    simp only [reqVal]
    clear hb5 hck2 z0 z1
    have hb6 := (Below.refl w5.heap.size w5).alloc (Nat.le_refl _) (.cells #[.string st.m, .string st.s, .string st.a, .string st.p, .slice Af2 st.fields.length cf2, .int .i64 st.len] 31)
    have hx6 := heap_alloc_new w5 (.cells #[.string st.m, .string st.s, .string st.a, .string st.p, .slice Af2 st.fields.length cf2, .int .i64 st.len] 31)
    go_upto_region 4 with fail
    generalize w5.alloc (.cells #[.string st.m, .string st.s, .string st.a, .string st.p, .slice Af2 st.fields.length cf2, .int .i64 st.len] 31) = w6 at hb6 hx6 ⊢
    have HC6 := Kp.mk (HC5.out.trans (hb6.mono HC5.out.size))
    have HX6 := Kp.mk ((hb6.block _ (lt_of_heap HX5.out)).trans HX5.out)
    have HFg6 := Kp.mk (HFg.out.below hb6)
    have HFf6 := Kp.mk (HFf5.out.below hb6)
    have HRF6 := Kp.mk (row_keep HRF5.out hb6)
    have a0 : w6.cell? ⟨w3.heap.size, 0, none⟩ = some (.string st.m) := by rw [cell_of_blk HX6.out]; rfl
    have a1 : w6.cell? ⟨w3.heap.size, 1, none⟩ = some (.string st.s) := by rw [cell_of_blk HX6.out]; rfl
    have a2 : w6.cell? ⟨w3.heap.size, 2, none⟩ = some (.string st.a) := by rw [cell_of_blk HX6.out]; rfl
    have a3 : w6.cell? ⟨w3.heap.size, 3, none⟩ = some (.string st.p) := by rw [cell_of_blk HX6.out]; rfl
    have a4 : w6.cell? ⟨w3.heap.size, 4, none⟩ = some (.slice Af st.fields.length cf) := by rw [cell_of_blk HX6.out]; rfl
    have a5 : w6.cell? ⟨w3.heap.size, 5, none⟩ = some (.int .i64 st.len) := by rw [cell_of_blk HX6.out]; rfl
    have b0 : w6.cell? ⟨w5.heap.size, 0, none⟩ = some (.string st.m) := by rw [cell_of_blk hx6]; rfl
    have b1 : w6.cell? ⟨w5.heap.size, 1, none⟩ = some (.string st.s) := by rw [cell_of_blk hx6]; rfl
    have b2 : w6.cell? ⟨w5.heap.size, 2, none⟩ = some (.string st.a) := by rw [cell_of_blk hx6]; rfl
    have b3 : w6.cell? ⟨w5.heap.size, 3, none⟩ = some (.string st.p) := by rw [cell_of_blk hx6]; rfl
    have b4 : w6.cell? ⟨w5.heap.size, 4, none⟩ = some (.slice Af2 st.fields.length cf2) := by rw [cell_of_blk hx6]; rfl
    have b5 : w6.cell? ⟨w5.heap.size, 5, none⟩ = some (.int .i64 st.len) := by rw [cell_of_blk hx6]; rfl
    clear hb6 hx6
    go_wp2_with fail
    refine (same_true (fs := st.fields) (cp := cf) (cp' := cf2) HFf6.out HFg6.out _ _ _ _ _).mono ?_
    rintro e w7 ⟨rfl, hb⟩
    have HC7 := Kp.mk (HC6.out.trans (hb.mono HC6.out.size))
    have HX7 := Kp.mk ((hb.block _ (lt_of_heap HX6.out)).trans HX6.out)
    have HRF7 := Kp.mk (row_keep HRF6.out hb)
    clear hb a0 a1 a2 a3 a4 a5 b0 b1 b2 b3 b4 b5
    skip
    go_wp2_with fail
    refine (Same_true (fs := fs) (cp := fs.length) (cp' := cp) (HI2.out.below HC7.out) (HA2.out.below HC7.out)).mono ?_
    rintro e w8 ⟨rfl, hb⟩
    have HC8 := Kp.mk (HC7.out.trans (hb.mono HC7.out.size))
    have HX8 := Kp.mk ((hb.block _ (lt_of_heap HX7.out)).trans HX7.out)
    have HRF8 := Kp.mk (row_keep HRF7.out hb)
    clear hb
    have d4 : w8.cell? ⟨w3.heap.size, 4, none⟩ = some (.slice Af st.fields.length cf) := by rw [cell_of_blk HX8.out]; rfl
    have hfl : st.fields.length ≤ 9223372036854775807 := by have := HFl.out; omega
    have HLT : Kp (∀ g, Af = some ⟨g, 0, none⟩ → g ≠ w3.heap.size) := ⟨fun g hg => by
      subst hg
      exact Nat.ne_of_lt (row_lt HRF.out)⟩
    go_wp2_with fail
    go_loopw [46] (fun v wr => ∃ (k : Nat) (xs : List Value), k ≤ st.fields.length ∧ v = .int .i64 k ∧ Kp (wr.ownsRow w2.heap.size 37 2 (.slice Af st.fields.length cf) st.fields.length xs ∧ Below w2.heap.size w2 wr ∧ wr.cell? ⟨w3.heap.size, 4, none⟩ = some (.slice Af st.fields.length cf))) (fun v _ => st.fields.length - (intOf v).toNat)
    case atStart => exact ⟨0, _, Nat.zero_le _, rfl, ⟨HRF8.out, HC8.out, d4⟩⟩
    case round =>
      obtain ⟨k, xs, hk, rfl, HM⟩ := hrel
      by_cases hlt : k < st.fields.length
      · obtain ⟨g, u, rfl, hg, hgl, hcu, hfz⟩ := row_cell HM.out.1 hlt
        have d5 := HM.out.2.2
        have hne : g ≠ w3.heap.size := HLT.out g rfl
        obtain ⟨xs', hxs'⟩ := row_mark (j := k * 2) HM.out.1 (.string ⟨#[109, 97, 114, 107]⟩)
        have HXS := Kp.mk hxs'
        have HBm := Kp.mk (HM.out.2.1.setCell (p := ⟨g, k * 2, none⟩) hg (.string ⟨#[109, 97, 114, 107]⟩))
        have HDm := Kp.mk ((World.cell?_setCell_far wr ⟨g, k * 2, none⟩ ⟨w3.heap.size, 4, none⟩ (.string ⟨#[109, 97, 114, 107]⟩) hne).trans d5)
        clear hxs' hgl hg hne
        go_wp2_with fail
        go_roundw
        case rel => exact ⟨k + 1, xs', by omega, by simp, ⟨HXS.out, HBm.out, HDm.out⟩⟩
        case measure => simp [intOf]; omega
      · have HC9' := Kp.mk HM.out.2.1
        go_wp2_with fail
        refine (Same_true (fs := fs) (cp := fs.length) (cp' := cp) (HI2.out.below HC9'.out) (HA2.out.below HC9'.out)).mono ?_
        rintro e w9 ⟨rfl, hb⟩
        have HC9 := Kp.mk (HC9'.out.trans (hb.mono HC9'.out.size))
        clear hb
        go_wp2_with fail
        refine (awake_any _).mono ?_
        rintro e w10 ⟨rfl, hb⟩
        have HC10 := Kp.mk (HC9.out.trans (hb.mono HC9.out.size))
        clear hb
        go_wp2_with fail
        go_ret
        exact ⟨rfl, HB2.out.trans (HC10.out.mono HB2.out.size)⟩

end Go.Proofs.YtohhdoibkopoiaaDoor.Msg
