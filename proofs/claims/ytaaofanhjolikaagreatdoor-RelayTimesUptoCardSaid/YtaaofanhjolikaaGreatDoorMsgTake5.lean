/- The contract of (*reading).take: fields that are kept. -/
import Derived.Test.YtaaofanhjolikaaGreatDoorMsgTake4
set_option linter.unusedVariables false
set_option linter.unusedSimpArgs false
namespace Go.Proofs.YtaaofanhjolikaaGreatDoor.Msg
open Go.RowKit Go.Proofs.YtaaofanhjolikaaGreatDoor.Mp

section
variable {w : World} {B p : Nat} {st : PSt} {mb : Nat} {hv fv : Value} {gs : List Gh}

theorem flCells_append (l : List Fl) (n v : ByteArray) : flCells (l ++ [⟨n, v⟩]) = flCells l ++ [.string n, .string v] := by simp [flCells]

set_option maxHeartbeats 1000000 in
set_option maxRecDepth 100000 in
theorem take_plain (h : RdAt w B p st mb hv fv gs) (n v : ByteArray) (hns : n.size ≤ 9223372036854775807) (hvs : v.size ≤ 9223372036854775807) (h0 : Lib.hasPrefix n.data.toList [58] = false) (hok : okField n v)
    (hn1 : (n.toList == [99, 111, 110, 116, 101, 110, 116, 45, 108, 101, 110, 103, 116, 104]) = false) (hn2 : (n.toList == [104, 111, 115, 116]) = false) (hlen : (st.fields.length + 1) * 32 ≤ 140737488355328) :
    Calls Tryz.prog 76 #[.pointer (some ⟨p, 0, none⟩), .agg #[.string n, .string v]] w fun e w' => e = .returned (.tuple #[]) ∧
      (∃ fv', RdAt w' B p { st with reg := true, fields := st.fields ++ [⟨n, v⟩] } mb hv fv' gs) ∧ Below B w w' := by
  have HP := Kp.mk (Tryz.strings_HasPrefix n ⟨#[58]⟩)
  have H0 := Kp.mk h0
  clear h0
  have hplt := lt_of_heap h.blk
  have hc2 : w.cell? ⟨p, 2, none⟩ = some (.bool st.reg) := by rw [cell_of_blk h.blk]; rfl
  have hz2 : w.frozen? ⟨p, 2, none⟩ = false := free_of_blk h.blk 2
  have hBp := h.pB
  have HX := Kp.mk (first_box hplt n v)
  have HY := Kp.mk (first_rd h n v).blk
  have HR := Kp.mk (first_rd h n v)
  have HFB : Kp (fv.ownBlock ≠ some w.heap.size) := ⟨fun e => by have h9 : w.heap.size < w.heap.size := (own_block_lt h.flds e).1; omega⟩
  clear h
  obtain ⟨h1, h2, h3⟩ := hok
  have HN := Kp.mk h1
  have HV := Kp.mk h2
  have HH := Kp.mk h3
  clear h1 h2 h3
  go_enter Tryz.func76, Tryz.ntmps76
  go_wp2_with (first | (go_at_call 82; refine (HP.out _).mono ?_; rintro e w' ⟨rfl, rfl⟩; rw [H0.out]) | (go_at_call 83; refine (rightName_any _ hns _).mono ?_; rintro e w2 ⟨rfl, hb⟩; rw [HN.out]; obtain ⟨HX, HY, x0, x1, y1, y7, y8, z1, z7, z8, lp, lf⟩ := facts hb HX.out HY.out; have HB := Kp.mk hb; clear hb) | (go_at_call 84; refine (rightValue_any _ hvs _).mono ?_; rintro e w3 ⟨rfl, hb⟩; rw [HV.out]; obtain ⟨HX, HY, x0, x1, y1, y7, y8, z1, z7, z8, lp, lf⟩ := facts hb HX.out HY.out; have HB3 := Kp.mk hb; clear hb) | (go_at_call 85; refine (hop_any _ _ _).mono ?_; rintro e w4 ⟨rfl, hb⟩; rw [HH.out]; obtain ⟨HX, HY, x0, x1, y1, y7, y8, z1, z7, z8, lp, lf⟩ := facts hb HX.out HY.out; have HB4 := Kp.mk hb; clear hb) | (go_at_call 74; (with_reducible refine (must_ok _ _).mono ?_); rintro e w' ⟨rfl, rfl⟩))
  have hb : Below B w w4 := by
    have hsz := HB.out.size
    have hsz3 := HB3.out.size
    simp at hsz
    exact (((first_below hBp hplt n v).trans (HB.out.mono (by simp; omega))).trans (HB3.out.mono (by omega))).trans (HB4.out.mono (by omega))
  have hR : RdAt w4 B p { st with reg := true } mb hv fv gs := rd_kept (rd_kept (rd_kept HR.out HB.out) HB3.out) HB4.out
  obtain ⟨WL, rfl⟩ : ∃ WL : World, WL = w4 := ⟨_, rfl⟩
  obtain ⟨i0, hi, hzz⟩ := Option.map_eq_some_iff.1 infoF
  simp only [Prod.mk.injEq] at hzz
  obtain ⟨hz0, hz1, hz2⟩ := hzz
  have HI := Kp.mk (And.intro hi (And.intro hz0 (And.intro hz1 hz2)))
  have HBB := Kp.mk hb
  have HRR := Kp.mk hR
  clear hi hz0 hz1 hz2 hb hR hc2
  refine Reg.region_held (fun W => W.cell? ⟨p, 7, none⟩ = some fv ∧ W.cell? ⟨w.heap.size, 0, none⟩ = some (.string n) ∧ W.cell? ⟨w.heap.size, 1, none⟩ = some (.string v)) [9, 10, 11, 12]
    [(0, .pointer (some ⟨p, 0, none⟩)), (1, .pointer (some ⟨p, 0, none⟩)), (2, .pointer (some ⟨p, 0, none⟩)), (3, .pointer (some ⟨p, 3, none⟩)), (4, .pointer (some ⟨p, 7, none⟩)), (5, fv), (6, .agg #[.string n, .string v])] [7, 8, 9, 10, 11, 12] (by kernel_rfl) (by kernel_rfl) ⟨y7, x0, x1⟩ ?_
  repeat (refine Reg.headS_cons rfl rfl (by kernel_rfl) (by simp only [Act.put, List.setIfInBounds_toArray, List.set_cons_zero, List.set_cons_succ]; rfl) (fun W hS D hD => ?_) ?_; (obtain ⟨s0, s1, s2⟩ := hS; go_wp2; exact hD))
  refine Reg.headS_nil ?_
  refine Reg.tailS_cons rfl (fun K hK => ?_)
  go_wp2
  have hbn : Below WL.heap.size WL ((WL.alloc (.cells #[.string n, .string v] 32)).drew) := ((Below.refl _ _).alloc (Nat.le_refl _) _).drew
  refine hK _ _ ⟨(hbn.cell (p := ⟨p, 7, none⟩) lp).trans y7, (hbn.cell (p := ⟨w.heap.size, 0, none⟩) lf).trans x0, (hbn.cell (p := ⟨w.heap.size, 1, none⟩) lf).trans x1⟩ ?_
  clear hK K
  have HBN := Kp.mk hbn
  clear hbn
  refine Reg.tailS_cons rfl (fun K hK => ?_)
  have HK := Kp.mk hK
  clear hK
  obtain ⟨hi, hz0, hz1, hz2⟩ := HI.out
  refine wpList_append_own_at _ rfl (.tmp 113) (.tmp 115) 29 rfl B 32 i0 (.agg #[.string ⟨#[]⟩, .string ⟨#[]⟩]) 2 32 Tryz.underlying29 hi hz0 hz1 hz2 rfl (by decide) fv st.fields.length _ rfl (rd_kept HRR.out HBN.out).flds
    ⟨WL.heap.size, 0, none⟩ 1 1 [.string n, .string v] rfl rfl (World.news_of_block (cs := #[.string n, .string v]) (t := 32) (fr := (0, 0)) (by show (WL.heap.push _)[WL.heap.size]? = _; simp)) (by intro u hu; simp at hu; rcases hu with rfl | rfl <;> rfl) (by unfold maxLen; omega) hlen (by simp; omega) ?_
  intro v1 w1 hown hg _ hat
  obtain ⟨gb, cap', rfl⟩ : ∃ gb cap', v1 = .slice (some ⟨gb, 0, none⟩) (st.fields.length + 1) cap' := by
    rcases hown.2 with ⟨_, h⟩ | ⟨gb, cap', _, h, _⟩
    · omega
    · exact ⟨gb, cap', h⟩
  have hrp : fv.ownBlock ≠ some p := own_not HRR.out.flds HRR.out.blk (by intro cs e; injection e with _ e; cases e)
  have hrb : fv.ownBlock ≠ some w.heap.size := HFB.out
  have hrm : fv.ownBlock ≠ some mb := by
    obtain ⟨es, clock, hbm, _⟩ := HRR.out.map
    exact own_not HRR.out.flds hbm (by intro cs e; cases e)
  have hrg : ∀ g ∈ gs, fv.ownBlock ≠ some g.b := fun g hgm => own_not HRR.out.flds (HRR.out.vals g hgm).2.1 (by intro cs e; injection e with _ e; cases e)
  have HHG := Kp.mk hg
  have e1 : w1.cell? ⟨p, 7, none⟩ = some fv := (hg.cell_far ⟨p, 7, none⟩ (by simp; omega) (fun e => hrp e.symm)).trans ((HBN.out.cell (p := ⟨p, 7, none⟩) lp).trans y7)
  have e2 : w1.cell? ⟨w.heap.size, 0, none⟩ = some (.string n) := (hg.cell_far ⟨w.heap.size, 0, none⟩ (by simp; omega) (fun e => hrb e.symm)).trans ((HBN.out.cell (p := ⟨w.heap.size, 0, none⟩) lf).trans x0)
  have e2' : w1.cell? ⟨w.heap.size, 1, none⟩ = some (.string v) := (hg.cell_far ⟨w.heap.size, 1, none⟩ (by simp; omega) (fun e => hrb e.symm)).trans ((HBN.out.cell (p := ⟨w.heap.size, 1, none⟩) lf).trans x1)
  have e3 : w1.frozen? ⟨p, 7, none⟩ = false := (hg.frozen_far ⟨p, 7, none⟩ (by simp; omega) (fun e => hrp e.symm)).trans ((HBN.out.frozen (p := ⟨p, 7, none⟩) lp).trans z7)
  refine ⟨rfl, HK.out _ _ ⟨e1, e2, e2'⟩ ?_⟩
  clear HK K hg
  simp only [Act.put, List.setIfInBounds_toArray, List.set_cons_zero, List.set_cons_succ]
  have HOW := Kp.mk hown
  clear hown hat hrb
  refine Reg.tailS_last rfl rfl (fun K hK => ?_)
  go_wp2
  refine Reg.tailS_last rfl rfl (fun K hK => ?_)
  go_wp2
  refine Reg.tailS_last rfl rfl (fun K hK => ?_)
  go_wp2
  refine Reg.tailS_last rfl rfl (fun K hK => ?_)
  go_wp2
  refine Reg.tailS_nil ?_
  go_wp2
  first | go_end0 | refine bodyPost_ret (results_none rfl _ _ _) rfl ?_
  have hfin := rd_rows (rd_kept HRR.out HBN.out) _ HHG.out hrp hrm hrg (hv' := hv) (fv' := .slice (some ⟨gb, 0, none⟩) (st.fields.length + 1) cap') (st' := { st with reg := true, fields := st.fields ++ [⟨n, v⟩] }) rfl
    ((rd_kept HRR.out HBN.out).hosts.kept HHG.out (own_type_ne (rd_kept HRR.out HBN.out).hosts (rd_kept HRR.out HBN.out).flds (by decide)))
    (by rw [flCells_append, List.length_append]; exact HOW.out) (fun g hgm => (HRR.out.vals g hgm).2.2) 7 (.slice (some ⟨gb, 0, none⟩) (st.fields.length + 1) cap') (by simp [rdCells]) (fun e => by simp at e)
  exact ⟨rfl, ⟨_, hfin⟩, ((HBB.out.trans (HBN.out.mono (Nat.le_of_lt (Nat.lt_of_le_of_lt hBp lp)))).grown HHG.out (by simp; omega) (fun k hk => own_ge HRR.out.flds hk)).setCell (p := ⟨p, 7, none⟩) hBp _⟩

set_option maxHeartbeats 1000000 in
set_option maxRecDepth 100000 in
theorem take_len_first (h : RdAt w B p st mb hv fv gs) (n v : ByteArray) (hns : n.size ≤ 9223372036854775807) (hvs : v.size ≤ 9223372036854775807) (h0 : Lib.hasPrefix n.data.toList [58] = false) (hok : okField n v)
    (hn1 : (n.toList == [99, 111, 110, 116, 101, 110, 116, 45, 108, 101, 110, 103, 116, 104]) = true) (k : Int) (hl : lengthB v = some k) (hk : st.len < 0) (hlen : (st.fields.length + 1) * 32 ≤ 140737488355328) :
    Calls Tryz.prog 76 #[.pointer (some ⟨p, 0, none⟩), .agg #[.string n, .string v]] w fun e w' => e = .returned (.tuple #[]) ∧
      (∃ fv', RdAt w' B p { st with reg := true, fields := st.fields ++ [⟨n, v⟩], len := k } mb hv fv' gs) ∧ Below B w w' := by
  have HP := Kp.mk (Tryz.strings_HasPrefix n ⟨#[58]⟩)
  have H0 := Kp.mk h0
  clear h0
  have hplt := lt_of_heap h.blk
  have hc2 : w.cell? ⟨p, 2, none⟩ = some (.bool st.reg) := by rw [cell_of_blk h.blk]; rfl
  have hz2 : w.frozen? ⟨p, 2, none⟩ = false := free_of_blk h.blk 2
  have hBp := h.pB
  have HX := Kp.mk (first_box hplt n v)
  have HY := Kp.mk (first_rd h n v).blk
  have HR := Kp.mk (first_rd h n v)
  have HFB : Kp (fv.ownBlock ≠ some w.heap.size) := ⟨fun e => by have h9 : w.heap.size < w.heap.size := (own_block_lt h.flds e).1; omega⟩
  clear h
  obtain ⟨h1, h2, h3⟩ := hok
  have HN := Kp.mk h1
  have HV := Kp.mk h2
  have HH := Kp.mk h3
  clear h1 h2 h3
  have HL := Kp.mk hl
  clear hl
  have hn2 : (n.toList == [104, 111, 115, 116]) = false := by rw [beq_iff_eq.1 hn1]; rfl
  have hk1 : decide (st.len < 0) = true := decide_eq_true hk
  go_enter Tryz.func76, Tryz.ntmps76
  go_wp2_with (first | (go_at_call 82; refine (HP.out _).mono ?_; rintro e w' ⟨rfl, rfl⟩; rw [H0.out]) | (go_at_call 83; refine (rightName_any _ hns _).mono ?_; rintro e w2 ⟨rfl, hb⟩; rw [HN.out]; obtain ⟨HX, HY, x0, x1, y1, y7, y8, z1, z7, z8, lp, lf⟩ := facts hb HX.out HY.out; have HB := Kp.mk hb; clear hb) | (go_at_call 84; refine (rightValue_any _ hvs _).mono ?_; rintro e w3 ⟨rfl, hb⟩; rw [HV.out]; obtain ⟨HX, HY, x0, x1, y1, y7, y8, z1, z7, z8, lp, lf⟩ := facts hb HX.out HY.out; have HB3 := Kp.mk hb; clear hb) | (go_at_call 85; refine (hop_any _ _ _).mono ?_; rintro e w4 ⟨rfl, hb⟩; rw [HH.out]; obtain ⟨HX, HY, x0, x1, y1, y7, y8, z1, z7, z8, lp, lf⟩ := facts hb HX.out HY.out; have HB4 := Kp.mk hb; clear hb) | (go_at_call 102; refine (length_any _ hvs _).mono ?_; rintro e w5 ⟨rfl, hb⟩; rw [HL.out]; simp only [lenVal]; obtain ⟨HX, HY, x0, x1, y1, y7, y8, z1, z7, z8, lp, lf⟩ := facts hb HX.out HY.out; have HB5 := Kp.mk hb; clear hb) | (go_at_call 74; (with_reducible refine (must_ok _ _).mono ?_); rintro e w' ⟨rfl, rfl⟩))
  have hb : Below B w (w5.setCell ⟨p, 8, none⟩ (.int .i64 k)) := by
    have hsz := HB.out.size
    have hsz3 := HB3.out.size
    have hsz4 := HB4.out.size
    simp at hsz
    exact (((((first_below hBp hplt n v).trans (HB.out.mono (by simp; omega))).trans (HB3.out.mono (by omega))).trans (HB4.out.mono (by omega))).trans (HB5.out.mono (by omega))).setCell (p := ⟨p, 8, none⟩) hBp _
  have hR : RdAt (w5.setCell ⟨p, 8, none⟩ (.int .i64 k)) B p { st with reg := true, len := k } mb hv fv gs :=
    rd_set (rd_kept (rd_kept (rd_kept (rd_kept HR.out HB.out) HB3.out) HB4.out) HB5.out) (st' := { st with reg := true, len := k }) 8 _ (by simp [rdCells]) rfl rfl rfl
  have hXX : (w5.setCell ⟨p, 8, none⟩ (.int .i64 k)).heap[w.heap.size]? = some (.cells #[.string n, .string v] 32 (0, 0)) :=
    (Below.heap_setCell w5 ⟨p, 8, none⟩ _ _ (by simp; omega)).trans HX.out
  clear x0 x1 y1 y7 y8 z1 z7 z8 lp lf
  generalize w5.setCell ⟨p, 8, none⟩ (.int .i64 k) = WL at hb hR hXX ⊢
  obtain ⟨x0, x1, y7, z7, lp, lf⟩ : WL.cell? ⟨w.heap.size, 0, none⟩ = some (.string n) ∧ WL.cell? ⟨w.heap.size, 1, none⟩ = some (.string v) ∧ WL.cell? ⟨p, 7, none⟩ = some fv ∧ WL.frozen? ⟨p, 7, none⟩ = false ∧ p < WL.heap.size ∧ w.heap.size < WL.heap.size :=
    ⟨by rw [cell_of_blk hXX]; rfl, by rw [cell_of_blk hXX]; rfl, by rw [cell_of_blk hR.blk]; rfl, free_of_blk hR.blk 7, lt_of_heap hR.blk, lt_of_heap hXX⟩
  clear hXX
  obtain ⟨i0, hi, hzz⟩ := Option.map_eq_some_iff.1 infoF
  simp only [Prod.mk.injEq] at hzz
  obtain ⟨hz0, hz1, hz2⟩ := hzz
  have HI := Kp.mk (And.intro hi (And.intro hz0 (And.intro hz1 hz2)))
  have HBB := Kp.mk hb
  have HRR := Kp.mk hR
  clear hi hz0 hz1 hz2 hb hR hc2
  refine Reg.region_held (fun W => W.cell? ⟨p, 7, none⟩ = some fv ∧ W.cell? ⟨w.heap.size, 0, none⟩ = some (.string n) ∧ W.cell? ⟨w.heap.size, 1, none⟩ = some (.string v)) [9, 10, 11, 12]
    [(0, .pointer (some ⟨p, 0, none⟩)), (1, .pointer (some ⟨p, 0, none⟩)), (2, .pointer (some ⟨p, 0, none⟩)), (3, .pointer (some ⟨p, 3, none⟩)), (4, .pointer (some ⟨p, 7, none⟩)), (5, fv), (6, .agg #[.string n, .string v])] [7, 8, 9, 10, 11, 12] (by kernel_rfl) (by kernel_rfl) ⟨y7, x0, x1⟩ ?_
  repeat (refine Reg.headS_cons rfl rfl (by kernel_rfl) (by simp only [Act.put, List.setIfInBounds_toArray, List.set_cons_zero, List.set_cons_succ]; rfl) (fun W hS D hD => ?_) ?_; (obtain ⟨s0, s1, s2⟩ := hS; go_wp2; exact hD))
  refine Reg.headS_nil ?_
  refine Reg.tailS_cons rfl (fun K hK => ?_)
  go_wp2
  have hbn : Below WL.heap.size WL ((WL.alloc (.cells #[.string n, .string v] 32)).drew) := ((Below.refl _ _).alloc (Nat.le_refl _) _).drew
  refine hK _ _ ⟨(hbn.cell (p := ⟨p, 7, none⟩) lp).trans y7, (hbn.cell (p := ⟨w.heap.size, 0, none⟩) lf).trans x0, (hbn.cell (p := ⟨w.heap.size, 1, none⟩) lf).trans x1⟩ ?_
  clear hK K
  have HBN := Kp.mk hbn
  clear hbn
  refine Reg.tailS_cons rfl (fun K hK => ?_)
  have HK := Kp.mk hK
  clear hK
  obtain ⟨hi, hz0, hz1, hz2⟩ := HI.out
  refine wpList_append_own_at _ rfl (.tmp 113) (.tmp 115) 29 rfl B 32 i0 (.agg #[.string ⟨#[]⟩, .string ⟨#[]⟩]) 2 32 Tryz.underlying29 hi hz0 hz1 hz2 rfl (by decide) fv st.fields.length _ rfl (rd_kept HRR.out HBN.out).flds
    ⟨WL.heap.size, 0, none⟩ 1 1 [.string n, .string v] rfl rfl (World.news_of_block (cs := #[.string n, .string v]) (t := 32) (fr := (0, 0)) (by show (WL.heap.push _)[WL.heap.size]? = _; simp)) (by intro u hu; simp at hu; rcases hu with rfl | rfl <;> rfl) (by unfold maxLen; omega) hlen (by simp; omega) ?_
  intro v1 w1 hown hg _ hat
  obtain ⟨gb, cap', rfl⟩ : ∃ gb cap', v1 = .slice (some ⟨gb, 0, none⟩) (st.fields.length + 1) cap' := by
    rcases hown.2 with ⟨_, h⟩ | ⟨gb, cap', _, h, _⟩
    · omega
    · exact ⟨gb, cap', h⟩
  have hrp : fv.ownBlock ≠ some p := own_not HRR.out.flds HRR.out.blk (by intro cs e; injection e with _ e; cases e)
  have hrb : fv.ownBlock ≠ some w.heap.size := HFB.out
  have hrm : fv.ownBlock ≠ some mb := by
    obtain ⟨es, clock, hbm, _⟩ := HRR.out.map
    exact own_not HRR.out.flds hbm (by intro cs e; cases e)
  have hrg : ∀ g ∈ gs, fv.ownBlock ≠ some g.b := fun g hgm => own_not HRR.out.flds (HRR.out.vals g hgm).2.1 (by intro cs e; injection e with _ e; cases e)
  have HHG := Kp.mk hg
  have e1 : w1.cell? ⟨p, 7, none⟩ = some fv := (hg.cell_far ⟨p, 7, none⟩ (by simp; omega) (fun e => hrp e.symm)).trans ((HBN.out.cell (p := ⟨p, 7, none⟩) lp).trans y7)
  have e2 : w1.cell? ⟨w.heap.size, 0, none⟩ = some (.string n) := (hg.cell_far ⟨w.heap.size, 0, none⟩ (by simp; omega) (fun e => hrb e.symm)).trans ((HBN.out.cell (p := ⟨w.heap.size, 0, none⟩) lf).trans x0)
  have e2' : w1.cell? ⟨w.heap.size, 1, none⟩ = some (.string v) := (hg.cell_far ⟨w.heap.size, 1, none⟩ (by simp; omega) (fun e => hrb e.symm)).trans ((HBN.out.cell (p := ⟨w.heap.size, 1, none⟩) lf).trans x1)
  have e3 : w1.frozen? ⟨p, 7, none⟩ = false := (hg.frozen_far ⟨p, 7, none⟩ (by simp; omega) (fun e => hrp e.symm)).trans ((HBN.out.frozen (p := ⟨p, 7, none⟩) lp).trans z7)
  refine ⟨rfl, HK.out _ _ ⟨e1, e2, e2'⟩ ?_⟩
  clear HK K hg
  simp only [Act.put, List.setIfInBounds_toArray, List.set_cons_zero, List.set_cons_succ]
  have HOW := Kp.mk hown
  clear hown hat hrb
  refine Reg.tailS_last rfl rfl (fun K hK => ?_)
  go_wp2
  refine Reg.tailS_last rfl rfl (fun K hK => ?_)
  go_wp2
  refine Reg.tailS_last rfl rfl (fun K hK => ?_)
  go_wp2
  refine Reg.tailS_last rfl rfl (fun K hK => ?_)
  go_wp2
  refine Reg.tailS_nil ?_
  go_wp2
  first | go_end0 | refine bodyPost_ret (results_none rfl _ _ _) rfl ?_
  have hfin := rd_rows (rd_kept HRR.out HBN.out) _ HHG.out hrp hrm hrg (hv' := hv) (fv' := .slice (some ⟨gb, 0, none⟩) (st.fields.length + 1) cap') (st' := { st with reg := true, fields := st.fields ++ [⟨n, v⟩], len := k }) rfl
    ((rd_kept HRR.out HBN.out).hosts.kept HHG.out (own_type_ne (rd_kept HRR.out HBN.out).hosts (rd_kept HRR.out HBN.out).flds (by decide)))
    (by rw [flCells_append, List.length_append]; exact HOW.out) (fun g hgm => (HRR.out.vals g hgm).2.2) 7 (.slice (some ⟨gb, 0, none⟩) (st.fields.length + 1) cap') (by simp [rdCells]) (fun e => by simp at e)
  exact ⟨rfl, ⟨_, hfin⟩, ((HBB.out.trans (HBN.out.mono (Nat.le_of_lt (Nat.lt_of_le_of_lt hBp lp)))).grown HHG.out (by simp; omega) (fun k hk => own_ge HRR.out.flds hk)).setCell (p := ⟨p, 7, none⟩) hBp _⟩

set_option maxHeartbeats 1000000 in
set_option maxRecDepth 100000 in
theorem take_len_same (h : RdAt w B p st mb hv fv gs) (n v : ByteArray) (hns : n.size ≤ 9223372036854775807) (hvs : v.size ≤ 9223372036854775807) (h0 : Lib.hasPrefix n.data.toList [58] = false) (hok : okField n v)
    (hn1 : (n.toList == [99, 111, 110, 116, 101, 110, 116, 45, 108, 101, 110, 103, 116, 104]) = true) (k : Int) (hl : lengthB v = some k) (hk0 : 0 ≤ st.len) (hk : st.len = k) (hlen : (st.fields.length + 1) * 32 ≤ 140737488355328) :
    Calls Tryz.prog 76 #[.pointer (some ⟨p, 0, none⟩), .agg #[.string n, .string v]] w fun e w' => e = .returned (.tuple #[]) ∧
      (∃ fv', RdAt w' B p { st with reg := true, fields := st.fields ++ [⟨n, v⟩], len := k } mb hv fv' gs) ∧ Below B w w' := by
  have HP := Kp.mk (Tryz.strings_HasPrefix n ⟨#[58]⟩)
  have H0 := Kp.mk h0
  clear h0
  have hplt := lt_of_heap h.blk
  have hc2 : w.cell? ⟨p, 2, none⟩ = some (.bool st.reg) := by rw [cell_of_blk h.blk]; rfl
  have hz2 : w.frozen? ⟨p, 2, none⟩ = false := free_of_blk h.blk 2
  have hBp := h.pB
  have HX := Kp.mk (first_box hplt n v)
  have HY := Kp.mk (first_rd h n v).blk
  have HR := Kp.mk (first_rd h n v)
  have HFB : Kp (fv.ownBlock ≠ some w.heap.size) := ⟨fun e => by have h9 : w.heap.size < w.heap.size := (own_block_lt h.flds e).1; omega⟩
  clear h
  obtain ⟨h1, h2, h3⟩ := hok
  have HN := Kp.mk h1
  have HV := Kp.mk h2
  have HH := Kp.mk h3
  clear h1 h2 h3
  have HL := Kp.mk hl
  clear hl
  have hn2 : (n.toList == [104, 111, 115, 116]) = false := by rw [beq_iff_eq.1 hn1]; rfl
  have hk1 : decide (st.len < 0) = false := decide_eq_false (by omega)
  have hk2 : (st.len == k) = true := by simpa using hk
  have HKK := Kp.mk hk
  clear hk
  go_enter Tryz.func76, Tryz.ntmps76
  go_wp2_with (first | (go_at_call 82; refine (HP.out _).mono ?_; rintro e w' ⟨rfl, rfl⟩; rw [H0.out]) | (go_at_call 83; refine (rightName_any _ hns _).mono ?_; rintro e w2 ⟨rfl, hb⟩; rw [HN.out]; obtain ⟨HX, HY, x0, x1, y1, y7, y8, z1, z7, z8, lp, lf⟩ := facts hb HX.out HY.out; have HB := Kp.mk hb; clear hb) | (go_at_call 84; refine (rightValue_any _ hvs _).mono ?_; rintro e w3 ⟨rfl, hb⟩; rw [HV.out]; obtain ⟨HX, HY, x0, x1, y1, y7, y8, z1, z7, z8, lp, lf⟩ := facts hb HX.out HY.out; have HB3 := Kp.mk hb; clear hb) | (go_at_call 85; refine (hop_any _ _ _).mono ?_; rintro e w4 ⟨rfl, hb⟩; rw [HH.out]; obtain ⟨HX, HY, x0, x1, y1, y7, y8, z1, z7, z8, lp, lf⟩ := facts hb HX.out HY.out; have HB4 := Kp.mk hb; clear hb) | (go_at_call 102; refine (length_any _ hvs _).mono ?_; rintro e w5 ⟨rfl, hb⟩; rw [HL.out]; simp only [lenVal]; obtain ⟨HX, HY, x0, x1, y1, y7, y8, z1, z7, z8, lp, lf⟩ := facts hb HX.out HY.out; have HB5 := Kp.mk hb; clear hb) | (go_at_call 74; (with_reducible refine (must_ok _ _).mono ?_); rintro e w' ⟨rfl, rfl⟩))
  have hb : Below B w (w5.setCell ⟨p, 8, none⟩ (.int .i64 k)) := by
    have hsz := HB.out.size
    have hsz3 := HB3.out.size
    have hsz4 := HB4.out.size
    simp at hsz
    exact (((((first_below hBp hplt n v).trans (HB.out.mono (by simp; omega))).trans (HB3.out.mono (by omega))).trans (HB4.out.mono (by omega))).trans (HB5.out.mono (by omega))).setCell (p := ⟨p, 8, none⟩) hBp _
  have hR : RdAt (w5.setCell ⟨p, 8, none⟩ (.int .i64 k)) B p { st with reg := true, len := k } mb hv fv gs :=
    rd_set (rd_kept (rd_kept (rd_kept (rd_kept HR.out HB.out) HB3.out) HB4.out) HB5.out) (st' := { st with reg := true, len := k }) 8 _ (by simp [rdCells]) rfl rfl rfl
  have hXX : (w5.setCell ⟨p, 8, none⟩ (.int .i64 k)).heap[w.heap.size]? = some (.cells #[.string n, .string v] 32 (0, 0)) :=
    (Below.heap_setCell w5 ⟨p, 8, none⟩ _ _ (by simp; omega)).trans HX.out
  clear x0 x1 y1 y7 y8 z1 z7 z8 lp lf
  generalize w5.setCell ⟨p, 8, none⟩ (.int .i64 k) = WL at hb hR hXX ⊢
  obtain ⟨x0, x1, y7, z7, lp, lf⟩ : WL.cell? ⟨w.heap.size, 0, none⟩ = some (.string n) ∧ WL.cell? ⟨w.heap.size, 1, none⟩ = some (.string v) ∧ WL.cell? ⟨p, 7, none⟩ = some fv ∧ WL.frozen? ⟨p, 7, none⟩ = false ∧ p < WL.heap.size ∧ w.heap.size < WL.heap.size :=
    ⟨by rw [cell_of_blk hXX]; rfl, by rw [cell_of_blk hXX]; rfl, by rw [cell_of_blk hR.blk]; rfl, free_of_blk hR.blk 7, lt_of_heap hR.blk, lt_of_heap hXX⟩
  clear hXX
  obtain ⟨i0, hi, hzz⟩ := Option.map_eq_some_iff.1 infoF
  simp only [Prod.mk.injEq] at hzz
  obtain ⟨hz0, hz1, hz2⟩ := hzz
  have HI := Kp.mk (And.intro hi (And.intro hz0 (And.intro hz1 hz2)))
  have HBB := Kp.mk hb
  have HRR := Kp.mk hR
  clear hi hz0 hz1 hz2 hb hR hc2
  refine Reg.region_held (fun W => W.cell? ⟨p, 7, none⟩ = some fv ∧ W.cell? ⟨w.heap.size, 0, none⟩ = some (.string n) ∧ W.cell? ⟨w.heap.size, 1, none⟩ = some (.string v)) [9, 10, 11, 12]
    [(0, .pointer (some ⟨p, 0, none⟩)), (1, .pointer (some ⟨p, 0, none⟩)), (2, .pointer (some ⟨p, 0, none⟩)), (3, .pointer (some ⟨p, 3, none⟩)), (4, .pointer (some ⟨p, 7, none⟩)), (5, fv), (6, .agg #[.string n, .string v])] [7, 8, 9, 10, 11, 12] (by kernel_rfl) (by kernel_rfl) ⟨y7, x0, x1⟩ ?_
  repeat (refine Reg.headS_cons rfl rfl (by kernel_rfl) (by simp only [Act.put, List.setIfInBounds_toArray, List.set_cons_zero, List.set_cons_succ]; rfl) (fun W hS D hD => ?_) ?_; (obtain ⟨s0, s1, s2⟩ := hS; go_wp2; exact hD))
  refine Reg.headS_nil ?_
  refine Reg.tailS_cons rfl (fun K hK => ?_)
  go_wp2
  have hbn : Below WL.heap.size WL ((WL.alloc (.cells #[.string n, .string v] 32)).drew) := ((Below.refl _ _).alloc (Nat.le_refl _) _).drew
  refine hK _ _ ⟨(hbn.cell (p := ⟨p, 7, none⟩) lp).trans y7, (hbn.cell (p := ⟨w.heap.size, 0, none⟩) lf).trans x0, (hbn.cell (p := ⟨w.heap.size, 1, none⟩) lf).trans x1⟩ ?_
  clear hK K
  have HBN := Kp.mk hbn
  clear hbn
  refine Reg.tailS_cons rfl (fun K hK => ?_)
  have HK := Kp.mk hK
  clear hK
  obtain ⟨hi, hz0, hz1, hz2⟩ := HI.out
  refine wpList_append_own_at _ rfl (.tmp 113) (.tmp 115) 29 rfl B 32 i0 (.agg #[.string ⟨#[]⟩, .string ⟨#[]⟩]) 2 32 Tryz.underlying29 hi hz0 hz1 hz2 rfl (by decide) fv st.fields.length _ rfl (rd_kept HRR.out HBN.out).flds
    ⟨WL.heap.size, 0, none⟩ 1 1 [.string n, .string v] rfl rfl (World.news_of_block (cs := #[.string n, .string v]) (t := 32) (fr := (0, 0)) (by show (WL.heap.push _)[WL.heap.size]? = _; simp)) (by intro u hu; simp at hu; rcases hu with rfl | rfl <;> rfl) (by unfold maxLen; omega) hlen (by simp; omega) ?_
  intro v1 w1 hown hg _ hat
  obtain ⟨gb, cap', rfl⟩ : ∃ gb cap', v1 = .slice (some ⟨gb, 0, none⟩) (st.fields.length + 1) cap' := by
    rcases hown.2 with ⟨_, h⟩ | ⟨gb, cap', _, h, _⟩
    · omega
    · exact ⟨gb, cap', h⟩
  have hrp : fv.ownBlock ≠ some p := own_not HRR.out.flds HRR.out.blk (by intro cs e; injection e with _ e; cases e)
  have hrb : fv.ownBlock ≠ some w.heap.size := HFB.out
  have hrm : fv.ownBlock ≠ some mb := by
    obtain ⟨es, clock, hbm, _⟩ := HRR.out.map
    exact own_not HRR.out.flds hbm (by intro cs e; cases e)
  have hrg : ∀ g ∈ gs, fv.ownBlock ≠ some g.b := fun g hgm => own_not HRR.out.flds (HRR.out.vals g hgm).2.1 (by intro cs e; injection e with _ e; cases e)
  have HHG := Kp.mk hg
  have e1 : w1.cell? ⟨p, 7, none⟩ = some fv := (hg.cell_far ⟨p, 7, none⟩ (by simp; omega) (fun e => hrp e.symm)).trans ((HBN.out.cell (p := ⟨p, 7, none⟩) lp).trans y7)
  have e2 : w1.cell? ⟨w.heap.size, 0, none⟩ = some (.string n) := (hg.cell_far ⟨w.heap.size, 0, none⟩ (by simp; omega) (fun e => hrb e.symm)).trans ((HBN.out.cell (p := ⟨w.heap.size, 0, none⟩) lf).trans x0)
  have e2' : w1.cell? ⟨w.heap.size, 1, none⟩ = some (.string v) := (hg.cell_far ⟨w.heap.size, 1, none⟩ (by simp; omega) (fun e => hrb e.symm)).trans ((HBN.out.cell (p := ⟨w.heap.size, 1, none⟩) lf).trans x1)
  have e3 : w1.frozen? ⟨p, 7, none⟩ = false := (hg.frozen_far ⟨p, 7, none⟩ (by simp; omega) (fun e => hrp e.symm)).trans ((HBN.out.frozen (p := ⟨p, 7, none⟩) lp).trans z7)
  refine ⟨rfl, HK.out _ _ ⟨e1, e2, e2'⟩ ?_⟩
  clear HK K hg
  simp only [Act.put, List.setIfInBounds_toArray, List.set_cons_zero, List.set_cons_succ]
  have HOW := Kp.mk hown
  clear hown hat hrb
  refine Reg.tailS_last rfl rfl (fun K hK => ?_)
  go_wp2
  refine Reg.tailS_last rfl rfl (fun K hK => ?_)
  go_wp2
  refine Reg.tailS_last rfl rfl (fun K hK => ?_)
  go_wp2
  refine Reg.tailS_last rfl rfl (fun K hK => ?_)
  go_wp2
  refine Reg.tailS_nil ?_
  go_wp2
  first | go_end0 | refine bodyPost_ret (results_none rfl _ _ _) rfl ?_
  have hfin := rd_rows (rd_kept HRR.out HBN.out) _ HHG.out hrp hrm hrg (hv' := hv) (fv' := .slice (some ⟨gb, 0, none⟩) (st.fields.length + 1) cap') (st' := { st with reg := true, fields := st.fields ++ [⟨n, v⟩], len := k }) rfl
    ((rd_kept HRR.out HBN.out).hosts.kept HHG.out (own_type_ne (rd_kept HRR.out HBN.out).hosts (rd_kept HRR.out HBN.out).flds (by decide)))
    (by rw [flCells_append, List.length_append]; exact HOW.out) (fun g hgm => (HRR.out.vals g hgm).2.2) 7 (.slice (some ⟨gb, 0, none⟩) (st.fields.length + 1) cap') (by simp [rdCells]) (fun e => by simp at e)
  exact ⟨rfl, ⟨_, hfin⟩, ((HBB.out.trans (HBN.out.mono (Nat.le_of_lt (Nat.lt_of_le_of_lt hBp lp)))).grown HHG.out (by simp; omega) (fun k hk => own_ge HRR.out.flds hk)).setCell (p := ⟨p, 7, none⟩) hBp _⟩

end

end Go.Proofs.YtaaofanhjolikaaGreatDoor.Msg
