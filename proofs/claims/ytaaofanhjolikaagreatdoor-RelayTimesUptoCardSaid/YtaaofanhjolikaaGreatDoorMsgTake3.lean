/- The contract of (*reading).take: fields that are no pseudo fields. -/
import Derived.Test.YtaaofanhjolikaaGreatDoorMsgTake2
set_option linter.unusedVariables false
set_option linter.unusedSimpArgs false
namespace Go.Proofs.YtaaofanhjolikaaGreatDoor.Msg
open Go.RowKit Go.Proofs.YtaaofanhjolikaaGreatDoor.Mp

section
variable {w : World} {B p : Nat} {st : PSt} {mb : Nat} {hv fv : Value} {gs : List Gh}

/-- what the walk reads, in the world behind a call that only reads -/
theorem facts {W w2 : World} {fb : Nat} {n v : ByteArray} (hb : Below W.heap.size W w2) (h1 : W.heap[fb]? = some (.cells #[.string n, .string v] 32 (0, 0))) (h2 : W.heap[p]? = some (.cells (rdCells mb hv fv st) 136 (0, 0))) :
    Kp (w2.heap[fb]? = some (.cells #[.string n, .string v] 32 (0, 0))) ∧ Kp (w2.heap[p]? = some (.cells (rdCells mb hv fv st) 136 (0, 0))) ∧
      w2.cell? ⟨fb, 0, none⟩ = some (.string n) ∧ w2.cell? ⟨fb, 1, none⟩ = some (.string v) ∧ w2.cell? ⟨p, 1, none⟩ = some hv ∧ w2.cell? ⟨p, 7, none⟩ = some fv ∧ w2.cell? ⟨p, 8, none⟩ = some (.int .i64 st.len) ∧
      w2.frozen? ⟨p, 1, none⟩ = false ∧ w2.frozen? ⟨p, 7, none⟩ = false ∧ w2.frozen? ⟨p, 8, none⟩ = false ∧ p < w2.heap.size ∧ fb < w2.heap.size := by
  have k1 := heap_kept hb h1
  have k2 := heap_kept hb h2
  exact ⟨⟨k1⟩, ⟨k2⟩, by rw [cell_of_blk k1]; rfl, by rw [cell_of_blk k1]; rfl, by rw [cell_of_blk k2]; rfl, by rw [cell_of_blk k2]; rfl, by rw [cell_of_blk k2]; rfl,
    free_of_blk k2 1, free_of_blk k2 7, free_of_blk k2 8, lt_of_heap k2, lt_of_heap k1⟩

theorem first_box (hp : p < w.heap.size) (n v : ByteArray) : ((w.setCell ⟨p, 2, none⟩ (.bool true)).alloc (.cells #[.string n, .string v] 32)).heap[w.heap.size]? = some (.cells #[.string n, .string v] 32 (0, 0)) := by
  have e : (w.setCell ⟨p, 2, none⟩ (.bool true)).heap.size = w.heap.size := by simp [World.setCell]
  show ((w.setCell ⟨p, 2, none⟩ (.bool true)).heap.push _)[w.heap.size]? = _
  rw [← e, Array.getElem?_push_size]
theorem first_rd (h : RdAt w B p st mb hv fv gs) (n v : ByteArray) : RdAt ((w.setCell ⟨p, 2, none⟩ (.bool true)).alloc (.cells #[.string n, .string v] 32)) B p { st with reg := true } mb hv fv gs :=
  rd_kept (rd_set h (st' := { st with reg := true }) 2 (.bool true) (by simp [rdCells]) rfl rfl rfl) ((Below.refl _ _).alloc (Nat.le_refl _) _)

theorem first_below (hB : B ≤ p) (hp : p < w.heap.size) (n v : ByteArray) : Below B w ((w.setCell ⟨p, 2, none⟩ (.bool true)).alloc (.cells #[.string n, .string v] 32)) :=
  ((Below.refl B w).setCell (p := ⟨p, 2, none⟩) hB _).alloc (by simp [World.setCell]; omega) _

set_option maxHeartbeats 800000 in
set_option maxRecDepth 100000 in
theorem take_refused (h : RdAt w B p st mb hv fv gs) (n v : ByteArray) (hns : n.size ≤ 9223372036854775807) (hvs : v.size ≤ 9223372036854775807) (h0 : Lib.hasPrefix n.data.toList [58] = false) (c : Int)
    (hc : (everyB nameR n = false ∧ c = 180) ∨ (everyB nameR n = true ∧ valueB v = false ∧ c = 181) ∨ (everyB nameR n = true ∧ valueB v = true ∧ hopB n.data.toList v.data.toList = true ∧ c = 184)) :
    Calls Tryz.prog 76 #[.pointer (some ⟨p, 0, none⟩), .agg #[.string n, .string v]] w fun e w' => e = .panicked (refusal c) ∧ Below B w w' := by
  have HP := Kp.mk (Tryz.strings_HasPrefix n ⟨#[58]⟩)
  have H0 := Kp.mk h0
  clear h0
  have hplt := lt_of_heap h.blk
  have hc2 : w.cell? ⟨p, 2, none⟩ = some (.bool st.reg) := by rw [cell_of_blk h.blk]; rfl
  have hz2 : w.frozen? ⟨p, 2, none⟩ = false := free_of_blk h.blk 2
  have hBp := h.pB
  have HX := Kp.mk (first_box hplt n v)
  have HY := Kp.mk (first_rd h n v).blk
  clear h
  rcases hc with ⟨h1, rfl⟩ | ⟨h1, h2, rfl⟩ | ⟨h1, h2, h3, rfl⟩
  · have HN := Kp.mk h1
    clear h1
    go_enter Tryz.func76, Tryz.ntmps76
    go_wp2_with (first | (go_at_call 82; refine (HP.out _).mono ?_; rintro e w' ⟨rfl, rfl⟩; rw [H0.out]) | (go_at_call 83; refine (rightName_any _ hns _).mono ?_; rintro e w2 ⟨rfl, hb⟩; rw [HN.out]; obtain ⟨HX, HY, x0, x1, y1, y7, y8, z1, z7, z8, lp, lf⟩ := facts hb HX.out HY.out; have HB := Kp.mk hb; clear hb) | (go_at_call 74; (with_reducible refine (must_no _ _).mono ?_); rintro e w' ⟨rfl, rfl⟩))
    exact ⟨rfl, rfl, (first_below hBp hplt n v).trans (HB.out.mono (by simp; omega))⟩
  · have HN := Kp.mk h1
    have HV := Kp.mk h2
    clear h1 h2
    go_enter Tryz.func76, Tryz.ntmps76
    go_wp2_with (first | (go_at_call 82; refine (HP.out _).mono ?_; rintro e w' ⟨rfl, rfl⟩; rw [H0.out]) | (go_at_call 83; refine (rightName_any _ hns _).mono ?_; rintro e w2 ⟨rfl, hb⟩; rw [HN.out]; obtain ⟨HX, HY, x0, x1, y1, y7, y8, z1, z7, z8, lp, lf⟩ := facts hb HX.out HY.out; have HB := Kp.mk hb; clear hb) | (go_at_call 84; refine (rightValue_any _ hvs _).mono ?_; rintro e w3 ⟨rfl, hb⟩; rw [HV.out]; obtain ⟨HX, HY, x0, x1, y1, y7, y8, z1, z7, z8, lp, lf⟩ := facts hb HX.out HY.out; have HB3 := Kp.mk hb; clear hb) | (go_at_call 74; (with_reducible refine (must_ok _ _).mono ?_); rintro e w' ⟨rfl, rfl⟩) | (go_at_call 74; (with_reducible refine (must_no _ _).mono ?_); rintro e w' ⟨rfl, rfl⟩))
    have hsz := HB.out.size
    simp at hsz
    exact ⟨rfl, rfl, ((first_below hBp hplt n v).trans (HB.out.mono (by simp; omega))).trans (HB3.out.mono (by omega))⟩
  · have HN := Kp.mk h1
    have HV := Kp.mk h2
    have HH := Kp.mk h3
    clear h1 h2 h3
    go_enter Tryz.func76, Tryz.ntmps76
    go_wp2_with (first | (go_at_call 82; refine (HP.out _).mono ?_; rintro e w' ⟨rfl, rfl⟩; rw [H0.out]) | (go_at_call 83; refine (rightName_any _ hns _).mono ?_; rintro e w2 ⟨rfl, hb⟩; rw [HN.out]; obtain ⟨HX, HY, x0, x1, y1, y7, y8, z1, z7, z8, lp, lf⟩ := facts hb HX.out HY.out; have HB := Kp.mk hb; clear hb) | (go_at_call 84; refine (rightValue_any _ hvs _).mono ?_; rintro e w3 ⟨rfl, hb⟩; rw [HV.out]; obtain ⟨HX, HY, x0, x1, y1, y7, y8, z1, z7, z8, lp, lf⟩ := facts hb HX.out HY.out; have HB3 := Kp.mk hb; clear hb) | (go_at_call 85; refine (hop_any _ _ _).mono ?_; rintro e w4 ⟨rfl, hb⟩; rw [HH.out]; obtain ⟨HX, HY, x0, x1, y1, y7, y8, z1, z7, z8, lp, lf⟩ := facts hb HX.out HY.out; have HB4 := Kp.mk hb; clear hb) | (go_at_call 74; (with_reducible refine (must_ok _ _).mono ?_); rintro e w' ⟨rfl, rfl⟩) | (go_at_call 74; (with_reducible refine (must_no _ _).mono ?_); rintro e w' ⟨rfl, rfl⟩))
    have hsz := HB.out.size
    have hsz3 := HB3.out.size
    simp at hsz
    exact ⟨rfl, rfl, (((first_below hBp hplt n v).trans (HB.out.mono (by simp; omega))).trans (HB3.out.mono (by omega))).trans (HB4.out.mono (by omega))⟩

/-- the way of a field that is right so far, up to its own kind -/
def okField (n v : ByteArray) : Prop := everyB nameR n = true ∧ valueB v = true ∧ hopB n.data.toList v.data.toList = false

set_option maxHeartbeats 800000 in
set_option maxRecDepth 100000 in
/-- content-length with a value that is no length, or another number than one ahead of it -/
theorem take_len_bad (h : RdAt w B p st mb hv fv gs) (n v : ByteArray) (hns : n.size ≤ 9223372036854775807) (hvs : v.size ≤ 9223372036854775807) (h0 : Lib.hasPrefix n.data.toList [58] = false) (hok : okField n v)
    (hn : (n.toList == [99, 111, 110, 116, 101, 110, 116, 45, 108, 101, 110, 103, 116, 104]) = true) (hl : lengthB v = none ∨ ∃ k, lengthB v = some k ∧ 0 ≤ st.len ∧ st.len ≠ k) :
    Calls Tryz.prog 76 #[.pointer (some ⟨p, 0, none⟩), .agg #[.string n, .string v]] w fun e w' => e = .panicked (refusal 186) ∧ Below B w w' := by
  have HP := Kp.mk (Tryz.strings_HasPrefix n ⟨#[58]⟩)
  have H0 := Kp.mk h0
  clear h0
  have hplt := lt_of_heap h.blk
  have hc2 : w.cell? ⟨p, 2, none⟩ = some (.bool st.reg) := by rw [cell_of_blk h.blk]; rfl
  have hz2 : w.frozen? ⟨p, 2, none⟩ = false := free_of_blk h.blk 2
  have hBp := h.pB
  have HX := Kp.mk (first_box hplt n v)
  have HY := Kp.mk (first_rd h n v).blk
  clear h
  obtain ⟨h1, h2, h3⟩ := hok
  have HN := Kp.mk h1
  have HV := Kp.mk h2
  have HH := Kp.mk h3
  clear h1 h2 h3
  rcases hl with h4 | ⟨k, h4, h5, h6⟩
  · have HL := Kp.mk h4
    clear h4
    go_enter Tryz.func76, Tryz.ntmps76
    go_wp2_with (first | (go_at_call 82; refine (HP.out _).mono ?_; rintro e w' ⟨rfl, rfl⟩; rw [H0.out]) | (go_at_call 83; refine (rightName_any _ hns _).mono ?_; rintro e w2 ⟨rfl, hb⟩; rw [HN.out]; obtain ⟨HX, HY, x0, x1, y1, y7, y8, z1, z7, z8, lp, lf⟩ := facts hb HX.out HY.out; have HB := Kp.mk hb; clear hb) | (go_at_call 84; refine (rightValue_any _ hvs _).mono ?_; rintro e w3 ⟨rfl, hb⟩; rw [HV.out]; obtain ⟨HX, HY, x0, x1, y1, y7, y8, z1, z7, z8, lp, lf⟩ := facts hb HX.out HY.out; have HB3 := Kp.mk hb; clear hb) | (go_at_call 85; refine (hop_any _ _ _).mono ?_; rintro e w4 ⟨rfl, hb⟩; rw [HH.out]; obtain ⟨HX, HY, x0, x1, y1, y7, y8, z1, z7, z8, lp, lf⟩ := facts hb HX.out HY.out; have HB4 := Kp.mk hb; clear hb) | (go_at_call 102; refine (length_any _ hvs _).mono ?_; rintro e w5 ⟨rfl, hb⟩; rw [HL.out]; simp only [lenVal]; obtain ⟨HX, HY, x0, x1, y1, y7, y8, z1, z7, z8, lp, lf⟩ := facts hb HX.out HY.out; have HB5 := Kp.mk hb; clear hb) | (go_at_call 74; (with_reducible refine (must_ok _ _).mono ?_); rintro e w' ⟨rfl, rfl⟩) | (go_at_call 74; (with_reducible refine (must_no _ _).mono ?_); rintro e w' ⟨rfl, rfl⟩))
    have hsz := HB.out.size
    have hsz3 := HB3.out.size
    have hsz4 := HB4.out.size
    simp at hsz
    exact ⟨rfl, rfl, ((((first_below hBp hplt n v).trans (HB.out.mono (by simp; omega))).trans (HB3.out.mono (by omega))).trans (HB4.out.mono (by omega))).trans (HB5.out.mono (by omega))⟩
  · have HL := Kp.mk h4
    clear h4
    have h5' : decide (st.len < 0) = false := decide_eq_false (by omega)
    have h6' : (st.len == k) = false := by simpa using h6
    go_enter Tryz.func76, Tryz.ntmps76
    go_wp2_with (first | (go_at_call 82; refine (HP.out _).mono ?_; rintro e w' ⟨rfl, rfl⟩; rw [H0.out]) | (go_at_call 83; refine (rightName_any _ hns _).mono ?_; rintro e w2 ⟨rfl, hb⟩; rw [HN.out]; obtain ⟨HX, HY, x0, x1, y1, y7, y8, z1, z7, z8, lp, lf⟩ := facts hb HX.out HY.out; have HB := Kp.mk hb; clear hb) | (go_at_call 84; refine (rightValue_any _ hvs _).mono ?_; rintro e w3 ⟨rfl, hb⟩; rw [HV.out]; obtain ⟨HX, HY, x0, x1, y1, y7, y8, z1, z7, z8, lp, lf⟩ := facts hb HX.out HY.out; have HB3 := Kp.mk hb; clear hb) | (go_at_call 85; refine (hop_any _ _ _).mono ?_; rintro e w4 ⟨rfl, hb⟩; rw [HH.out]; obtain ⟨HX, HY, x0, x1, y1, y7, y8, z1, z7, z8, lp, lf⟩ := facts hb HX.out HY.out; have HB4 := Kp.mk hb; clear hb) | (go_at_call 102; refine (length_any _ hvs _).mono ?_; rintro e w5 ⟨rfl, hb⟩; rw [HL.out]; simp only [lenVal]; obtain ⟨HX, HY, x0, x1, y1, y7, y8, z1, z7, z8, lp, lf⟩ := facts hb HX.out HY.out; have HB5 := Kp.mk hb; clear hb) | (go_at_call 74; (with_reducible refine (must_ok _ _).mono ?_); rintro e w' ⟨rfl, rfl⟩) | (go_at_call 74; (with_reducible refine (must_no _ _).mono ?_); rintro e w' ⟨rfl, rfl⟩))
    have hsz := HB.out.size
    have hsz3 := HB3.out.size
    have hsz4 := HB4.out.size
    simp at hsz
    exact ⟨rfl, rfl, ((((first_below hBp hplt n v).trans (HB.out.mono (by simp; omega))).trans (HB3.out.mono (by omega))).trans (HB4.out.mono (by omega))).trans (HB5.out.mono (by omega))⟩

end

end Go.Proofs.YtaaofanhjolikaaGreatDoor.Msg
