/- The contract of (*reading).line: the ways behind a right method. -/
import Derived.Test.YtaaofanhjolikaaGreatDoorMsgLine
set_option linter.unusedVariables false
set_option linter.unusedSimpArgs false
namespace Go.Proofs.YtaaofanhjolikaaGreatDoor.Msg
open Go.RowKit Go.Proofs.YtaaofanhjolikaaGreatDoor.Mp

section
variable {w : World} {B p : Nat} {st : PSt} {mb : Nat} {hv fv : Value} {gs : List Gh}

set_option maxHeartbeats 400000 in
theorem line_connect_a (h : RdAt w B p st mb hv fv gs) (m : ByteArray) (hms : m.size ≤ 9223372036854775807) (h1 : pick st.ps baMethod = some m) (h2 : everyB tokR m = true) (s : ByteArray) (hcn : m.data.toList = bsConnect) (h3 : pick st.ps baScheme = some s) (h4 : pick st.ps baPath = none) :
    Calls Tryz.prog 77 #[.pointer (some ⟨p, 0, none⟩)] w fun e w' => e = .panicked (refusal 182) ∧ Below B w w' := by
  have hBw : B ≤ w.heap.size := Nat.le_of_lt (Nat.lt_of_le_of_lt h.pB (lt_of_heap h.blk))
  have hBp := h.pB
  have hlp0 := lt_of_heap h.blk
  have H := Kp.mk h
  have HM : Kp (pick st.ps (⟨#[58, 109, 101, 116, 104, 111, 100]⟩ : ByteArray) = some m) := ⟨h1⟩
  have HT := Kp.mk h2
  clear h h1 h2
  have HS : Kp (pick st.ps (⟨#[58, 115, 99, 104, 101, 109, 101]⟩ : ByteArray) = some s) := ⟨h3⟩
  clear h3
  have HQ : Kp (pick st.ps (⟨#[58, 112, 97, 116, 104]⟩ : ByteArray) = none) := ⟨h4⟩
  clear h4
  have hc : (m.toList == [67, 79, 78, 78, 69, 67, 84]) = true := by rw [ByteArray.toList_eq, hcn]; rfl
  clear hcn
  go_enter Tryz.func77, Tryz.ntmps77
  go_wp2_with (first | (go_at_call 103; (with_reducible refine (one_any H.out _).mono ?_); rintro e w' ⟨rfl, rfl⟩; (first | rw [HM.out] | rw [HS.out] | rw [HQ.out]); simp only [oneVal]) | (go_at_call 104; refine (everyTok_any _ hms _).mono ?_; rintro e w2 ⟨rfl, hb⟩; rw [HT.out]; have HB := Kp.mk hb; obtain ⟨c3, c4, c6, z3, z4, z6, lp⟩ := facts_line (rd_kept H.out hb); have H := Kp.mk (rd_kept H.out hb); clear hb) | (go_at_call 74; (with_reducible refine (must_ok _ _).mono ?_); rintro e w' ⟨rfl, rfl⟩) | (go_at_call 74; (with_reducible refine (must_no _ _).mono ?_); rintro e w' ⟨rfl, rfl⟩))
  exact ⟨rfl, rfl, (((HB.out.mono hBw).setCell (p := ⟨p, 3, none⟩) hBp _).setCell (p := ⟨p, 4, none⟩) hBp _).setCell (p := ⟨p, 6, none⟩) hBp _⟩

set_option maxHeartbeats 400000 in
theorem line_connect_b (h : RdAt w B p st mb hv fv gs) (m : ByteArray) (hms : m.size ≤ 9223372036854775807) (h1 : pick st.ps baMethod = some m) (h2 : everyB tokR m = true) (s : ByteArray) (q : ByteArray) (hcn : m.data.toList = bsConnect) (h3 : pick st.ps baScheme = some s) (h4 : pick st.ps baPath = some q) :
    Calls Tryz.prog 77 #[.pointer (some ⟨p, 0, none⟩)] w fun e w' => e = .panicked (refusal 182) ∧ Below B w w' := by
  have hBw : B ≤ w.heap.size := Nat.le_of_lt (Nat.lt_of_le_of_lt h.pB (lt_of_heap h.blk))
  have hBp := h.pB
  have hlp0 := lt_of_heap h.blk
  have H := Kp.mk h
  have HM : Kp (pick st.ps (⟨#[58, 109, 101, 116, 104, 111, 100]⟩ : ByteArray) = some m) := ⟨h1⟩
  have HT := Kp.mk h2
  clear h h1 h2
  have HS : Kp (pick st.ps (⟨#[58, 115, 99, 104, 101, 109, 101]⟩ : ByteArray) = some s) := ⟨h3⟩
  clear h3
  have HQ : Kp (pick st.ps (⟨#[58, 112, 97, 116, 104]⟩ : ByteArray) = some q) := ⟨h4⟩
  clear h4
  have hc : (m.toList == [67, 79, 78, 78, 69, 67, 84]) = true := by rw [ByteArray.toList_eq, hcn]; rfl
  clear hcn
  go_enter Tryz.func77, Tryz.ntmps77
  go_wp2_with (first | (go_at_call 103; (with_reducible refine (one_any H.out _).mono ?_); rintro e w' ⟨rfl, rfl⟩; (first | rw [HM.out] | rw [HS.out] | rw [HQ.out]); simp only [oneVal]) | (go_at_call 104; refine (everyTok_any _ hms _).mono ?_; rintro e w2 ⟨rfl, hb⟩; rw [HT.out]; have HB := Kp.mk hb; obtain ⟨c3, c4, c6, z3, z4, z6, lp⟩ := facts_line (rd_kept H.out hb); have H := Kp.mk (rd_kept H.out hb); clear hb) | (go_at_call 74; (with_reducible refine (must_ok _ _).mono ?_); rintro e w' ⟨rfl, rfl⟩) | (go_at_call 74; (with_reducible refine (must_no _ _).mono ?_); rintro e w' ⟨rfl, rfl⟩))
  exact ⟨rfl, rfl, (((HB.out.mono hBw).setCell (p := ⟨p, 3, none⟩) hBp _).setCell (p := ⟨p, 4, none⟩) hBp _).setCell (p := ⟨p, 6, none⟩) hBp _⟩

set_option maxHeartbeats 400000 in
theorem line_connect_c (h : RdAt w B p st mb hv fv gs) (m : ByteArray) (hms : m.size ≤ 9223372036854775807) (h1 : pick st.ps baMethod = some m) (h2 : everyB tokR m = true) (q : ByteArray) (hcn : m.data.toList = bsConnect) (h3 : pick st.ps baScheme = none) (h4 : pick st.ps baPath = some q) :
    Calls Tryz.prog 77 #[.pointer (some ⟨p, 0, none⟩)] w fun e w' => e = .panicked (refusal 182) ∧ Below B w w' := by
  have hBw : B ≤ w.heap.size := Nat.le_of_lt (Nat.lt_of_le_of_lt h.pB (lt_of_heap h.blk))
  have hBp := h.pB
  have hlp0 := lt_of_heap h.blk
  have H := Kp.mk h
  have HM : Kp (pick st.ps (⟨#[58, 109, 101, 116, 104, 111, 100]⟩ : ByteArray) = some m) := ⟨h1⟩
  have HT := Kp.mk h2
  clear h h1 h2
  have HS : Kp (pick st.ps (⟨#[58, 115, 99, 104, 101, 109, 101]⟩ : ByteArray) = none) := ⟨h3⟩
  clear h3
  have HQ : Kp (pick st.ps (⟨#[58, 112, 97, 116, 104]⟩ : ByteArray) = some q) := ⟨h4⟩
  clear h4
  have hc : (m.toList == [67, 79, 78, 78, 69, 67, 84]) = true := by rw [ByteArray.toList_eq, hcn]; rfl
  clear hcn
  go_enter Tryz.func77, Tryz.ntmps77
  go_wp2_with (first | (go_at_call 103; (with_reducible refine (one_any H.out _).mono ?_); rintro e w' ⟨rfl, rfl⟩; (first | rw [HM.out] | rw [HS.out] | rw [HQ.out]); simp only [oneVal]) | (go_at_call 104; refine (everyTok_any _ hms _).mono ?_; rintro e w2 ⟨rfl, hb⟩; rw [HT.out]; have HB := Kp.mk hb; obtain ⟨c3, c4, c6, z3, z4, z6, lp⟩ := facts_line (rd_kept H.out hb); have H := Kp.mk (rd_kept H.out hb); clear hb) | (go_at_call 74; (with_reducible refine (must_ok _ _).mono ?_); rintro e w' ⟨rfl, rfl⟩) | (go_at_call 74; (with_reducible refine (must_no _ _).mono ?_); rintro e w' ⟨rfl, rfl⟩))
  exact ⟨rfl, rfl, (((HB.out.mono hBw).setCell (p := ⟨p, 3, none⟩) hBp _).setCell (p := ⟨p, 4, none⟩) hBp _).setCell (p := ⟨p, 6, none⟩) hBp _⟩

set_option maxHeartbeats 400000 in
theorem line_connect_d (h : RdAt w B p st mb hv fv gs) (m : ByteArray) (hms : m.size ≤ 9223372036854775807) (h1 : pick st.ps baMethod = some m) (h2 : everyB tokR m = true) (hcn : m.data.toList = bsConnect) (h3 : pick st.ps baScheme = none) (h4 : pick st.ps baPath = none) (h5 : pick st.ps baAuth = none) :
    Calls Tryz.prog 77 #[.pointer (some ⟨p, 0, none⟩)] w fun e w' => e = .panicked (refusal 183) ∧ Below B w w' := by
  have hBw : B ≤ w.heap.size := Nat.le_of_lt (Nat.lt_of_le_of_lt h.pB (lt_of_heap h.blk))
  have hBp := h.pB
  have hlp0 := lt_of_heap h.blk
  have H := Kp.mk h
  have HM : Kp (pick st.ps (⟨#[58, 109, 101, 116, 104, 111, 100]⟩ : ByteArray) = some m) := ⟨h1⟩
  have HT := Kp.mk h2
  clear h h1 h2
  have HS : Kp (pick st.ps (⟨#[58, 115, 99, 104, 101, 109, 101]⟩ : ByteArray) = none) := ⟨h3⟩
  clear h3
  have HQ : Kp (pick st.ps (⟨#[58, 112, 97, 116, 104]⟩ : ByteArray) = none) := ⟨h4⟩
  clear h4
  have HA : Kp (pick st.ps (⟨#[58, 97, 117, 116, 104, 111, 114, 105, 116, 121]⟩ : ByteArray) = none) := ⟨h5⟩
  clear h5
  have hc : (m.toList == [67, 79, 78, 78, 69, 67, 84]) = true := by rw [ByteArray.toList_eq, hcn]; rfl
  clear hcn
  go_enter Tryz.func77, Tryz.ntmps77
  go_wp2_with (first | (go_at_call 103; (with_reducible refine (one_any H.out _).mono ?_); rintro e w' ⟨rfl, rfl⟩; (first | rw [HM.out] | rw [HS.out] | rw [HQ.out]); simp only [oneVal]) | (go_at_call 103; (with_reducible refine (one_any (rd_line H.out _ _ _) _).mono ?_); rintro e w' ⟨rfl, rfl⟩; rw [HA.out]; simp only [oneVal]) | (go_at_call 104; refine (everyTok_any _ hms _).mono ?_; rintro e w2 ⟨rfl, hb⟩; rw [HT.out]; have HB := Kp.mk hb; obtain ⟨c3, c4, c6, z3, z4, z6, lp⟩ := facts_line (rd_kept H.out hb); have H := Kp.mk (rd_kept H.out hb); clear hb) | (go_at_call 74; (with_reducible refine (must_ok _ _).mono ?_); rintro e w' ⟨rfl, rfl⟩) | (go_at_call 74; (with_reducible refine (must_no _ _).mono ?_); rintro e w' ⟨rfl, rfl⟩))
  exact ⟨rfl, rfl, (((HB.out.mono hBw).setCell (p := ⟨p, 3, none⟩) hBp _).setCell (p := ⟨p, 4, none⟩) hBp _).setCell (p := ⟨p, 6, none⟩) hBp _⟩

set_option maxHeartbeats 400000 in
theorem line_connect_e (h : RdAt w B p st mb hv fv gs) (m : ByteArray) (hms : m.size ≤ 9223372036854775807) (h1 : pick st.ps baMethod = some m) (h2 : everyB tokR m = true) (hcn : m.data.toList = bsConnect) (a : ByteArray) (h3 : pick st.ps baScheme = none) (h4 : pick st.ps baPath = none) (h5 : pick st.ps baAuth = some a) :
    Calls Tryz.prog 77 #[.pointer (some ⟨p, 0, none⟩)] w fun e w' => e = .returned (.tuple #[]) ∧ RdAt w' B p { st with m := m, s := baNil, p := baNil } mb hv fv gs ∧ Below B w w' := by
  have hBw : B ≤ w.heap.size := Nat.le_of_lt (Nat.lt_of_le_of_lt h.pB (lt_of_heap h.blk))
  have hBp := h.pB
  have hlp0 := lt_of_heap h.blk
  have H := Kp.mk h
  have HM : Kp (pick st.ps (⟨#[58, 109, 101, 116, 104, 111, 100]⟩ : ByteArray) = some m) := ⟨h1⟩
  have HT := Kp.mk h2
  clear h h1 h2
  have HS : Kp (pick st.ps (⟨#[58, 115, 99, 104, 101, 109, 101]⟩ : ByteArray) = none) := ⟨h3⟩
  clear h3
  have HQ : Kp (pick st.ps (⟨#[58, 112, 97, 116, 104]⟩ : ByteArray) = none) := ⟨h4⟩
  clear h4
  have HA : Kp (pick st.ps (⟨#[58, 97, 117, 116, 104, 111, 114, 105, 116, 121]⟩ : ByteArray) = some a) := ⟨h5⟩
  clear h5
  have hc : (m.toList == [67, 79, 78, 78, 69, 67, 84]) = true := by rw [ByteArray.toList_eq, hcn]; rfl
  clear hcn
  go_enter Tryz.func77, Tryz.ntmps77
  go_wp2_with (first | (go_at_call 103; (with_reducible refine (one_any H.out _).mono ?_); rintro e w' ⟨rfl, rfl⟩; (first | rw [HM.out] | rw [HS.out] | rw [HQ.out]); simp only [oneVal]) | (go_at_call 103; (with_reducible refine (one_any (rd_line H.out _ _ _) _).mono ?_); rintro e w' ⟨rfl, rfl⟩; rw [HA.out]; simp only [oneVal]) | (go_at_call 104; refine (everyTok_any _ hms _).mono ?_; rintro e w2 ⟨rfl, hb⟩; rw [HT.out]; have HB := Kp.mk hb; obtain ⟨c3, c4, c6, z3, z4, z6, lp⟩ := facts_line (rd_kept H.out hb); have H := Kp.mk (rd_kept H.out hb); clear hb) | (go_at_call 74; (with_reducible refine (must_ok _ _).mono ?_); rintro e w' ⟨rfl, rfl⟩) | (go_at_call 74; (with_reducible refine (must_no _ _).mono ?_); rintro e w' ⟨rfl, rfl⟩))
  first | go_end0 | refine bodyPost_ret (results_none rfl _ _ _) rfl ?_
  exact ⟨rfl, rd_line H.out _ _ _, (((HB.out.mono hBw).setCell (p := ⟨p, 3, none⟩) hBp _).setCell (p := ⟨p, 4, none⟩) hBp _).setCell (p := ⟨p, 6, none⟩) hBp _⟩

set_option maxHeartbeats 400000 in
theorem line_plain_a (h : RdAt w B p st mb hv fv gs) (m : ByteArray) (hms : m.size ≤ 9223372036854775807) (h1 : pick st.ps baMethod = some m) (h2 : everyB tokR m = true) (s : ByteArray) (hcn : m.data.toList ≠ bsConnect) (h3 : pick st.ps baScheme = some s) (h4 : pick st.ps baPath = none) :
    Calls Tryz.prog 77 #[.pointer (some ⟨p, 0, none⟩)] w fun e w' => e = .panicked (refusal 183) ∧ Below B w w' := by
  have hBw : B ≤ w.heap.size := Nat.le_of_lt (Nat.lt_of_le_of_lt h.pB (lt_of_heap h.blk))
  have hBp := h.pB
  have hlp0 := lt_of_heap h.blk
  have H := Kp.mk h
  have HM : Kp (pick st.ps (⟨#[58, 109, 101, 116, 104, 111, 100]⟩ : ByteArray) = some m) := ⟨h1⟩
  have HT := Kp.mk h2
  clear h h1 h2
  have HS : Kp (pick st.ps (⟨#[58, 115, 99, 104, 101, 109, 101]⟩ : ByteArray) = some s) := ⟨h3⟩
  clear h3
  have HQ : Kp (pick st.ps (⟨#[58, 112, 97, 116, 104]⟩ : ByteArray) = none) := ⟨h4⟩
  clear h4
  have hc : (m.toList == [67, 79, 78, 78, 69, 67, 84]) = false := by rw [ByteArray.toList_eq]; exact beq_eq_false_iff_ne.2 hcn
  clear hcn
  go_enter Tryz.func77, Tryz.ntmps77
  go_wp2_with (first | (go_at_call 103; (with_reducible refine (one_any H.out _).mono ?_); rintro e w' ⟨rfl, rfl⟩; (first | rw [HM.out] | rw [HS.out] | rw [HQ.out]); simp only [oneVal]) | (go_at_call 104; refine (everyTok_any _ hms _).mono ?_; rintro e w2 ⟨rfl, hb⟩; rw [HT.out]; have HB := Kp.mk hb; obtain ⟨c3, c4, c6, z3, z4, z6, lp⟩ := facts_line (rd_kept H.out hb); have H := Kp.mk (rd_kept H.out hb); clear hb) | (go_at_call 74; (with_reducible refine (must_ok _ _).mono ?_); rintro e w' ⟨rfl, rfl⟩) | (go_at_call 74; (with_reducible refine (must_no _ _).mono ?_); rintro e w' ⟨rfl, rfl⟩))
  exact ⟨rfl, rfl, (((HB.out.mono hBw).setCell (p := ⟨p, 3, none⟩) hBp _).setCell (p := ⟨p, 4, none⟩) hBp _).setCell (p := ⟨p, 6, none⟩) hBp _⟩

set_option maxHeartbeats 400000 in
theorem line_plain_b (h : RdAt w B p st mb hv fv gs) (m : ByteArray) (hms : m.size ≤ 9223372036854775807) (h1 : pick st.ps baMethod = some m) (h2 : everyB tokR m = true) (hcn : m.data.toList ≠ bsConnect) (h3 : pick st.ps baScheme = none) (h4 : pick st.ps baPath = none) :
    Calls Tryz.prog 77 #[.pointer (some ⟨p, 0, none⟩)] w fun e w' => e = .panicked (refusal 183) ∧ Below B w w' := by
  have hBw : B ≤ w.heap.size := Nat.le_of_lt (Nat.lt_of_le_of_lt h.pB (lt_of_heap h.blk))
  have hBp := h.pB
  have hlp0 := lt_of_heap h.blk
  have H := Kp.mk h
  have HM : Kp (pick st.ps (⟨#[58, 109, 101, 116, 104, 111, 100]⟩ : ByteArray) = some m) := ⟨h1⟩
  have HT := Kp.mk h2
  clear h h1 h2
  have HS : Kp (pick st.ps (⟨#[58, 115, 99, 104, 101, 109, 101]⟩ : ByteArray) = none) := ⟨h3⟩
  clear h3
  have HQ : Kp (pick st.ps (⟨#[58, 112, 97, 116, 104]⟩ : ByteArray) = none) := ⟨h4⟩
  clear h4
  have hc : (m.toList == [67, 79, 78, 78, 69, 67, 84]) = false := by rw [ByteArray.toList_eq]; exact beq_eq_false_iff_ne.2 hcn
  clear hcn
  go_enter Tryz.func77, Tryz.ntmps77
  go_wp2_with (first | (go_at_call 103; (with_reducible refine (one_any H.out _).mono ?_); rintro e w' ⟨rfl, rfl⟩; (first | rw [HM.out] | rw [HS.out] | rw [HQ.out]); simp only [oneVal]) | (go_at_call 104; refine (everyTok_any _ hms _).mono ?_; rintro e w2 ⟨rfl, hb⟩; rw [HT.out]; have HB := Kp.mk hb; obtain ⟨c3, c4, c6, z3, z4, z6, lp⟩ := facts_line (rd_kept H.out hb); have H := Kp.mk (rd_kept H.out hb); clear hb) | (go_at_call 74; (with_reducible refine (must_ok _ _).mono ?_); rintro e w' ⟨rfl, rfl⟩) | (go_at_call 74; (with_reducible refine (must_no _ _).mono ?_); rintro e w' ⟨rfl, rfl⟩))
  exact ⟨rfl, rfl, (((HB.out.mono hBw).setCell (p := ⟨p, 3, none⟩) hBp _).setCell (p := ⟨p, 4, none⟩) hBp _).setCell (p := ⟨p, 6, none⟩) hBp _⟩

set_option maxHeartbeats 400000 in
theorem line_plain_c (h : RdAt w B p st mb hv fv gs) (m : ByteArray) (hms : m.size ≤ 9223372036854775807) (h1 : pick st.ps baMethod = some m) (h2 : everyB tokR m = true) (q : ByteArray) (hcn : m.data.toList ≠ bsConnect) (h3 : pick st.ps baScheme = none) (h4 : pick st.ps baPath = some q) :
    Calls Tryz.prog 77 #[.pointer (some ⟨p, 0, none⟩)] w fun e w' => e = .panicked (refusal 183) ∧ Below B w w' := by
  have hBw : B ≤ w.heap.size := Nat.le_of_lt (Nat.lt_of_le_of_lt h.pB (lt_of_heap h.blk))
  have hBp := h.pB
  have hlp0 := lt_of_heap h.blk
  have H := Kp.mk h
  have HM : Kp (pick st.ps (⟨#[58, 109, 101, 116, 104, 111, 100]⟩ : ByteArray) = some m) := ⟨h1⟩
  have HT := Kp.mk h2
  clear h h1 h2
  have HS : Kp (pick st.ps (⟨#[58, 115, 99, 104, 101, 109, 101]⟩ : ByteArray) = none) := ⟨h3⟩
  clear h3
  have HQ : Kp (pick st.ps (⟨#[58, 112, 97, 116, 104]⟩ : ByteArray) = some q) := ⟨h4⟩
  clear h4
  have hc : (m.toList == [67, 79, 78, 78, 69, 67, 84]) = false := by rw [ByteArray.toList_eq]; exact beq_eq_false_iff_ne.2 hcn
  clear hcn
  go_enter Tryz.func77, Tryz.ntmps77
  go_wp2_with (first | (go_at_call 103; (with_reducible refine (one_any H.out _).mono ?_); rintro e w' ⟨rfl, rfl⟩; (first | rw [HM.out] | rw [HS.out] | rw [HQ.out]); simp only [oneVal]) | (go_at_call 104; refine (everyTok_any _ hms _).mono ?_; rintro e w2 ⟨rfl, hb⟩; rw [HT.out]; have HB := Kp.mk hb; obtain ⟨c3, c4, c6, z3, z4, z6, lp⟩ := facts_line (rd_kept H.out hb); have H := Kp.mk (rd_kept H.out hb); clear hb) | (go_at_call 74; (with_reducible refine (must_ok _ _).mono ?_); rintro e w' ⟨rfl, rfl⟩) | (go_at_call 74; (with_reducible refine (must_no _ _).mono ?_); rintro e w' ⟨rfl, rfl⟩))
  exact ⟨rfl, rfl, (((HB.out.mono hBw).setCell (p := ⟨p, 3, none⟩) hBp _).setCell (p := ⟨p, 4, none⟩) hBp _).setCell (p := ⟨p, 6, none⟩) hBp _⟩

set_option maxHeartbeats 400000 in
theorem line_http0_no (h : RdAt w B p st mb hv fv gs) (m : ByteArray) (hms : m.size ≤ 9223372036854775807) (h1 : pick st.ps baMethod = some m) (h2 : everyB tokR m = true) (s q : ByteArray) (hqs : q.size ≤ 9223372036854775807) (hcn : m.data.toList ≠ bsConnect) (h3 : pick st.ps baScheme = some s) (h4 : pick st.ps baPath = some q) (hh : s.data.toList = bsHttp) (hp : pathB m q = false) :
    Calls Tryz.prog 77 #[.pointer (some ⟨p, 0, none⟩)] w fun e w' => e = .panicked (refusal 182) ∧ Below B w w' := by
  have hBw : B ≤ w.heap.size := Nat.le_of_lt (Nat.lt_of_le_of_lt h.pB (lt_of_heap h.blk))
  have hBp := h.pB
  have hlp0 := lt_of_heap h.blk
  have H := Kp.mk h
  have HM : Kp (pick st.ps (⟨#[58, 109, 101, 116, 104, 111, 100]⟩ : ByteArray) = some m) := ⟨h1⟩
  have HT := Kp.mk h2
  clear h h1 h2
  have HS : Kp (pick st.ps (⟨#[58, 115, 99, 104, 101, 109, 101]⟩ : ByteArray) = some s) := ⟨h3⟩
  clear h3
  have HQ : Kp (pick st.ps (⟨#[58, 112, 97, 116, 104]⟩ : ByteArray) = some q) := ⟨h4⟩
  clear h4
  have hc : (m.toList == [67, 79, 78, 78, 69, 67, 84]) = false := by rw [ByteArray.toList_eq]; exact beq_eq_false_iff_ne.2 hcn
  clear hcn
  have hs1 : (s.toList == [104, 116, 116, 112]) = true := by rw [ByteArray.toList_eq, hh]; rfl
  clear hh
  have HP := Kp.mk hp
  clear hp
  go_enter Tryz.func77, Tryz.ntmps77
  go_wp2_with (first | (go_at_call 103; (with_reducible refine (one_any H.out _).mono ?_); rintro e w' ⟨rfl, rfl⟩; (first | rw [HM.out] | rw [HS.out] | rw [HQ.out]); simp only [oneVal]) | (go_at_call 104; refine (everyTok_any _ hms _).mono ?_; rintro e w2 ⟨rfl, hb⟩; rw [HT.out]; have HB := Kp.mk hb; obtain ⟨c3, c4, c6, z3, z4, z6, lp⟩ := facts_line (rd_kept H.out hb); have H := Kp.mk (rd_kept H.out hb); clear hb) | (go_at_call 74; (with_reducible refine (must_ok _ _).mono ?_); rintro e w' ⟨rfl, rfl⟩) | (go_at_call 74; (with_reducible refine (must_no _ _).mono ?_); rintro e w' ⟨rfl, rfl⟩) | (go_at_call 106; refine (rightPath_any _ _ hqs _).mono ?_; rintro e w3 ⟨rfl, hb⟩; rw [HP.out]; have HB3 := Kp.mk hb; clear hb))
  have hsz := HB.out.size
  exact ⟨rfl, rfl, ((((HB.out.mono hBw).setCell (p := ⟨p, 3, none⟩) hBp _).setCell (p := ⟨p, 4, none⟩) hBp _).setCell (p := ⟨p, 6, none⟩) hBp _).trans (HB3.out.mono (by simp [World.setCell]; omega))⟩

set_option maxHeartbeats 400000 in
theorem line_http0_ok (h : RdAt w B p st mb hv fv gs) (m : ByteArray) (hms : m.size ≤ 9223372036854775807) (h1 : pick st.ps baMethod = some m) (h2 : everyB tokR m = true) (s q : ByteArray) (hqs : q.size ≤ 9223372036854775807) (hcn : m.data.toList ≠ bsConnect) (h3 : pick st.ps baScheme = some s) (h4 : pick st.ps baPath = some q) (hh : s.data.toList = bsHttp) (hp : pathB m q = true) :
    Calls Tryz.prog 77 #[.pointer (some ⟨p, 0, none⟩)] w fun e w' => e = .returned (.tuple #[]) ∧ RdAt w' B p { st with m := m, s := s, p := q } mb hv fv gs ∧ Below B w w' := by
  have hBw : B ≤ w.heap.size := Nat.le_of_lt (Nat.lt_of_le_of_lt h.pB (lt_of_heap h.blk))
  have hBp := h.pB
  have hlp0 := lt_of_heap h.blk
  have H := Kp.mk h
  have HM : Kp (pick st.ps (⟨#[58, 109, 101, 116, 104, 111, 100]⟩ : ByteArray) = some m) := ⟨h1⟩
  have HT := Kp.mk h2
  clear h h1 h2
  have HS : Kp (pick st.ps (⟨#[58, 115, 99, 104, 101, 109, 101]⟩ : ByteArray) = some s) := ⟨h3⟩
  clear h3
  have HQ : Kp (pick st.ps (⟨#[58, 112, 97, 116, 104]⟩ : ByteArray) = some q) := ⟨h4⟩
  clear h4
  have hc : (m.toList == [67, 79, 78, 78, 69, 67, 84]) = false := by rw [ByteArray.toList_eq]; exact beq_eq_false_iff_ne.2 hcn
  clear hcn
  have hs1 : (s.toList == [104, 116, 116, 112]) = true := by rw [ByteArray.toList_eq, hh]; rfl
  clear hh
  have HP := Kp.mk hp
  clear hp
  go_enter Tryz.func77, Tryz.ntmps77
  go_wp2_with (first | (go_at_call 103; (with_reducible refine (one_any H.out _).mono ?_); rintro e w' ⟨rfl, rfl⟩; (first | rw [HM.out] | rw [HS.out] | rw [HQ.out]); simp only [oneVal]) | (go_at_call 104; refine (everyTok_any _ hms _).mono ?_; rintro e w2 ⟨rfl, hb⟩; rw [HT.out]; have HB := Kp.mk hb; obtain ⟨c3, c4, c6, z3, z4, z6, lp⟩ := facts_line (rd_kept H.out hb); have H := Kp.mk (rd_kept H.out hb); clear hb) | (go_at_call 74; (with_reducible refine (must_ok _ _).mono ?_); rintro e w' ⟨rfl, rfl⟩) | (go_at_call 74; (with_reducible refine (must_no _ _).mono ?_); rintro e w' ⟨rfl, rfl⟩) | (go_at_call 106; refine (rightPath_any _ _ hqs _).mono ?_; rintro e w3 ⟨rfl, hb⟩; rw [HP.out]; have HB3 := Kp.mk hb; clear hb))
  first | go_end0 | refine bodyPost_ret (results_none rfl _ _ _) rfl ?_
  have hsz := HB.out.size
  exact ⟨rfl, rd_kept (rd_line H.out _ _ _) HB3.out, ((((HB.out.mono hBw).setCell (p := ⟨p, 3, none⟩) hBp _).setCell (p := ⟨p, 4, none⟩) hBp _).setCell (p := ⟨p, 6, none⟩) hBp _).trans (HB3.out.mono (by simp [World.setCell]; omega))⟩

set_option maxHeartbeats 400000 in
theorem line_http1_no (h : RdAt w B p st mb hv fv gs) (m : ByteArray) (hms : m.size ≤ 9223372036854775807) (h1 : pick st.ps baMethod = some m) (h2 : everyB tokR m = true) (s q : ByteArray) (hqs : q.size ≤ 9223372036854775807) (hcn : m.data.toList ≠ bsConnect) (h3 : pick st.ps baScheme = some s) (h4 : pick st.ps baPath = some q) (hh : s.data.toList = bsHttps) (hp : pathB m q = false) :
    Calls Tryz.prog 77 #[.pointer (some ⟨p, 0, none⟩)] w fun e w' => e = .panicked (refusal 182) ∧ Below B w w' := by
  have hBw : B ≤ w.heap.size := Nat.le_of_lt (Nat.lt_of_le_of_lt h.pB (lt_of_heap h.blk))
  have hBp := h.pB
  have hlp0 := lt_of_heap h.blk
  have H := Kp.mk h
  have HM : Kp (pick st.ps (⟨#[58, 109, 101, 116, 104, 111, 100]⟩ : ByteArray) = some m) := ⟨h1⟩
  have HT := Kp.mk h2
  clear h h1 h2
  have HS : Kp (pick st.ps (⟨#[58, 115, 99, 104, 101, 109, 101]⟩ : ByteArray) = some s) := ⟨h3⟩
  clear h3
  have HQ : Kp (pick st.ps (⟨#[58, 112, 97, 116, 104]⟩ : ByteArray) = some q) := ⟨h4⟩
  clear h4
  have hc : (m.toList == [67, 79, 78, 78, 69, 67, 84]) = false := by rw [ByteArray.toList_eq]; exact beq_eq_false_iff_ne.2 hcn
  clear hcn
  have hs1 : (s.toList == [104, 116, 116, 112]) = false := by rw [ByteArray.toList_eq, hh]; rfl
  have hs2 : (s.toList == [104, 116, 116, 112, 115]) = true := by rw [ByteArray.toList_eq, hh]; rfl
  clear hh
  have HP := Kp.mk hp
  clear hp
  go_enter Tryz.func77, Tryz.ntmps77
  go_wp2_with (first | (go_at_call 103; (with_reducible refine (one_any H.out _).mono ?_); rintro e w' ⟨rfl, rfl⟩; (first | rw [HM.out] | rw [HS.out] | rw [HQ.out]); simp only [oneVal]) | (go_at_call 104; refine (everyTok_any _ hms _).mono ?_; rintro e w2 ⟨rfl, hb⟩; rw [HT.out]; have HB := Kp.mk hb; obtain ⟨c3, c4, c6, z3, z4, z6, lp⟩ := facts_line (rd_kept H.out hb); have H := Kp.mk (rd_kept H.out hb); clear hb) | (go_at_call 74; (with_reducible refine (must_ok _ _).mono ?_); rintro e w' ⟨rfl, rfl⟩) | (go_at_call 74; (with_reducible refine (must_no _ _).mono ?_); rintro e w' ⟨rfl, rfl⟩) | (go_at_call 106; refine (rightPath_any _ _ hqs _).mono ?_; rintro e w3 ⟨rfl, hb⟩; rw [HP.out]; have HB3 := Kp.mk hb; clear hb))
  have hsz := HB.out.size
  exact ⟨rfl, rfl, ((((HB.out.mono hBw).setCell (p := ⟨p, 3, none⟩) hBp _).setCell (p := ⟨p, 4, none⟩) hBp _).setCell (p := ⟨p, 6, none⟩) hBp _).trans (HB3.out.mono (by simp [World.setCell]; omega))⟩

set_option maxHeartbeats 400000 in
theorem line_http1_ok (h : RdAt w B p st mb hv fv gs) (m : ByteArray) (hms : m.size ≤ 9223372036854775807) (h1 : pick st.ps baMethod = some m) (h2 : everyB tokR m = true) (s q : ByteArray) (hqs : q.size ≤ 9223372036854775807) (hcn : m.data.toList ≠ bsConnect) (h3 : pick st.ps baScheme = some s) (h4 : pick st.ps baPath = some q) (hh : s.data.toList = bsHttps) (hp : pathB m q = true) :
    Calls Tryz.prog 77 #[.pointer (some ⟨p, 0, none⟩)] w fun e w' => e = .returned (.tuple #[]) ∧ RdAt w' B p { st with m := m, s := s, p := q } mb hv fv gs ∧ Below B w w' := by
  have hBw : B ≤ w.heap.size := Nat.le_of_lt (Nat.lt_of_le_of_lt h.pB (lt_of_heap h.blk))
  have hBp := h.pB
  have hlp0 := lt_of_heap h.blk
  have H := Kp.mk h
  have HM : Kp (pick st.ps (⟨#[58, 109, 101, 116, 104, 111, 100]⟩ : ByteArray) = some m) := ⟨h1⟩
  have HT := Kp.mk h2
  clear h h1 h2
  have HS : Kp (pick st.ps (⟨#[58, 115, 99, 104, 101, 109, 101]⟩ : ByteArray) = some s) := ⟨h3⟩
  clear h3
  have HQ : Kp (pick st.ps (⟨#[58, 112, 97, 116, 104]⟩ : ByteArray) = some q) := ⟨h4⟩
  clear h4
  have hc : (m.toList == [67, 79, 78, 78, 69, 67, 84]) = false := by rw [ByteArray.toList_eq]; exact beq_eq_false_iff_ne.2 hcn
  clear hcn
  have hs1 : (s.toList == [104, 116, 116, 112]) = false := by rw [ByteArray.toList_eq, hh]; rfl
  have hs2 : (s.toList == [104, 116, 116, 112, 115]) = true := by rw [ByteArray.toList_eq, hh]; rfl
  clear hh
  have HP := Kp.mk hp
  clear hp
  go_enter Tryz.func77, Tryz.ntmps77
  go_wp2_with (first | (go_at_call 103; (with_reducible refine (one_any H.out _).mono ?_); rintro e w' ⟨rfl, rfl⟩; (first | rw [HM.out] | rw [HS.out] | rw [HQ.out]); simp only [oneVal]) | (go_at_call 104; refine (everyTok_any _ hms _).mono ?_; rintro e w2 ⟨rfl, hb⟩; rw [HT.out]; have HB := Kp.mk hb; obtain ⟨c3, c4, c6, z3, z4, z6, lp⟩ := facts_line (rd_kept H.out hb); have H := Kp.mk (rd_kept H.out hb); clear hb) | (go_at_call 74; (with_reducible refine (must_ok _ _).mono ?_); rintro e w' ⟨rfl, rfl⟩) | (go_at_call 74; (with_reducible refine (must_no _ _).mono ?_); rintro e w' ⟨rfl, rfl⟩) | (go_at_call 106; refine (rightPath_any _ _ hqs _).mono ?_; rintro e w3 ⟨rfl, hb⟩; rw [HP.out]; have HB3 := Kp.mk hb; clear hb))
  first | go_end0 | refine bodyPost_ret (results_none rfl _ _ _) rfl ?_
  have hsz := HB.out.size
  exact ⟨rfl, rd_kept (rd_line H.out _ _ _) HB3.out, ((((HB.out.mono hBw).setCell (p := ⟨p, 3, none⟩) hBp _).setCell (p := ⟨p, 4, none⟩) hBp _).setCell (p := ⟨p, 6, none⟩) hBp _).trans (HB3.out.mono (by simp [World.setCell]; omega))⟩

set_option maxHeartbeats 400000 in
theorem line_http_none (h : RdAt w B p st mb hv fv gs) (m : ByteArray) (hms : m.size ≤ 9223372036854775807) (h1 : pick st.ps baMethod = some m) (h2 : everyB tokR m = true) (s q : ByteArray) (hqs : q.size ≤ 9223372036854775807) (hcn : m.data.toList ≠ bsConnect) (h3 : pick st.ps baScheme = some s) (h4 : pick st.ps baPath = some q) (hh : s.data.toList ≠ bsHttp ∧ s.data.toList ≠ bsHttps) :
    Calls Tryz.prog 77 #[.pointer (some ⟨p, 0, none⟩)] w fun e w' => e = .panicked (refusal 182) ∧ Below B w w' := by
  have hBw : B ≤ w.heap.size := Nat.le_of_lt (Nat.lt_of_le_of_lt h.pB (lt_of_heap h.blk))
  have hBp := h.pB
  have hlp0 := lt_of_heap h.blk
  have H := Kp.mk h
  have HM : Kp (pick st.ps (⟨#[58, 109, 101, 116, 104, 111, 100]⟩ : ByteArray) = some m) := ⟨h1⟩
  have HT := Kp.mk h2
  clear h h1 h2
  have HS : Kp (pick st.ps (⟨#[58, 115, 99, 104, 101, 109, 101]⟩ : ByteArray) = some s) := ⟨h3⟩
  clear h3
  have HQ : Kp (pick st.ps (⟨#[58, 112, 97, 116, 104]⟩ : ByteArray) = some q) := ⟨h4⟩
  clear h4
  have hc : (m.toList == [67, 79, 78, 78, 69, 67, 84]) = false := by rw [ByteArray.toList_eq]; exact beq_eq_false_iff_ne.2 hcn
  clear hcn
  have hs1 : (s.toList == [104, 116, 116, 112]) = false := by rw [ByteArray.toList_eq]; exact beq_eq_false_iff_ne.2 hh.1
  have hs2 : (s.toList == [104, 116, 116, 112, 115]) = false := by rw [ByteArray.toList_eq]; exact beq_eq_false_iff_ne.2 hh.2
  clear hh
  go_enter Tryz.func77, Tryz.ntmps77
  go_wp2_with (first | (go_at_call 103; (with_reducible refine (one_any H.out _).mono ?_); rintro e w' ⟨rfl, rfl⟩; (first | rw [HM.out] | rw [HS.out] | rw [HQ.out]); simp only [oneVal]) | (go_at_call 104; refine (everyTok_any _ hms _).mono ?_; rintro e w2 ⟨rfl, hb⟩; rw [HT.out]; have HB := Kp.mk hb; obtain ⟨c3, c4, c6, z3, z4, z6, lp⟩ := facts_line (rd_kept H.out hb); have H := Kp.mk (rd_kept H.out hb); clear hb) | (go_at_call 74; (with_reducible refine (must_ok _ _).mono ?_); rintro e w' ⟨rfl, rfl⟩) | (go_at_call 74; (with_reducible refine (must_no _ _).mono ?_); rintro e w' ⟨rfl, rfl⟩))
  exact ⟨rfl, rfl, (((HB.out.mono hBw).setCell (p := ⟨p, 3, none⟩) hBp _).setCell (p := ⟨p, 4, none⟩) hBp _).setCell (p := ⟨p, 6, none⟩) hBp _⟩

end

end Go.Proofs.YtaaofanhjolikaaGreatDoor.Msg
