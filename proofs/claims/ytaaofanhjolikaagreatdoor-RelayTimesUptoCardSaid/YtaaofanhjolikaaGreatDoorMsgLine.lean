/- The contract of (*reading).line. -/
import Derived.Test.YtaaofanhjolikaaGreatDoorMsgTakeAll
set_option linter.unusedVariables false
set_option linter.unusedSimpArgs false
namespace Go.Proofs.YtaaofanhjolikaaGreatDoor.Msg
open Go.RowKit Go.Proofs.YtaaofanhjolikaaGreatDoor.Mp

def baMethod : ByteArray := ⟨#[58, 109, 101, 116, 104, 111, 100]⟩
def baScheme : ByteArray := ⟨#[58, 115, 99, 104, 101, 109, 101]⟩
def baAuth : ByteArray := ⟨#[58, 97, 117, 116, 104, 111, 114, 105, 116, 121]⟩
def baPath : ByteArray := ⟨#[58, 112, 97, 116, 104]⟩
def baNil : ByteArray := ⟨#[]⟩
def bsConnect : List UInt8 := [67, 79, 78, 78, 69, 67, 84]
def bsHttp : List UInt8 := [104, 116, 116, 112]
def bsHttps : List UInt8 := [104, 116, 116, 112, 115]

/-- method, scheme and path, or the error -/
def lineF (st : PSt) : Except Int PSt :=
  match pick st.ps baMethod with
  | none => .error 183
  | some m =>
    if everyB tokR m = false then .error 182
    else if m.data.toList = bsConnect then
      if pick st.ps baScheme ≠ none ∨ pick st.ps baPath ≠ none then .error 182
      else if pick st.ps baAuth = none then .error 183
      else .ok { st with m := m, s := baNil, p := baNil }
    else
      match pick st.ps baScheme, pick st.ps baPath with
      | some s, some q =>
        if (s.data.toList = bsHttp ∨ s.data.toList = bsHttps) ∧ pathB m q = true then .ok { st with m := m, s := s, p := q } else .error 182
      | _, _ => .error 183

section
variable {w : World} {B p : Nat} {st : PSt} {mb : Nat} {hv fv : Value} {gs : List Gh}

theorem rd_line (h : RdAt w B p st mb hv fv gs) (m s q : ByteArray) :
    RdAt (((w.setCell ⟨p, 3, none⟩ (.string m)).setCell ⟨p, 4, none⟩ (.string s)).setCell ⟨p, 6, none⟩ (.string q)) B p { st with m := m, s := s, p := q } mb hv fv gs :=
  rd_set (rd_set (rd_set h (st' := { st with m := m }) 3 (.string m) (by simp [rdCells]) rfl rfl rfl) (st' := { st with m := m, s := s }) 4 (.string s) (by simp [rdCells]) rfl rfl rfl) (st' := { st with m := m, s := s, p := q }) 6 (.string q) (by simp [rdCells]) rfl rfl rfl

theorem facts_line (h : RdAt w B p st mb hv fv gs) :
    w.cell? ⟨p, 3, none⟩ = some (.string st.m) ∧ w.cell? ⟨p, 4, none⟩ = some (.string st.s) ∧ w.cell? ⟨p, 6, none⟩ = some (.string st.p) ∧ w.frozen? ⟨p, 3, none⟩ = false ∧ w.frozen? ⟨p, 4, none⟩ = false ∧ w.frozen? ⟨p, 6, none⟩ = false ∧ p < w.heap.size :=
  ⟨by rw [cell_of_blk h.blk]; rfl, by rw [cell_of_blk h.blk]; rfl, by rw [cell_of_blk h.blk]; rfl, free_of_blk h.blk 3, free_of_blk h.blk 4, free_of_blk h.blk 6, lt_of_heap h.blk⟩

theorem line_none (h : RdAt w B p st mb hv fv gs) (h1 : pick st.ps baMethod = none) :
    Calls Tryz.prog 77 #[.pointer (some ⟨p, 0, none⟩)] w fun e w' => e = .panicked (refusal 183) ∧ Below B w w' := by
  have H := Kp.mk h
  have HM : Kp (pick st.ps (⟨#[58, 109, 101, 116, 104, 111, 100]⟩ : ByteArray) = none) := ⟨h1⟩
  clear h h1
  go_enter Tryz.func77, Tryz.ntmps77
  go_wp2_with (first | (go_at_call 103; (with_reducible refine (one_any H.out _).mono ?_); rintro e w' ⟨rfl, rfl⟩; rw [HM.out]; simp only [oneVal]) | (go_at_call 74; (with_reducible refine (must_no _ _).mono ?_); rintro e w' ⟨rfl, rfl⟩))
  exact ⟨rfl, rfl, Below.refl _ _⟩

theorem line_tok (h : RdAt w B p st mb hv fv gs) (m : ByteArray) (hms : m.size ≤ 9223372036854775807) (h1 : pick st.ps baMethod = some m) (h2 : everyB tokR m = false) :
    Calls Tryz.prog 77 #[.pointer (some ⟨p, 0, none⟩)] w fun e w' => e = .panicked (refusal 182) ∧ Below B w w' := by
  have hBw : B ≤ w.heap.size := Nat.le_of_lt (Nat.lt_of_le_of_lt h.pB (lt_of_heap h.blk))
  have H := Kp.mk h
  have HM : Kp (pick st.ps (⟨#[58, 109, 101, 116, 104, 111, 100]⟩ : ByteArray) = some m) := ⟨h1⟩
  have HT := Kp.mk h2
  clear h h1 h2
  go_enter Tryz.func77, Tryz.ntmps77
  go_wp2_with (first | (go_at_call 103; (with_reducible refine (one_any H.out _).mono ?_); rintro e w' ⟨rfl, rfl⟩; rw [HM.out]; simp only [oneVal]) | (go_at_call 74; (with_reducible refine (must_ok _ _).mono ?_); rintro e w' ⟨rfl, rfl⟩) | (go_at_call 74; (with_reducible refine (must_no _ _).mono ?_); rintro e w' ⟨rfl, rfl⟩) | (go_at_call 104; refine (everyTok_any _ hms _).mono ?_; rintro e w2 ⟨rfl, hb⟩; rw [HT.out]; have HB := Kp.mk hb; clear hb))
  exact ⟨rfl, rfl, HB.out.mono hBw⟩

end

end Go.Proofs.YtaaofanhjolikaaGreatDoor.Msg
