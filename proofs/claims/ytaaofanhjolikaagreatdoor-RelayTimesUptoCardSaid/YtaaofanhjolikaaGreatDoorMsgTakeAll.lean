/- What one field does to a reading: the contract of (*reading).take in one. -/
import Derived.Test.YtaaofanhjolikaaGreatDoorMsgTake5
set_option linter.unusedVariables false
set_option linter.unusedSimpArgs false
namespace Go.Proofs.YtaaofanhjolikaaGreatDoor.Msg
open Go.RowKit Go.Proofs.YtaaofanhjolikaaGreatDoor.Mp

def bsCL : List UInt8 := [99, 111, 110, 116, 101, 110, 116, 45, 108, 101, 110, 103, 116, 104]
def bsHost : List UInt8 := [104, 111, 115, 116]

/-- what a field does to a reading, or the error that it is -/
def takeF (st : PSt) (n v : ByteArray) : Except Int PSt :=
  if Lib.hasPrefix n.data.toList [58] = true then
    if isPs n.data.toList = true ∧ st.reg = false ∧ pick st.ps n = none then
      if valueB v = true then .ok { st with ps := st.ps ++ [(n, v)] } else .error 181
    else .error 182
  else if everyB nameR n = false then .error 180
  else if valueB v = false then .error 181
  else if hopB n.data.toList v.data.toList = true then .error 184
  else if n.data.toList = bsCL then
    match lengthB v with
    | none => .error 186
    | some k => if st.len < 0 ∨ st.len = k then .ok { st with reg := true, fields := st.fields ++ [⟨n, v⟩], len := k } else .error 186
  else if n.data.toList = bsHost then .ok { st with reg := true, hosts := st.hosts ++ [v] }
  else .ok { st with reg := true, fields := st.fields ++ [⟨n, v⟩] }

def TakePost (w : World) (B p mb : Nat) (r : Except Int PSt) (e : Ending) (w' : World) : Prop :=
  match r with
  | .ok st' => e = .returned (.tuple #[]) ∧ (∃ hv fv gs, RdAt w' B p st' mb hv fv gs) ∧ Below B w w'
  | .error c => e = .panicked (refusal c) ∧ Below B w w'

theorem take_any {w : World} {B p : Nat} {st : PSt} {mb : Nat} {hv fv : Value} {gs : List Gh} (h : RdAt w B p st mb hv fv gs) (n v : ByteArray) (hns : n.size ≤ 9223372036854775807) (hvs : v.size ≤ 9223372036854775807)
    (hl1 : (st.hosts.length + 1) * 16 ≤ 140737488355328) (hl2 : (st.fields.length + 1) * 32 ≤ 140737488355328) :
    Calls Tryz.prog 76 #[.pointer (some ⟨p, 0, none⟩), .agg #[.string n, .string v]] w (TakePost w B p mb (takeF st n v)) := by
  have hn0 := ByteArray.toList_eq n
  have hBw : B ≤ w.heap.size := Nat.le_of_lt (Nat.lt_of_le_of_lt h.pB (lt_of_heap h.blk))
  unfold takeF
  by_cases h0 : Lib.hasPrefix n.data.toList [58] = true
  · rw [if_pos h0]
    by_cases h1 : isPs n.data.toList = true
    · have h1' : isPs n.toList = true := by rw [hn0]; exact h1
      by_cases h2 : st.reg = false
      · by_cases h3 : pick st.ps n = none
        · rw [if_pos ⟨h1, h2, h3⟩]
          by_cases h4 : valueB v = true
          · rw [if_pos h4]
            exact (take_ps h n v hvs h0 h1' h2 h3 h4).mono fun e w' ⟨he, ⟨gs', hr⟩, hb⟩ => ⟨he, ⟨hv, fv, gs', hr⟩, hb⟩
          · rw [if_neg h4]
            exact (take_badv h n v hvs h0 h1' h2 h3 (by simpa using h4)).mono fun e w' ⟨he, hb⟩ => ⟨he, hb.mono hBw⟩
        · rw [if_neg (fun hh => h3 hh.2.2)]
          exact (take_dup h n v h0 h1' h2 h3).mono fun e w' ⟨he, hb⟩ => ⟨he, hb.mono hBw⟩
      · rw [if_neg (fun hh => h2 hh.2.1)]
        exact (take_late h n v h0 h1' (by simpa using h2)).mono fun e w' ⟨he, hb⟩ => ⟨he, hb.mono hBw⟩
    · rw [if_neg (fun hh => h1 hh.1)]
      have h1' : isPs n.toList = false := by rw [hn0]; simpa using h1
      unfold isPs at h1'
      simp only [Bool.or_eq_false_iff] at h1'
      exact (take_unknown h n v h0 h1'.1.1.1 h1'.1.1.2 h1'.1.2 h1'.2).mono fun e w' ⟨he, hb⟩ => ⟨he, hb.mono hBw⟩
  · rw [if_neg h0]
    have h0' : Lib.hasPrefix n.data.toList [58] = false := by simpa using h0
    by_cases h1 : everyB nameR n = false
    · rw [if_pos h1]
      exact take_refused h n v hns hvs h0' 180 (.inl ⟨h1, rfl⟩)
    rw [if_neg h1]
    have h1' : everyB nameR n = true := by simpa using h1
    by_cases h2 : valueB v = false
    · rw [if_pos h2]
      exact take_refused h n v hns hvs h0' 181 (.inr (.inl ⟨h1', h2, rfl⟩))
    rw [if_neg h2]
    have h2' : valueB v = true := by simpa using h2
    by_cases h3 : hopB n.data.toList v.data.toList = true
    · rw [if_pos h3]
      exact take_refused h n v hns hvs h0' 184 (.inr (.inr ⟨h1', h2', h3, rfl⟩))
    rw [if_neg h3]
    have hok : okField n v := ⟨h1', h2', by simpa using h3⟩
    by_cases h4 : n.data.toList = bsCL
    · rw [if_pos h4]
      have h4' : (n.toList == [99, 111, 110, 116, 101, 110, 116, 45, 108, 101, 110, 103, 116, 104]) = true := by rw [hn0, h4]; rfl
      cases h5 : lengthB v with
      | none => exact take_len_bad h n v hns hvs h0' hok h4' (.inl h5)
      | some k =>
        simp only []
        by_cases h6 : st.len < 0 ∨ st.len = k
        · rw [if_pos h6]
          by_cases h7 : st.len < 0
          · exact (take_len_first h n v hns hvs h0' hok h4' k h5 h7 hl2).mono fun e w' ⟨he, ⟨fv', hr⟩, hb⟩ => ⟨he, ⟨hv, fv', gs, hr⟩, hb⟩
          · exact (take_len_same h n v hns hvs h0' hok h4' k h5 (by omega) (h6.resolve_left h7) hl2).mono fun e w' ⟨he, ⟨fv', hr⟩, hb⟩ => ⟨he, ⟨hv, fv', gs, hr⟩, hb⟩
        · rw [if_neg h6]
          exact take_len_bad h n v hns hvs h0' hok h4' (.inr ⟨k, h5, by omega, fun e => h6 (.inr e)⟩)
    · rw [if_neg h4]
      have h4' : (n.toList == [99, 111, 110, 116, 101, 110, 116, 45, 108, 101, 110, 103, 116, 104]) = false := by rw [hn0]; exact beq_eq_false_iff_ne.2 h4
      by_cases h5 : n.data.toList = bsHost
      · rw [if_pos h5]
        have h5' : (n.toList == [104, 111, 115, 116]) = true := by rw [hn0, h5]; rfl
        exact (take_host h n v hns hvs h0' hok h4' h5' hl1).mono fun e w' ⟨he, ⟨hv', hr⟩, hb⟩ => ⟨he, ⟨hv', fv, gs, hr⟩, hb⟩
      · rw [if_neg h5]
        have h5' : (n.toList == [104, 111, 115, 116]) = false := by rw [hn0]; exact beq_eq_false_iff_ne.2 h5
        exact (take_plain h n v hns hvs h0' hok h4' h5' hl2).mono fun e w' ⟨he, ⟨fv', hr⟩, hb⟩ => ⟨he, ⟨hv, fv', gs, hr⟩, hb⟩

end Go.Proofs.YtaaofanhjolikaaGreatDoor.Msg
