/- What Check computes, over lists of fields. No walk. -/
import Derived.Test.YtaaofanhjolikaaGreatDoorMsgMuch
set_option linter.unusedVariables false
set_option linter.unusedSimpArgs false
namespace Go.Proofs.YtaaofanhjolikaaGreatDoor.Msg
open Go.RowKit Go.Proofs.YtaaofanhjolikaaGreatDoor.Mp

def st0 : PSt := ⟨[], [], false, ⟨#[]⟩, ⟨#[]⟩, ⟨#[]⟩, ⟨#[]⟩, [], -1⟩

def foldF (st : PSt) : List Fl → Except Int PSt
  | [] => .ok st
  | f :: r => match takeF st f.n f.v with
    | .ok st' => foldF st' r
    | .error c => .error c

theorem foldF_append (l r : List Fl) : ∀ st, foldF st (l ++ r) = match foldF st l with | .ok st' => foldF st' r | .error c => .error c := by
  induction l with
  | nil => intro st; rfl
  | cons f l ih =>
    intro st
    simp only [List.cons_append, foldF]
    cases takeF st f.n f.v with
    | ok st' => exact ih st'
    | error c => rfl

theorem foldF_take_succ (fs : List Fl) (st st1 : PSt) (k : Nat) (hk : k < fs.length) (h : foldF st (fs.take k) = .ok st1) : foldF st (fs.take (k + 1)) = takeF st1 (fs[k]'hk).n (fs[k]'hk).v := by
  rw [List.take_succ_eq_append_getElem hk, foldF_append, h]
  simp only [foldF]
  cases takeF st1 (fs[k]'hk).n (fs[k]'hk).v <;> rfl

theorem foldF_error_take (fs : List Fl) (st : PSt) (k : Nat) (c : Int) (h : foldF st (fs.take k) = .error c) : foldF st fs = .error c := by
  have := foldF_append (fs.take k) (fs.drop k) st
  rw [List.take_append_drop, h] at this
  exact this

/-- of what size the parts of a state are -/
structure Okst (P : ByteArray → Prop) (st : PSt) (n : Nat) : Prop where
  ps : ∀ x ∈ st.ps, P x.2
  hosts : ∀ x ∈ st.hosts, P x
  len : st.hosts.length + st.fields.length ≤ n

theorem okst_take {P : ByteArray → Prop} {st st' : PSt} {n : Nat} (h : Okst P st n) (x v : ByteArray) (hv : P v) (ht : takeF st x v = .ok st') : Okst P st' (n + 1) := by
  obtain ⟨h1, h2, h3⟩ := h
  unfold takeF at ht
  split at ht
  · split at ht
    · split at ht
      · cases ht
        exact ⟨fun y hy => by rcases List.mem_append.1 hy with hy | hy; exact h1 y hy; simp at hy; subst hy; exact hv, h2, by simp only []; omega⟩
      · cases ht
    · cases ht
  · split at ht
    · cases ht
    · split at ht
      · cases ht
      · split at ht
        · cases ht
        · split at ht
          · split at ht
            · cases ht
            · split at ht
              · cases ht
                exact ⟨h1, h2, by simp; omega⟩
              · cases ht
          · split at ht
            · cases ht
              exact ⟨h1, fun y hy => by rcases List.mem_append.1 hy with hy | hy; exact h2 y hy; simp at hy; subst hy; exact hv, by simp; omega⟩
            · cases ht
              exact ⟨h1, h2, by simp; omega⟩

theorem okst_fold {P : ByteArray → Prop} (fs : List Fl) : ∀ {st st' : PSt} {n : Nat}, Okst P st n → (∀ f ∈ fs, P f.v) → foldF st fs = .ok st' → Okst P st' (n + fs.length) := by
  induction fs with
  | nil => intro st st' n h _ hf; cases hf; exact h
  | cons f fs ih =>
    intro st st' n h hP hf
    simp only [foldF] at hf
    split at hf
    · rename_i st1 h1
      have := ih (okst_take h f.n f.v (hP f (by simp)) h1) (fun g hg => hP g (by simp [hg])) hf
      simp only [List.length_cons]
      rwa [show n + (fs.length + 1) = n + 1 + fs.length by omega]
    · cases hf

theorem okst_st0 (P : ByteArray → Prop) : Okst P st0 0 := ⟨by simp [st0], by simp [st0], by simp [st0]⟩

/-- a sum of the size -/
def checkF (fs : List Fl) (c s : Int) : Except Int PSt :=
  if muchB fs c s = true then .error 185
  else match foldF st0 fs with
    | .error e => .error e
    | .ok st => match lineF st with
      | .error e => .error e
      | .ok st1 => placeF st1

theorem lineF_ps {st st1 : PSt} (h : lineF st = .ok st1) : st1.ps = st.ps ∧ st1.hosts = st.hosts ∧ st1.fields = st.fields ∧ st1.len = st.len := by
  unfold lineF at h
  repeat' (split at h)
  all_goals first | (cases h; exact ⟨rfl, rfl, rfl, rfl⟩) | (cases h)

def reqVal (st : PSt) (fv : Value) : Value := .agg #[.string st.m, .string st.s, .string st.a, .string st.p, fv, .int .i64 st.len]
def reqNil : Value := .agg #[.string ⟨#[]⟩, .string ⟨#[]⟩, .string ⟨#[]⟩, .string ⟨#[]⟩, .slice none 0 0, .int .i64 0]

/-- how Check ends -/
def CkPost (w : World) (r : Except Int PSt) (e : Ending) (w' : World) : Prop :=
  match r with
  | .ok st => ∃ fv, e = .returned (.tuple #[reqVal st fv, .int .i64 0]) ∧ w'.ownsRow w.heap.size 32 2 fv st.fields.length (flCells st.fields) ∧ Below w.heap.size w w' ∧ (st.fields = [] → fv = .slice none 0 0)
  | .error c => e = .returned (.tuple #[reqNil, .int .i64 c]) ∧ Below w.heap.size w w'

theorem rd_start (w : World) : RdAt ((w.alloc (.map #[] 0)).alloc (.cells (rdCells w.heap.size (.slice none 0 0) (.slice none 0 0) st0) 136)) w.heap.size (w.heap.size + 1) st0 w.heap.size (.slice none 0 0) (.slice none 0 0) [] := by
  refine ⟨?_, by omega, Nat.le_refl _, ?_, rfl, by simp, ?_, ?_, fun _ => rfl⟩
  · have := heap_alloc_new (w.alloc (.map #[] 0)) (.cells (rdCells w.heap.size (.slice none 0 0) (.slice none 0 0) st0) 136)
    simpa using this
  · exact ⟨#[], 0, by rw [Below.heap_alloc _ _ _ (by simp)]; exact heap_alloc_new _ _, ⟨by simp, by simp, by simp⟩, rfl, by simp⟩
  · exact ⟨rfl, .inl ⟨rfl, rfl⟩⟩
  · exact ⟨rfl, .inl ⟨rfl, rfl⟩⟩

end Go.Proofs.YtaaofanhjolikaaGreatDoor.Msg
