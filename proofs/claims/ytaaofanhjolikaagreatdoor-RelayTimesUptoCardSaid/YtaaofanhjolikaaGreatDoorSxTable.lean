/- A table of functions for the machine of names; a run from nothing, as a contract. Over any program. -/
import Derived.Test.YtaaofanhjolikaaGreatDoorSxHook
set_option autoImplicit false
set_option relaxedAutoImplicit false
set_option linter.unusedVariables false
namespace Go.Proofs.YtaaofanhjolikaaGreatDoor.Sx
open Go Go.RowKit
variable {P : Program} {G : Nat}

def OkL (P : Program) : List (Nat × Func) → Prop
  | [] => True
  | (f, fn) :: r => (P.funcs[f]? = some fn ∧ (fn.name == "runtime.NumGoroutine") = false) ∧ OkL P r
def tbOf (P : Program) (G : Nat) : List (Nat × Func) → T (Option CF)
  | [] => .lf
  | (f, fn) :: r => (tbOf P G r).set f (compF P G fn)
def tabOf (P : Program) (G : Nat) (l : List (Nat × Func)) (f : Nat) : Option CF := match (tbOf P G l).get f with
  | some (some c) => some c
  | _ => none

theorem tbOf_ok : ∀ {l : List (Nat × Func)}, OkL P l → ∀ {f : Nat} {cf : CF}, (tbOf P G l).get f = some (some cf) → FnOk P G f cf
  | [], _, f, cf, h => by simp [tbOf, T.get] at h
  | (f0, fn) :: r, hl, f, cf, h => by
    simp only [tbOf] at h
    rw [T.get_set] at h
    by_cases hf : f = f0
    · subst hf
      rw [if_pos rfl] at h
      injection h with h
      exact fnOk_of hl.1.1 hl.1.2 h
    · rw [if_neg hf] at h
      exact tbOf_ok hl.2 h
theorem tabOf_ok {l : List (Nat × Func)} (hl : OkL P l) {f : Nat} {cf : CF} (h : tabOf P G l f = some cf) : FnOk P G f cf := by
  unfold tabOf at h
  split at h
  · rename_i c hc
    injection h with h; subst h
    exact tbOf_ok hl hc
  · cases h

/-- the names of the program's own variables alone; what is open is op -/
def v0 (G : Nat) (op : Nat → Value) : Val := { blk := fun n => if n < G then some n else none, bas := fun _ => 0, tot := fun _ => 0, op := op }
theorem v0_ok {G : Nat} {op : Nat → Value} (ho : ∀ i, (op i).oneCell' = true) : GOk (v0 G op) G := ⟨fun g hg => by simp [v0, hg], ho⟩
theorem conc_none {v : Val} {w : World} : Conc v .lf w := ⟨fun n B h => by simp [T.get] at h, fun n m B C h => by simp [T.get] at h⟩

/-- what is left of old memory -/
theorem below_of_ext {v v' : Val} {h h' : Heap} {w w' : World} {B : Nat} (e : Ext v h w v' h' w') (hB : B ≤ w.heap.size) (hn : ∀ n C b, h.get n = some C → v.blk n = some b → B ≤ b) : Below B w w' :=
  ⟨e.os, e.tape, e.output, e.size, fun i hi => e.frame i (Nat.lt_of_lt_of_le hi hB) (fun n C hC hb => absurd (hn n C i hC hb) (by omega))⟩
end Go.Proofs.YtaaofanhjolikaaGreatDoor.Sx
