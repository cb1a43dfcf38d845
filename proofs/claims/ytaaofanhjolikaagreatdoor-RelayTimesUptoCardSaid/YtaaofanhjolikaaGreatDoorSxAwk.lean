/- awake as a call of the machine of names; a run from the table of powers of ten alone. -/
import Derived.Test.YtaaofanhjolikaaGreatDoorSxAwake
set_option autoImplicit false
set_option relaxedAutoImplicit false
set_option linter.unusedVariables false
namespace Go.Proofs.YtaaofanhjolikaaGreatDoor.Sx
open Go Go.RowKit
/-- awake, as a call -/
def awHk : Cl := fun f xs h nx => match f, xs with
  | 9, [] => some (.bool true, h, nx)
  | _, _ => none
theorem awHk_sound {G : Nat} : ClSound Tryz.prog G awHk := by
  intro f args h nx r h' nx' he
  unfold awHk at he
  split at he
  · injection he with he; injection he with e1 e2; injection e2 with e2 e3
    subst e1; subst e2; subst e3
    refine ⟨Nat.le_refl _, enters_of Tryz.func9 (by kernel_rfl) rfl, fun v w ar c hg has hf => ?_⟩
    simp only [denL] at has; injection has with has; subst has
    refine Calls.mono (awake_any w) ?_
    rintro e w' ⟨rfl, hb⟩
    exact post_plain c hf hb rfl
  · cases he
def hkN : Cl := fun f xs h nx => match awHk f xs h nx with | some r => some r | none => hkG f xs h nx
theorem hkN_sound : ClSound Tryz.prog Gn hkN := ClSound.orElse awHk_sound hkG_sound

def pow10N : List Int := [1, 10, 100, 1000, 10000, 100000, 1000000, 10000000, 100000000, 1000000000, 10000000000, 100000000000, 1000000000000, 10000000000000, 100000000000000, 1000000000000000, 10000000000000000, 100000000000000000, 1000000000000000000, 10000000000000000000]
def pow10V : List V := pow10N.map (V.int .u64)
def pow10C : List Value := pow10N.map (Value.int .u64)
theorem pow10_den {v : Val} : denL v pow10V = some pow10C := rfl
def heapP : Heap := T.lf.set 2 (.ro pow10V 1)
theorem heapP_get {n : Nat} {B : Blk} (h : heapP.get n = some B) : n = 2 ∧ B = .ro pow10V 1 := by
  unfold heapP at h
  rw [T.get_set] at h
  by_cases hn : n = 2
  · rw [if_pos hn] at h; injection h with h; exact ⟨hn, h.symm⟩
  · rw [if_neg hn] at h; simp [T.get] at h
def isTP : Option (V × Heap × Nat) → Bool
  | some (.bool true, h', _) => match h'.get 2 with
    | some (.ro c i) => V.beqL c pow10V && Nat.beq i 1
    | _ => false
  | _ => false
theorem isTP_some {o : Option (V × Heap × Nat)} (h : isTP o = true) : ∃ h' nx', o = some (.bool true, h', nx') ∧ h'.get 2 = some (.ro pow10V 1) := by
  unfold isTP at h
  split at h
  · split at h
    · rename_i hg
      simp only [Bool.and_eq_true] at h
      obtain rfl := V.beqL_eq h.1
      obtain rfl := Nat.eq_of_beq_eq_true h.2
      exact ⟨_, _, rfl, hg⟩
    · cases h
  · cases h
theorem gP_lt : 2 < Gn := Nat.lt_of_lt_of_le (Nat.lt_succ_self _) (Nat.le_of_ble_eq_true (by kernel_rfl))
theorem free_v0 (op : Nat → Value) : ∀ n, 1000 ≤ n → (v0 Gn op).blk n = none := fun n hn => by
  have := Gn_le
  have h9 : ¬ n < Gn := by omega
  simp [v0, h9]
theorem conc_P {op : Nat → Value} {e : Nat} {w : World} (ho : op 1 = .int .i64 e) (htab : w.heap[2]? = some (.cells pow10C.toArray e (0, 0))) : Conc (v0 Gn op) heapP w := by
  refine ⟨fun n B hB => ?_, fun n m B C hB hC _ => (heapP_get hB).1.trans (heapP_get hC).1.symm⟩
  obtain ⟨rfl, rfl⟩ := heapP_get hB
  exact ⟨2, by have := gP_lt; simp [v0, this], pow10C, e, ho, htab, pow10_den, rfl⟩
theorem post_P {op : Nat → Value} {e : Nat} {w w' : World} {h' : Heap} {nx nx' : Nat} {r : Ending} (ho : op 1 = .int .i64 e) (htab : w.heap[2]? = some (.cells pow10C.toArray e (0, 0)))
    (hp : h'.get 2 = some (.ro pow10V 1)) (h : CallPost (v0 Gn op) heapP w nx (.bool true) h' nx' r w') : r = .returned (.bool true) ∧ Below w.heap.size w w' := by
  obtain ⟨v', y, rfl, hy, hc, hext, _, _⟩ := h
  simp only [den] at hy; injection hy with hy; subst hy
  have hlt := gP_lt
  have hb0 : (v0 Gn op).blk 2 = some 2 := by simp [v0, hlt]
  have htab' : w'.heap[2]? = w.heap[2]? := by
    obtain ⟨b, hb, vs, e', h1, h2, h3, _⟩ := hc.ok _ _ hp
    rw [(hext.le.blk _ _ hb0).1] at hb; injection hb with hb; subst hb
    rw [hext.le.op] at h1
    have h1' : op 1 = .int .i64 e' := h1
    rw [ho] at h1'; injection h1' with _ h1'
    have he : e = e' := by omega
    subst he
    rw [pow10_den] at h3; injection h3 with h3; subst h3
    rw [h2, htab]
  refine ⟨rfl, hext.os, hext.tape, hext.output, hext.size, fun i hi => ?_⟩
  by_cases hg : i = 2
  · subst hg; exact htab'
  · refine hext.frame i hi (fun n B hB he => ?_)
    obtain ⟨rfl, _⟩ := heapP_get hB
    rw [hb0] at he; injection he with he; exact hg he.symm
end Go.Proofs.YtaaofanhjolikaaGreatDoor.Sx
