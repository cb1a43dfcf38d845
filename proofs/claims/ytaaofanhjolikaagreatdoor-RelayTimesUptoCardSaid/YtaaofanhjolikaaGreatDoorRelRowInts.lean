/- A struct of ints, by value, opened: its cells are ints. No condition. -/
import Derived.Test.YtaaofanhjolikaaGreatDoorRelRowKit
set_option linter.unusedVariables false
namespace Go.Proofs.YtaaofanhjolikaaGreatDoor.Rw
open Go.ChangeShapes Go.WideShapes Go.ChangeAt Go.RowKit Go.Deep

theorem ints_of {P : Program} {w : World} {base : Nat} {t it : TypeId} {v : Value} {fs : Array Field} {n : Nat} (hs : P.underlying t = some (.struct fs)) (hi : P.underlying it = some (.int .i64)) (hts : P.cellTypes P.depth t = some (List.replicate n it)) (hc : P.cellsOf t = n)
    (hv : Value.okWide P w .any base t v) : ∃ l : List Int, l.length = n ∧ v = .agg (l.map (Value.int .i64)).toArray ∧ ∀ z ∈ l, -9223372036854775808 ≤ z ∧ z ≤ 9223372036854775807 := by
  simp only [Value.okWide, hs] at hv
  obtain ⟨cs, rfl, hsz, ts, hts2, _, hall⟩ := hv
  rw [hts] at hts2; injection hts2 with hts2; subst hts2
  rw [hc] at hsz
  have h1 : ∀ v ∈ cs.toList, ∃ z : Int, v = .int .i64 z ∧ (-9223372036854775808 ≤ z ∧ z ≤ 9223372036854775807) := by
    intro v hv
    obtain ⟨i, hi1, hi2⟩ := List.mem_iff_getElem.1 hv
    have hi3 : i < cs.size := by simpa using hi1
    obtain ⟨u, hu, hok⟩ := hall i v (by rw [Array.getElem?_eq_getElem hi3]; simpa using hi2)
    have hu2 : u = it := by
      have := List.mem_of_getElem? hu
      exact (List.mem_replicate.1 this).2
    subst hu2
    have hok2 : Cell.ok P w .any base u v := by
      unfold Cell.okWide at hok
      rw [hi] at hok
      split at hok <;> first | exact hok | (exfalso; simp_all; done)
    unfold Cell.ok at hok2
    rw [hi] at hok2
    split at hok2
    all_goals first
      | (rename_i hx; cases hx; exact ⟨_, congrArg (fun k => Value.int k _) hok2.1, by
          have := hok2.2
          simp only [IntKind.has] at this
          have hmn : IntKind.i64.min = -9223372036854775808 := by decide
          have hmx : IntKind.i64.max = 9223372036854775807 := by decide
          rw [← hmn, ← hmx]
          exact this⟩)
      | exact hok2.elim
      | (exfalso; simp_all; done)
  have h2 : ∀ l : List Value, (∀ v ∈ l, ∃ z : Int, v = .int .i64 z ∧ (-9223372036854775808 ≤ z ∧ z ≤ 9223372036854775807)) → ∃ k : List Int, l = k.map (Value.int .i64) ∧ ∀ z ∈ k, -9223372036854775808 ≤ z ∧ z ≤ 9223372036854775807 := by
    intro l
    induction l with
    | nil => exact fun _ => ⟨[], rfl, by simp⟩
    | cons x r ih =>
      intro h
      obtain ⟨z, rfl, hz⟩ := h x (by simp)
      obtain ⟨k, rfl, hk⟩ := ih (fun v hv => h v (by simp [hv]))
      exact ⟨z :: k, rfl, fun y hy => by rcases List.mem_cons.1 hy with rfl | hy; exact hz; exact hk y hy⟩
  obtain ⟨k, hk, hkr⟩ := h2 cs.toList h1
  refine ⟨k, ?_, ?_, hkr⟩
  · have : cs.toList.length = k.length := by rw [hk]; simp
    rw [← this, Array.length_toList, hsz]
  · rw [← hk]
theorem list13 {l : List Int} (h : l.length = 13) : ∃ a0 a1 a2 a3 a4 a5 a6 a7 a8 a9 a10 a11 a12, l = [a0, a1, a2, a3, a4, a5, a6, a7, a8, a9, a10, a11, a12] := by
  rcases l with _ | ⟨a0, _ | ⟨a1, _ | ⟨a2, _ | ⟨a3, _ | ⟨a4, _ | ⟨a5, _ | ⟨a6, _ | ⟨a7, _ | ⟨a8, _ | ⟨a9, _ | ⟨a10, _ | ⟨a11, _ | ⟨a12, _ | ⟨a13, l⟩⟩⟩⟩⟩⟩⟩⟩⟩⟩⟩⟩⟩⟩ <;> first | (simp at h; done) | exact ⟨_, _, _, _, _, _, _, _, _, _, _, _, _, rfl⟩
end Go.Proofs.YtaaofanhjolikaaGreatDoor.Rw
