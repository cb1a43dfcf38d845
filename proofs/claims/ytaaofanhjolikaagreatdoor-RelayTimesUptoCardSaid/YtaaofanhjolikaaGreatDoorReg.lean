/- Regions that leave their order open: operations that only read, ahead of a tail in one order, walked one by one by the walk's own steps. Over any program. -/
import Derived.WalkKit
import Derived.StillTail
set_option linter.unusedVariables false
set_option linter.unusedSimpArgs false
namespace Go.Proofs.YtaaofanhjolikaaGreatDoor.Reg
open Go

/-- operations that come to a value or to nothing, and to nothing else -/
def plainOp : Op → Bool
  | .call { callee := .builtin .len, .. } => true
  | .call { callee := .builtin .cap, .. } => true
  | .call _ | .go _ | .defer _ | .send .. | .recv .. | .select .. => false
  | _ => true

/-- operations that leave no value -/
def skipOp : Op → Bool
  | .store .. | .ready _ | .mapUpdate .. | .insert .. | .entryStore .. => true
  | _ => false

theorem bind_ok {P : Program} {α β : Type} {s : Sem α} {k : α → Sem β} {w w' : World} {b : β} (h : (s >>= k).run P w = .ok b w') : ∃ a w1, s.run P w = .ok a w1 ∧ (k a).run P w1 = .ok b w' := by
  rw [Sem.run_bind] at h
  cases hx : s.run P w with
  | ok a w1 => rw [hx] at h; exact ⟨a, w1, rfl, h⟩
  | halt a w1 => rw [hx] at h; simp [Result.andThen] at h

theorem plain_run {P : Program} {ρ : Operand → Value} {o : Oper} (h : plainOp o.op = true) {w w' : World} {n : Next} (hr : (execOp ρ o).run P w = .ok n w') : (∃ v, n = .value v) ∨ (n = .skip ∧ skipOp o.op = true) := by
  obtain ⟨dst, op, ty, pos, after, guard⟩ := o
  have hv : ∀ s : Sem Value, (do pure (Next.value (← s)) : Sem Next).run P w = .ok n w' → (∃ v, n = .value v) ∨ (n = .skip ∧ skipOp op = true) := by
    intro s hs
    simp only [Sem.run_bind, Sem.run_pure] at hs
    cases hx : s.run P w with
    | ok a w1 =>
      rw [hx] at hs
      simp only [Result.andThen] at hs
      exact .inl ⟨a, by injection hs with h1 _; exact h1.symm⟩
    | halt a w1 => rw [hx] at hs; simp [Result.andThen] at hs
  have hu : ∀ s : Sem Unit, (do s; pure Next.skip : Sem Next).run P w = .ok n w' → n = .skip := by
    intro s hs
    simp only [Sem.run_bind, Sem.run_pure] at hs
    cases hx : s.run P w with
    | ok a w1 =>
      rw [hx] at hs
      simp only [Result.andThen] at hs
      injection hs with h1 _; exact h1.symm
    | halt a w1 => rw [hx] at hs; simp [Result.andThen] at hs
  cases op
  all_goals (try (simp [plainOp] at h; done))
  all_goals (try (exact hv _ hr))
  all_goals (try (exact .inr ⟨hu _ hr, rfl⟩))
  case move x => simp [execOp] at hr; exact .inl ⟨_, hr.1.symm⟩
  case assign x => simp [execOp] at hr; exact .inl ⟨_, hr.1.symm⟩
  case pick c a b =>
    simp only [execOp, Sem.run_bind, Sem.run_pure] at hr
    cases hx : (asBool (ρ c)).run P w with
    | ok t w1 =>
      rw [hx] at hr
      simp only [Result.andThen] at hr
      exact .inl ⟨_, by injection hr with h1 _; exact h1.symm⟩
    | halt t w1 => rw [hx] at hr; simp [Result.andThen] at hr
  case nilCheck x =>
    simp only [execOp] at hr
    split at hr
    · simp [runtimePanic] at hr
    · simp [runtimePanic] at hr
    · simp [runtimePanic] at hr
    · split at hr
      · simp [runtimePanic] at hr
      · obtain ⟨_, _, _, hr⟩ := bind_ok hr
        obtain ⟨_, _, _, hr⟩ := bind_ok hr
        split at hr
        · obtain ⟨_, _, hr, _⟩ := bind_ok hr
          simp [unsupported] at hr
        · simp at hr; exact .inl ⟨_, hr.1.symm⟩
      · simp at hr; exact .inl ⟨_, hr.1.symm⟩
    · simp at hr; exact .inl ⟨_, hr.1.symm⟩
  case call c =>
    obtain ⟨callee, args, ats⟩ := c
    cases callee with
    | value f => simp [plainOp] at h
    | invoke r m => simp [plainOp] at h
    | builtin b =>
      cases b <;> (try (simp [plainOp] at h; done))
      · exact hv _ hr
      · exact hv _ hr

/-- the operations l, one by one, each of which leaves the world as it is -/
def headWp (P : Program) (ops : Array Oper) (w : World) (C : Act → Prop) : List Oper → Act → Prop
  | [], a => C a
  | o :: rest, a => wpList P ops (fun e a' w' => e = .normal ∧ w' = w ∧ headWp P ops w C rest a') [o] a w

theorem headWp_nil {P : Program} {ops : Array Oper} {w : World} {C : Act → Prop} {a : Act} (h : C a) : headWp P ops w C [] a := h
theorem headWp_cons {P : Program} {ops : Array Oper} {w : World} {C : Act → Prop} {o : Oper} {rest : List Oper} {a : Act}
    (h : ∀ D : Act → Prop, (∀ a', headWp P ops w C rest a' → D a') → wpList P ops (fun e a' w' => e = .normal ∧ w' = w ∧ D a') [o] a w) : headWp P ops w C (o :: rest) a := h _ (fun _ h => h)

theorem still_of_head {P : Program} {ops : Array Oper} {w : World} {C : Act → Prop} : ∀ (l : List Oper) (a : Act), (l.all fun o => plainOp o.op) = true → headWp P ops w C l a → wpStill P ops w C l a
  | [], a, _, h => h
  | o :: rest, a, hp, h => by
    rw [List.all_cons, Bool.and_eq_true] at hp
    unfold headWp wpList at h
    unfold wpStill
    split
    · rename_i hw
      rw [if_pos hw] at h
      rcases h with h | ⟨_, a0, w0, h⟩
      · unfold Oper.wp at h
        unfold Oper.still
        cases hr : (execOp a.eval o).run P w with
        | ok n w' =>
          rw [hr] at h
          rcases plain_run hp.1 hr with ⟨v, rfl⟩ | ⟨rfl, _⟩
          · simp only [Oper.upon, wpList] at h
            exact ⟨h.2.1, still_of_head rest _ hp.2 h.2.2⟩
          · simp only [Oper.upon, wpList] at h
            exact ⟨h.2.1, still_of_head rest _ hp.2 h.2.2⟩
        | halt x w' =>
          rw [hr] at h
          cases x <;> simp [Oper.upon] at h
      · cases h.1
    · rename_i hw
      rw [if_neg hw] at h
      simp only [wpList] at h
      exact still_of_head rest _ hp.2 h.2.2

/-- The first n operations leave the world as it is, the others stand in one order behind them. -/
theorem region_head {P : Program} {id : Nat} {Q : Exit → Act → World → Prop} {a : Act} {w : World} {l : List Oper} (n : Nat) (hm : P.follows .mixedOrders = true) (hB : (Region.lexTailB .any l.toArray n && (l.take n).all fun o => plainOp o.op) = true)
    (h : headWp P l.toArray w.drew (fun a' => wpList P l.toArray Q (l.drop n) a' w.drew) (l.take n) a) : (Code.region id l.toArray true).wp P Q a w := by
  rw [Bool.and_eq_true] at hB
  exact wp_region_still_tail n hm hB.1 (still_of_head _ _ hB.2 h)

end Go.Proofs.YtaaofanhjolikaaGreatDoor.Reg
