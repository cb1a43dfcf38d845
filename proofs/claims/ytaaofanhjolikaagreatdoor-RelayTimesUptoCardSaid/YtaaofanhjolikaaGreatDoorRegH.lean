/- Regions that leave their order open, with operations that make or write memory among those that read: what reads is taken first, under a condition S on the world; the others stand in one order. Over any program. -/
import Derived.Test.YtaaofanhjolikaaGreatDoorWLast
import Derived.Test.YtaaofanhjolikaaGreatDoorReg
set_option linter.unusedVariables false
set_option linter.unusedSimpArgs false
namespace Go.Proofs.YtaaofanhjolikaaGreatDoor.Reg
open Go Go.Proofs.YtaaofanhjolikaaGreatDoorW.PrintLast

/-- the reading operations, with what each leaves, whatever the world that meets S -/
def headS (P : Program) (ops : Array Oper) (S : World → Prop) (C : Act → Prop) : List (Nat × Value) → Act → Prop
  | [], a => C a
  | (i, v) :: rest, a => ∃ o d, ops[i]? = some o ∧ o.dst = some d ∧ d < a.tmps.size ∧
      (∀ W, S W → wpList P ops (fun e a'' w' => e = .normal ∧ w' = W ∧ a'' = a.put (some d) v) [o] a W) ∧ headS P ops S C rest (a.put (some d) v)

theorem headS_nil {P : Program} {ops : Array Oper} {S : World → Prop} {C : Act → Prop} {a : Act} (h : C a) : headS P ops S C [] a := h
theorem headS_cons {P : Program} {ops : Array Oper} {S : World → Prop} {C : Act → Prop} {i : Nat} {v : Value} {rest : List (Nat × Value)} {a a' : Act} {o : Oper} {d : Tmp}
    (hi : ops[i]? = some o) (hd : o.dst = some d) (hlt : (decide (d < a.tmps.size)) = true) (ha : a.put (some d) v = a')
    (h : ∀ W, S W → ∀ D : Act → Prop, D a' → wpList P ops (fun e a'' w' => e = .normal ∧ w' = W ∧ D a'') [o] a W) (hr : headS P ops S C rest a') : headS P ops S C ((i, v) :: rest) a := by
  subst ha
  exact ⟨o, d, hi, hd, of_decide_eq_true hlt, fun W hW => h W hW (fun a'' => a'' = a.put (some d) v) rfl, hr⟩

/-- the others, in their one order; S is shown behind those that are not of ds -/
def tailS (P : Program) (ops : Array Oper) (Q : Exit → Act → World → Prop) (S : World → Prop) (ds : List Nat) : List Nat → Act → World → Prop
  | [], a, w => Q .normal a w
  | i :: rest, a, w => ∃ o, ops[i]? = some o ∧ wpList P ops (fun e a' w' => e = .normal ∧ (i ∉ ds → S w') ∧ tailS P ops Q S ds rest a' w') [o] a w

theorem tailS_nil {P : Program} {ops : Array Oper} {Q : Exit → Act → World → Prop} {S : World → Prop} {ds : List Nat} {a : Act} {w : World} (h : Q .normal a w) : tailS P ops Q S ds [] a w := h
theorem tailS_cons {P : Program} {ops : Array Oper} {Q : Exit → Act → World → Prop} {S : World → Prop} {ds : List Nat} {i : Nat} {rest : List Nat} {a : Act} {w : World} {o : Oper} (hi : ops[i]? = some o)
    (h : ∀ K : Act → World → Prop, (∀ a' w', S w' → tailS P ops Q S ds rest a' w' → K a' w') → wpList P ops (fun e a' w' => e = .normal ∧ K a' w') [o] a w) : tailS P ops Q S ds (i :: rest) a w :=
  ⟨o, hi, h _ (fun _ _ h1 h2 => ⟨fun _ => h1, h2⟩)⟩
theorem tailS_last {P : Program} {ops : Array Oper} {Q : Exit → Act → World → Prop} {S : World → Prop} {ds : List Nat} {i : Nat} {rest : List Nat} {a : Act} {w : World} {o : Oper} (hi : ops[i]? = some o) (hd : (ds.contains i) = true)
    (h : ∀ K : Act → World → Prop, (∀ a' w', tailS P ops Q S ds rest a' w' → K a' w') → wpList P ops (fun e a' w' => e = .normal ∧ K a' w') [o] a w) : tailS P ops Q S ds (i :: rest) a w :=
  ⟨o, hi, h _ (fun _ _ h2 => ⟨fun hn => absurd (List.contains_iff_mem.1 hd) hn, h2⟩)⟩

def headB (ops : Array Oper) (ds : List Nat) (k : Array Bool → Bool) : List Nat → Array Bool → Bool
  | [], l => k l
  | i :: rest, l => Region.free .any ops l i && (Region.ready .any ops l).contains i && Region.closedB .any ops l && Region.lastB .any ops l ds i && headB ops ds k rest (l.setIfInBounds i true)
def tailB (ops : Array Oper) : List Nat → Array Bool → Bool
  | [], l => Region.ready .any ops l == []
  | i :: rest, l => (Region.ready .any ops l == [i]) && tailB ops rest (l.setIfInBounds i true)
def heldB (ops : Array Oper) (ds hd tl : List Nat) : Bool :=
  Region.noSelect ops && decide (hd.length + tl.length = ops.size) && headB ops ds (tailB ops tl) hd (Array.replicate ops.size false)

section
variable {P : Program} {ops : Array Oper} {Q : Exit → Act → World → Prop} {S : World → Prop} {ds : List Nat}

theorem wpOp_of_list {i : Nat} {o : Oper} {a : Act} {w : World} {K : Act → World → Prop} (hi : ops[i]? = some o) (h : wpList P ops (fun e a' w' => e = .normal ∧ K a' w') [o] a w) : wpOp P ops (NoPanic Q) i K a w := by
  unfold wpList at h
  unfold wpOp
  simp only [hi]
  split
  · rename_i hw
    rw [if_pos hw] at h
    rcases h with h | ⟨_, a0, w0, h⟩
    · refine .inl ?_
      unfold Oper.wp at *
      generalize (execOp a.eval o).run P w = r at *
      cases r with
      | ok n w' =>
        cases n <;> simp only [Oper.upon, wpList] at h ⊢
        case value v => exact h.2
        case skip => exact h.2
        case defer d => exact h.2
        case enter f args =>
          refine Calls.mono h fun e w'' he => ?_
          cases e with
          | returned u => exact he.2
          | panicked c => cases he.1
          | outgrown => obtain ⟨_, _, he⟩ := he; cases he.1
        case row row args => exact Rows.mono h fun u w'' he => he.2
      | halt x w' =>
        cases x <;> simp only [Oper.upon] at h ⊢
        case panic u => cases h.1
    · cases h.1
  · rename_i hw
    rw [if_neg hw] at h
    simp only [wpList] at h
    exact h.2

theorem any_of_tail : ∀ (tl : List Nat) (l : Array Bool) (a : Act) (w : World), tailB ops tl l = true → tailS P ops Q S ds tl a w → wpAnyLast P .any ops (NoPanic Q) S ds tl.length l a w
  | [], l, a, w, hB, h => ⟨by simpa [tailB] using hB, h⟩
  | i :: rest, l, a, w, hB, h => by
    simp only [tailB, Bool.and_eq_true, beq_iff_eq] at hB
    obtain ⟨o, hi, h⟩ := h
    refine wpAnyLast_all (rs := [i]) hB.1 (by simp) (fun j hj => ?_)
    obtain rfl : j = i := by simpa using hj
    exact wpOp_mono (fun a' w' h' => ⟨fun hn _ => h'.1 hn, any_of_tail rest _ a' w' hB.2 h'.2⟩) (wpOp_of_list hi h)

theorem yields_of_list {o : Oper} {a : Act} {d : Tmp} {v : Value} {W0 : World} (hS0 : S W0) (hp : (plainOp o.op && !skipOp o.op) = true) (hd : o.dst = some d) (hlt : d < a.tmps.size)
    (h : ∀ W, S W → wpList P ops (fun e a'' w' => e = .normal ∧ w' = W ∧ a'' = a.put (some d) v) [o] a W) : YieldsIf P ops S o v a := by
  rw [Bool.and_eq_true] at hp
  have hput : ∀ u : Value, a.put (some d) u = a.put (some d) v → u = v := by
    intro u e
    have h1 := congrArg (fun x : Act => x.tmps[d]?) e
    simpa [Act.put, hlt] using h1
  cases hw : Region.wanted o (yielded ops a.tmps) with
  | true =>
    refine .inl ⟨hw, fun W hW => ?_⟩
    have h1 := h W hW
    unfold wpList at h1
    rw [if_pos hw] at h1
    rcases h1 with h1 | ⟨_, a0, w0, h1⟩
    · unfold Oper.wp at h1
      cases hr : (execOp a.eval o).run P W with
      | ok n w' =>
        rw [hr] at h1
        rcases plain_run hp.1 hr with ⟨u, rfl⟩ | ⟨rfl, hk⟩
        · simp only [Oper.upon, wpList, hd] at h1
          obtain ⟨_, rfl, h2⟩ := h1
          rw [hput u h2]
        · have h3 := hp.2
          rw [hk] at h3
          cases h3
      | halt x w' =>
        rw [hr] at h1
        cases x <;> simp [Oper.upon] at h1
    · cases h1.1
  | false =>
    refine .inr ⟨hw, ?_⟩
    have h1 := h W0 hS0
    unfold wpList at h1
    rw [if_neg (by rw [hw]; decide)] at h1
    simp only [wpList, hd] at h1
    exact (hput _ h1.2.2).symm

theorem any_of_head (hsel : Region.noSelect ops = true) {C : Act → Prop} {n : Nat} {k : Array Bool → Bool} {w : World} (hS : S w) (hC : ∀ l a, k l = true → C a → wpAnyLast P .any ops (NoPanic Q) S ds n l a w) :
    ∀ (hd : List (Nat × Value)) (l : Array Bool) (a : Act), headB ops ds k (hd.map (·.1)) l = true → (hd.all fun x => match ops[x.1]? with | some o => plainOp o.op && !skipOp o.op | none => false) = true →
      headS P ops S C hd a → wpAnyLast P .any ops (NoPanic Q) S ds (hd.length + n) l a w
  | [], l, a, hB, _, h => by
    rw [List.length_nil, Nat.zero_add]
    exact hC l a hB h
  | (i, v) :: rest, l, a, hB, hp, h => by
    simp only [List.map_cons, headB, Bool.and_eq_true] at hB
    obtain ⟨⟨⟨⟨h1, h2⟩, h3⟩, h4⟩, h5⟩ := hB
    rw [List.all_cons, Bool.and_eq_true] at hp
    obtain ⟨o, d, hi, hd, hlt, hy, hr⟩ := h
    have hp1 : (plainOp o.op && !skipOp o.op) = true := by have := hp.1; rwa [hi] at this
    rw [show ((i, v) :: rest).length + n = (rest.length + n) + 1 by simp; omega]
    refine wpAnyLast_take hi hsel h1 h2 h3 h4 (fun _ _ _ h => h) (yields_of_list hS hp1 hd hlt hy) hS ?_
    rw [hd]
    exact any_of_head hsel hS hC rest _ _ h5 hp.2 hr

end

/-- THE LAW: hd, with what each leaves; tl; behind those of ds nothing is shown of S. -/
theorem region_held {P : Program} {id : Nat} {Q : Exit → Act → World → Prop} {a : Act} {w : World} {l : List Oper} (S : World → Prop) (ds : List Nat) (hd : List (Nat × Value)) (tl : List Nat) (hm : P.follows .mixedOrders = true)
    (hB : (heldB l.toArray ds (hd.map (·.1)) tl && hd.all fun x => match l.toArray[x.1]? with | some o => plainOp o.op && !skipOp o.op | none => false) = true)
    (hS : S w.drew) (h : headS P l.toArray S (fun a' => tailS P l.toArray Q S ds tl a' w.drew) hd a) : (Code.region id l.toArray true).wp P Q a w := by
  rw [Bool.and_eq_true] at hB
  obtain ⟨hB, hp⟩ := hB
  simp only [heldB, Bool.and_eq_true, decide_eq_true_eq] at hB
  obtain ⟨⟨hsel, hn⟩, hB⟩ := hB
  refine wp_region_noPanic (wp_region_last (S := S) (ds := ds) hm ?_)
  have h1 := any_of_head (P := P) (Q := Q) (S := S) (ds := ds) (n := tl.length) (w := w.drew) hsel hS (fun l' a' hl ha => any_of_tail tl l' a' w.drew hl ha) hd _ a hB hp h
  rw [List.length_map] at hn
  rw [hn] at h1
  exact h1

end Go.Proofs.YtaaofanhjolikaaGreatDoor.Reg
