/- A machine of names: the operations that read no memory do what the table says (1). Over any program. -/
import Derived.Test.YtaaofanhjolikaaGreatDoorSxPure2
set_option linter.unusedVariables false
set_option linter.unusedSimpArgs false
namespace Go.Proofs.YtaaofanhjolikaaGreatDoor.Sx
open Go

section
variable {P : Program} {G : Nat} {v : Val} {t : T V} {a : Act}

/-- an operand that may lack -/
def ODen (v : Val) : Option V → Option Value → Prop
  | none, none => True
  | some u, some z => den v u = some z
  | _, _ => False
/-- what a pure operation leaves -/
def Pure1 (P : Program) (v : Val) (me : Nat) (o : Oper) (a : Act) (x : V) : Prop :=
  ∃ v' y, Nm v v' me ∧ den v' x = some y ∧ ∀ w, (execOp a.eval o).run P w = .ok (.value y) w
theorem pure1_same {me : Nat} {o : Oper} {x : V} {y : Value} (hd : den v x = some y) (h : ∀ w, (execOp a.eval o).run P w = .ok (.value y) w) : Pure1 P v me o a x := ⟨v, y, .inl rfl, hd, h⟩

def bndRun (y : Option Value) (hi d : Nat) (c : BoundsCode) : Sem Nat := match y with | some z => Instr.sliceBound z hi c | none => pure d
theorem bnd_sound {w : World} {x : Option V} {y : Option Value} {hi d n : Nat} {c : BoundsCode} (hx : ODen v x y) (h : bnd x hi d = some n) :
    (bndRun y hi d c).run P w = .ok n w ∧ (x.isSome = true → n ≤ hi) := by
  cases x with
  | none =>
    cases y with
    | none => simp only [bnd] at h; injection h with h; subst h; exact ⟨rfl, by simp⟩
    | some z => exact hx.elim
  | some u =>
    cases y with
    | none => exact hx.elim
    | some z =>
      have hx2 : den v u = some z := hx
      clear hx
      cases u <;> simp only [bnd] at h <;> first | (cases h; done) | skip
      rename_i k i
      by_cases hb : 0 ≤ i ∧ i ≤ hi
      · rw [if_pos hb] at h; injection h with h; subst h
        simp only [den] at hx2; injection hx2 with hx2; subst hx2
        exact ⟨by simp [bndRun, Instr.sliceBound, asIntOf, hb], fun _ => by omega⟩
      · rw [if_neg hb] at h; cases h

theorem bnds_sound {w : World} {b : Bool} {mx hi lo : Option V} {mx' hi' lo' : Option Value} {len cap : Nat} {l h m : Nat}
    (h1 : ODen v mx mx')
    (h2 : ODen v hi hi')
    (h3 : ODen v lo lo')
    (hb : bnds mx hi lo len cap = some (l, h, m)) : (Instr.sliceBounds b len cap lo' hi' mx').run P w = .ok (l, h, m) w := by
  unfold bnds at hb
  split at hb
  · cases hb
  · rename_i hno
    cases e1 : bnd mx cap cap with
    | none => rw [e1] at hb; cases hb
    | some m' =>
      rw [e1] at hb; simp only at hb
      cases e2 : bnd hi m' len with
      | none => rw [e2] at hb; cases hb
      | some h' =>
        rw [e2] at hb; simp only at hb
        cases e3 : bnd lo h' 0 with
        | none => rw [e3] at hb; cases hb
        | some l' =>
          rw [e3] at hb; simp only at hb
          injection hb with hb; injection hb with hb1 hb; injection hb with hb2 hb3; subst hb1; subst hb2; subst hb3
          cases mx with
          | none =>
            cases mx' with
            | some z => exact h1.elim
            | none =>
              simp only [bnd] at e1; injection e1 with e1; subst e1
              cases hi with
              | none =>
                cases hi' with
                | some z => exact h2.elim
                | none =>
                  simp only [bnd] at e2; injection e2 with e2; subst e2
                  have r3 := (bnd_sound (P := P) (w := w) (c := .sliceB) h3 e3).1
                  cases lo' <;> simp_all [Instr.sliceBounds, bndRun]
              | some u =>
                cases hi' with
                | none => exact h2.elim
                | some z =>
                  have r2 := (bnd_sound (P := P) (w := w) (c := if b then .sliceAcap else .sliceAlen) (x := some u) (y := some z) h2 e2).1
                  have r3 := (bnd_sound (P := P) (w := w) (c := .sliceB) h3 e3).1
                  cases lo' <;> simp_all [Instr.sliceBounds, bndRun]
          | some q =>
            cases mx' with
            | none => exact h1.elim
            | some z1 =>
              have r1 := (bnd_sound (P := P) (w := w) (c := if b then .slice3Acap else .slice3Alen) (x := some q) (y := some z1) h1 e1).1
              cases hi with
              | none => exact absurd rfl (hno q rfl)
              | some u =>
                cases hi' with
                | none => exact h2.elim
                | some z =>
                  have r2 := (bnd_sound (P := P) (w := w) (c := .slice3B) (x := some u) (y := some z) h2 e2).1
                  have r3 := (bnd_sound (P := P) (w := w) (c := .slice3C) h3 e3).1
                  cases lo' <;> simp_all [Instr.sliceBounds, bndRun]
theorem bnds_le {mx hi lo : Option V} {len cap l h m : Nat} (hlc : len ≤ cap ∨ hi.isSome = true) (hb : bnds mx hi lo len cap = some (l, h, m)) : l ≤ h ∧ h ≤ m ∧ (mx = none → m = cap) ∧ m ≤ cap := by
  unfold bnds at hb
  have hbnd : ∀ (x : Option V) (hi d n : Nat), bnd x hi d = some n → (x = none ∧ n = d) ∨ n ≤ hi := by
    intro x hi d n h
    cases x with
    | none => simp only [bnd] at h; injection h with h; exact .inl ⟨rfl, h.symm⟩
    | some u =>
      cases u <;> simp only [bnd] at h <;> first | (cases h; done) | skip
      rename_i k i
      by_cases hb : 0 ≤ i ∧ i ≤ hi
      · rw [if_pos hb] at h; injection h with h; exact .inr (by omega)
      · rw [if_neg hb] at h; cases h
  split at hb
  · cases hb
  · rename_i hno
    cases e1 : bnd mx cap cap with
    | none => rw [e1] at hb; cases hb
    | some m' =>
      rw [e1] at hb; simp only at hb
      cases e2 : bnd hi m' len with
      | none => rw [e2] at hb; cases hb
      | some h' =>
        rw [e2] at hb; simp only at hb
        cases e3 : bnd lo h' 0 with
        | none => rw [e3] at hb; cases hb
        | some l' =>
          rw [e3] at hb; simp only at hb
          injection hb with hb; injection hb with hb1 hb; injection hb with hb2 hb3; subst hb1; subst hb2; subst hb3
          have k1 := hbnd _ _ _ _ e1
          have k2 := hbnd _ _ _ _ e2
          have k3 := hbnd _ _ _ _ e3
          have hm : m' ≤ cap := by rcases k1 with ⟨_, rfl⟩ | k1 <;> omega
          have hl : l' ≤ h' := by rcases k3 with ⟨_, rfl⟩ | k3 <;> omega
          refine ⟨hl, ?_, ?_, hm⟩
          · rcases k2 with ⟨hn, rfl⟩ | k2
            · cases mx with
              | none =>
                rcases k1 with ⟨_, rfl⟩ | k1
                · rcases hlc with hlc | hlc
                  · exact hlc
                  · rw [hn] at hlc; cases hlc
                · simp only [bnd] at e1; injection e1 with e1; subst e1
                  rcases hlc with hlc | hlc
                  · exact hlc
                  · rw [hn] at hlc; cases hlc
              | some q => rw [hn] at hno; exact absurd rfl (hno q rfl)
            · exact k2
          · intro hn; subst hn; simp only [bnd] at e1; injection e1 with e1; exact e1.symm

theorem setAll_den : ∀ (xs : List V) {cs : List V} {ps qs : List Value} (off : Nat), denL v cs = some ps → denL v xs = some qs →
    denL v (setAll cs off xs) = some ((qs.zipIdx.foldl (fun (c : Array Value) (p : Value × Nat) => c.setIfInBounds (off + p.2) p.1) ps.toArray)).toList
  | [], cs, ps, qs, off, h1, h2 => by simp only [denL] at h2; injection h2 with h2; subst h2; simpa [setAll] using h1
  | x :: xs, cs, ps, qs, off, h1, h2 => by
    obtain ⟨q, l, hq, hl, rfl⟩ := denL_cons h2
    have h3 := denL_set off h1 hq
    have h4 := setAll_den xs (off + 1) h3 hl
    simp only [setAll]
    rw [h4]
    rw [List.zipIdx_cons, List.foldl_cons]
    have hsh : ∀ (l : List Value) (k : Nat) (c : Array Value), l.zipIdx.foldl (fun (c : Array Value) (p : Value × Nat) => c.setIfInBounds (off + 1 + p.2) p.1) c = (l.zipIdx 1).foldl (fun (c : Array Value) (p : Value × Nat) => c.setIfInBounds (off + p.2) p.1) c := by
      intro l k c
      rw [show (1 : Nat) = 0 + 1 from rfl, List.zipIdx_succ, List.foldl_map]
      congr 1
      funext c p
      rw [Nat.add_assoc, Nat.add_comm 1]
    rw [hsh l 0]
    simp
theorem setAll_length : ∀ (xs cs : List V) (off : Nat), (setAll cs off xs).length = cs.length
  | [], cs, off => rfl
  | x :: xs, cs, off => by simp [setAll, setAll_length xs]
theorem cells_den {x : V} {y : Value} (hg : GOk v G) (h : den v x = some y) : denL v x.cells = some y.cells.toList := by
  cases x
  case agg l =>
    simp only [den] at h
    cases hl : denL v l with
    | none => rw [hl] at h; cases h
    | some q => rw [hl] at h; injection h with h; subst h; simpa [V.cells, Value.cells] using hl
  case opq i =>
    have := hg.op i
    simp only [den] at h; injection h with h; subst h
    have hc : (v.op i).cells = #[v.op i] := by
      generalize v.op i = y at this
      cases y <;> simp [Value.oneCell'] at this <;> rfl
    rw [hc]; simp [V.cells, denL, den]
  all_goals
    simp only [V.cells, denL]
    rw [h]
    simp only [den] at h
    first
      | (injection h with h; subst h; rfl)
      | (split at h <;> first | (cases h; done) | (injection h with h; subst h; rfl))
      | (obtain ⟨n, -, -, -, rfl⟩ := linD_eq h; rfl)
theorem fillV_den (hg : GOk v G) {place : Nat → Option (Nat × Nat)} : ∀ {ps : List (Nat × V)} {cs out : List V} {qs : List (Nat × Value)} {ds : List Value}, denL v cs = some ds →
    ps.map Prod.fst = qs.map Prod.fst → denL v (ps.map Prod.snd) = some (qs.map Prod.snd) → fillV place cs ps = some out →
    ∃ es, denL v out = some es ∧ Instr.fill place ds.toArray qs = some es.toArray
  | [], cs, out, qs, ds, hd, hi, hp, h => by
    simp only [fillV] at h; injection h with h; subst h
    cases qs with
    | nil => exact ⟨ds, hd, rfl⟩
    | cons q qs => simp [denL] at hp
  | (i, x) :: ps, cs, out, qs, ds, hd, hi, hp, h => by
    cases qs with
    | nil => simp [denL] at hp; split at hp <;> simp at hp
    | cons q qs =>
      obtain ⟨j, y⟩ := q
      simp only [List.map_cons, List.cons.injEq] at hi
      have hij : i = j := hi.1
      subst hij
      obtain ⟨b, l, hb, hl, he⟩ := denL_cons hp
      simp only [List.map_cons, List.cons.injEq] at he
      obtain ⟨rfl, rfl⟩ := he
      simp only [fillV] at h
      cases hpl : place i with
      | none => rw [hpl] at h; cases h
      | some os =>
        obtain ⟨off, size⟩ := os
        rw [hpl] at h; simp only at h
        split at h
        · cases h
        · rename_i hcond
          have hc := cells_den hg hb
          have hsz : y.cells.size = x.cells.length := by rw [← Array.length_toList]; exact denL_length hc
          have hdl : ds.length = cs.length := denL_length hd
          have hd2 := setAll_den x.cells off hd hc
          obtain ⟨es, he1, he2⟩ := fillV_den hg (qs := qs) hd2 hi.2 hl h
          refine ⟨es, he1, ?_⟩
          simp only [Instr.fill, hpl, hsz, List.size_toArray, hdl]
          rw [if_neg hcond]
          rw [← he2]
          congr 1
          rw [← Array.foldl_toList, Array.toList_zipIdx]
theorem evp_sound (ht : TOk v t a) (hg : GOk v G) : ∀ {x : List (Nat × Operand)} {u : List (Nat × A)} {z : List (Nat × V)}, compParts G x = some u → evp t u = some z →
    denL v (z.map Prod.snd) = some ((x.map fun p => (p.1, a.eval p.2)).map Prod.snd) ∧ z.map Prod.fst = (x.map fun p => (p.1, a.eval p.2)).map Prod.fst
  | [], u, z, hc, hz => by
    simp only [compParts] at hc; injection hc with hc; subst hc; simp only [evp] at hz; injection hz with hz; subst hz; exact ⟨rfl, rfl⟩
  | (i, x) :: xs, u, z, hc, hz => by
    simp only [compParts] at hc
    cases h1 : compA G x with
    | none => rw [h1] at hc; cases hc
    | some p =>
      cases h2 : compParts G xs with
      | none => rw [h1, h2] at hc; cases hc
      | some l =>
        rw [h1, h2] at hc; injection hc with hc; subst hc
        simp only [evp] at hz
        cases h3 : p.ev t with
        | none => rw [h3] at hz; cases hz
        | some q =>
          cases h4 : evp t l with
          | none => rw [h3, h4] at hz; cases hz
          | some r =>
            rw [h3, h4] at hz; injection hz with hz; subst hz
            obtain ⟨k1, k2⟩ := evp_sound ht hg h2 h4
            refine ⟨?_, ?_⟩
            · simp only [List.map_cons]; exact denL_mk (A.sound ht hg h1 h3) k1
            · simp only [List.map_cons, k2]
theorem oev_sound (ht : TOk v t a) (hg : GOk v G) {x : Option Operand} {u : Option A} {z : Option V} (hc : compO G x = some u) (hz : oev t u = some z) :
    ODen v z (x.map a.eval) := by
  cases x with
  | none => simp only [compO] at hc; injection hc with hc; subst hc; simp only [oev] at hz; injection hz with hz; subst hz; trivial
  | some x =>
    simp only [compO] at hc
    cases h1 : compA G x with
    | none => rw [h1] at hc; cases hc
    | some p =>
      rw [h1] at hc; injection hc with hc; subst hc
      simp only [oev] at hz
      cases h3 : p.ev t with
      | none => rw [h3] at hz; cases hz
      | some q => rw [h3] at hz; injection hz with hz; subst hz; exact A.sound ht hg h1 h3
end
end Go.Proofs.YtaaofanhjolikaaGreatDoor.Sx
