/- A machine of names: regions that leave their order open, by a plan. Over any program. -/
import Derived.Test.YtaaofanhjolikaaGreatDoorSxOp
set_option linter.unusedVariables false
set_option linter.unusedSimpArgs false
namespace Go.Proofs.YtaaofanhjolikaaGreatDoor.Sx
open Go

def ofL {α : Type} : List α → Nat → T α → T α
  | [], _, t => t
  | x :: r, j, t => ofL r (j + 1) (t.set j x)
theorem ofL_get {α : Type} : ∀ {l : List α} {s : Nat} {t : T α} {j : Nat}, (ofL l s t).get j = if s ≤ j ∧ j < s + l.length then l[j - s]? else t.get j
  | [], s, t, j => by simp only [ofL]; rw [if_neg (by simp only [List.length_nil]; omega)]
  | o :: r, s, t, j => by
    simp only [ofL, List.length_cons]
    rw [ofL_get]
    by_cases h : s + 1 ≤ j ∧ j < s + 1 + r.length
    · rw [if_pos h, if_pos (by omega), show j - s = (j - (s + 1)) + 1 by omega]; simp
    · rw [if_neg h, T.get_set]
      by_cases hj : j = s
      · subst hj; rw [if_pos rfl, if_pos (by omega), Nat.sub_self]; rfl
      · rw [if_neg hj, if_neg (by omega)]
theorem ofL_some {α : Type} {l : List α} {j : Nat} {x : α} (h : (ofL l 0 .lf).get j = some x) : l[j]? = some x := by
  rw [ofL_get] at h
  by_cases hj : 0 ≤ j ∧ j < 0 + l.length
  · rw [if_pos hj, Nat.sub_zero] at h; exact h
  · rw [if_neg hj] at h; cases h

inductive Pl where
  | nil
  | tk (qs : List Nat) (r : Pl)
  | one (i : Nat) (r : Pl)
  | late (j i : Nat) (qs : List Nat) (r : Pl)
def Pl.len : Pl → Nat
  | .nil => 0
  | .tk qs r => qs.length + r.len
  | .one _ r => r.len + 1
  | .late _ _ qs r => qs.length + r.len + 2

/-! what is looked at, what is written, as masks -/
def bitsM : List Nat → Nat
  | [] => 0
  | i :: r => Nat.lor (2 ^ i) (bitsM r)
theorem bitsM_bit {k : Nat} : ∀ {l : List Nat}, (bitsM l).testBit k = true ↔ k ∈ l
  | [] => by simp [bitsM]
  | i :: r => by
    show (2 ^ i ||| bitsM r).testBit k = true ↔ _
    rw [Nat.testBit_or, Bool.or_eq_true, bitsM_bit, Nat.testBit_two_pow, List.mem_cons]
    constructor
    · rintro (h | h)
      · exact .inl (of_decide_eq_true h).symm
      · exact .inr h
    · rintro (h | h)
      · exact .inl (by simp [h])
      · exact .inr h
def lookM (ops : Array Oper) (o : Oper) : Nat × Nat := (bitsM (o.looksAt ops), match o.dst with | some d => 2 ^ d | none => 0)
def apartM (x y : Nat × Nat) : Bool := Nat.beq (Nat.land x.2 (Nat.lor y.1 y.2)) 0 && Nat.beq (Nat.land y.2 x.1) 0
theorem land_zero {a b k : Nat} (h : Nat.land a b = 0) (ha : a.testBit k = true) : b.testBit k = false := by
  have : (a &&& b).testBit k = false := by rw [show a &&& b = 0 from h]; simp
  rw [Nat.testBit_and, ha] at this
  simpa using this
theorem apartM_sound {ops : Array Oper} {x y : Oper} (h : apartM (lookM ops x) (lookM ops y) = true) : x.apart ops y = true := by
  unfold apartM at h
  rw [Bool.and_eq_true] at h
  have h1 := nb h.1
  have h2 := nb h.2
  unfold Oper.apart
  rw [Bool.and_eq_true]
  constructor
  · cases hd : x.dst with
    | none => rfl
    | some d =>
      have hx : (lookM ops x).2 = 2 ^ d := by simp [lookM, hd]
      have hb := land_zero (k := d) h1 (by rw [hx]; simp)
      have hb : ((lookM ops y).1 ||| (lookM ops y).2).testBit d = false := hb
      rw [Nat.testBit_or, Bool.or_eq_false_iff] at hb
      have n1 : d ∉ y.looksAt ops := fun hm => by
        have := (bitsM_bit (l := y.looksAt ops)).2 hm
        rw [show bitsM (y.looksAt ops) = (lookM ops y).1 from rfl] at this
        rw [this] at hb; cases hb.1
      have n2 : y.dst ≠ some d := fun he => by
        have : (lookM ops y).2 = 2 ^ d := by simp [lookM, he]
        rw [this] at hb; simp at hb
      simp [n1, n2]
  · cases hd : y.dst with
    | none => rfl
    | some d =>
      have hy : (lookM ops y).2 = 2 ^ d := by simp [lookM, hd]
      have hb := land_zero (k := d) h2 (by rw [hy]; simp)
      have n1 : d ∉ x.looksAt ops := fun hm => by
        have := (bitsM_bit (l := x.looksAt ops)).2 hm
        rw [show bitsM (x.looksAt ops) = (lookM ops x).1 from rfl] at this
        rw [this] at hb; cases hb
      simp [n1]
def apts (A : T Nat) (M : T (Nat × Nat)) (n i : Nat) : Nat → Nat → Bool
  | 0, _ => true
  | k + 1, j => (Nat.beq j i || ancB A n j i || ancB A n i j || (match M.get i, M.get j with | some x, some y => apartM x y | _, _ => false)) && apts A M n i k (j + 1)
def aptB (A : T Nat) (M : T (Nat × Nat)) (n i : Nat) : Bool := apts A M n i n 0
theorem apts_at {A : T Nat} {M : T (Nat × Nat)} {n i : Nat} : ∀ {k j q : Nat}, apts A M n i k j = true → j ≤ q → q < j + k → (Nat.beq q i || ancB A n q i || ancB A n i q || (match M.get i, M.get q with | some x, some y => apartM x y | _, _ => false)) = true
  | 0, j, q, _, h1, h2 => by omega
  | k + 1, j, q, h, h1, h2 => by
    simp only [apts, Bool.and_eq_true] at h
    by_cases hq : q = j
    · subst hq; exact h.1
    · exact apts_at h.2 (by omega) (by omega)

def fitT (D A : T Nat) (M : T (Nat × Nat)) (n : Nat) : List Nat → Nat → Option Nat
  | [], L => some L
  | i :: r, L => bif rdyB D L i && Nat.ble (i + 1) n && aptB A M n i then fitT D A M n r (Nat.lor L (2 ^ i)) else none
def eqL : List Nat → List Nat → Bool
  | [], [] => true
  | x :: xs, y :: ys => Nat.beq x y && eqL xs ys
  | _, _ => false
theorem eqL_eq : ∀ {a b : List Nat}, eqL a b = true → a = b
  | [], [], _ => rfl
  | [], _ :: _, h => by simp [eqL] at h
  | _ :: _, [], h => by simp [eqL] at h
  | x :: xs, y :: ys, h => by
    simp only [eqL, Bool.and_eq_true] at h
    rw [nb h.1, eqL_eq h.2]
/-- the operation that is taken late is apart from those that come ahead -/
def farB (M : T (Nat × Nat)) (i : Nat) : List Nat → Bool
  | [] => true
  | j :: r => (match M.get i, M.get j with | some x, some y => apartM x y | _, _ => false) && farB M i r
def fits (D A : T Nat) (M : T (Nat × Nat)) (n : Nat) : Pl → Nat → Bool
  | .nil, L => eqL (rdys D L n 0) []
  | .tk qs r, L => match fitT D A M n qs L with
    | some L' => fits D A M n r L'
    | none => false
  | .one i r, L => eqL (rdys D L n 0) [i] && Nat.ble (i + 1) n && fits D A M n r (Nat.lor L (2 ^ i))
  | .late j i qs r, L => (eqL (rdys D L n 0) [i, j] || eqL (rdys D L n 0) [j, i]) && Nat.ble (i + 1) n && Nat.ble (j + 1) n && !Nat.beq i j && farB M i (j :: qs) && eqL (rdys D (Nat.lor L (2 ^ i)) n 0) [j] &&
      (match fitT D A M n qs (Nat.lor (Nat.lor L (2 ^ i)) (2 ^ j)), fitT D A M n qs (Nat.lor L (2 ^ j)) with
       | some L1, some L2 => eqL (rdys D L2 n 0) [i] && Nat.beq L1 (Nat.lor L2 (2 ^ i)) && fits D A M n r L1
       | _, _ => false)

structure Hd where
  i : Nat
  r : R
  t : T V
  x : V
def evQ (me : Nat) (o : CO) (s : St) : Option V :=
  match evGd s.t o.gd with
  | none => none
  | some false => some undefV
  | some true => match o.c with
    | .q q => exq me q s.t
    | .r r => exr r s.t s.h
    | _ => none
def heldOf (i : Nat) (o : CO) (s : St) (x : V) (hd : List Hd) : List Hd :=
  match evGd s.t o.gd, o.c with
  | some true, .r r => ⟨i, r, s.t, x⟩ :: hd
  | _, _ => hd
def chk (A : T Nat) (n j : Nat) (h : Heap) (hd : List Hd) : Bool :=
  hd.all fun e => ancB A n j e.i || match exr e.r e.t h with
    | some x => V.beq e.x x
    | none => false
def evT (cos : T CO) (base : Nat) : List Nat → St → List Hd → Option (St × List Hd)
  | [], s, hd => some (s, hd)
  | i :: r, s, hd => match cos.get i with
    | none => none
    | some o => match evQ (base + i) o s with
      | some x => evT cos base r { s with t := putT s.t o.dst x } (heldOf i o s x hd)
      | none => none
/-- an operation that lays a new block, whatever the memory -/
def newOf (me : Nat) (o : CO) : Option (Nat × V × Blk) :=
  match o.gd, o.dst, o.c with
  | none, some d, .e (.alloc z) => some (d, .ptr me 0, .cells z none)
  | none, some d, .e .mkMap => some (d, .map me, .mp [] 0)
  | _, _, _ => none
def evP (cl : Cl) (A : T Nat) (n : Nat) (cos : T CO) (base : Nat) : Pl → St → List Hd → Option St
  | .nil, s, _ => some s
  | .tk qs r, s, hd => match evT cos base qs s hd with
    | some (s', hd') => evP cl A n cos base r s' hd'
    | none => none
  | .one i r, s, hd => match cos.get i with
    | none => none
    | some o => match evOp cl (base + i) o s with
      | none => none
      | some s' => bif chk A n i s'.h hd then evP cl A n cos base r s' hd else none
  | .late j i qs r, s, hd => match cos.get j, cos.get i with
    | some oj, some oi => match newOf (base + i) oi with
      | none => none
      | some (d, x, B) => bif chk A n i s.h hd then
        match evOp cl (base + j) oj { s with t := s.t.del d } with
        | none => none
        | some s1 => bif chk A n j s1.h hd then
          match evT cos base qs s1 hd with
          | none => none
          | some (s2, hd2) => bif chk A n i (s2.h.set (base + i) B) hd2 then evP cl A n cos base r ⟨s2.t.set d x, s2.h.set (base + i) B, s2.nx⟩ hd2 else none
          else none
        else none
    | _, _ => none

section
variable {P : Program} {G N : Nat} {ops : Array Oper} {cos : T CO} {A : T Nat} {base : Nat}

theorem conc_le {v v' : Val} {h : Heap} {w : World} (hh : Conc v h w) (hle : v.le v') : Conc v' h w := by
  refine ⟨fun n B hB => ?_, fun n m B C hB hC heq => ?_⟩
  · obtain ⟨b, hb, ho⟩ := hh.ok n B hB
    exact ⟨b, (hle.blk n b hb).1, ho.le hle hb⟩
  · obtain ⟨b, hb, _⟩ := hh.ok n B hB
    obtain ⟨c, hc, _⟩ := hh.ok m C hC
    rw [(hle.blk n b hb).1, (hle.blk m c hc).1] at heq
    exact hh.inj n m B C hB hC (by rw [hb, hc]; exact heq)
theorem ext_le {v v' : Val} {h : Heap} {w : World} (hh : Conc v h w) (hle : v.le v') : Ext v h w v' h w :=
  ⟨hle, rfl, rfl, rfl, Nat.le_refl _, fun _ _ _ => rfl, fun n B b hB hb => by
    obtain ⟨c, hc, _⟩ := hh.ok n B hB
    rw [(hle.blk n c hc).1] at hb; injection hb with hb; subst hb
    exact .inr ⟨n, B, hB, hc⟩⟩

/-- what is held, and why -/
def HOk (P : Program) (G : Nat) (v : Val) (held : List Hd) (H : List (Nat × (World → Prop))) : Prop :=
  ∀ p ∈ H, (∀ W, p.2 W) ∨ ∃ e ∈ held, e.i = p.1 ∧ ∃ o a y, compR P G o = some e.r ∧ TOk v e.t a ∧ den v e.x = some y ∧ p.2 = fun W => (execOp a.eval o).run P W = .ok (.value y) W
theorem HOk.le {v v' : Val} {held : List Hd} {H : List (Nat × (World → Prop))} (h : HOk P G v held H) (hle : v.le v') : HOk P G v' held H := fun p hp => by
  rcases h p hp with h | ⟨e, he, hi, o, a, y, h1, h2, h3, h4⟩
  · exact .inl h
  · exact .inr ⟨e, he, hi, o, a, y, h1, h2.le hle, den_le hle _ _ h3, h4⟩
theorem pres_of_chk {n j : Nat} {v : Val} {held : List Hd} {H : List (Nat × (World → Prop))} {h : Heap} {w w' : World} (hh : HOk P G v held H) (hg : GOk v G) (hc : Conc v h w') (hk : chk A n j h held = true) : Pres (ancB A n) H j w w' := by
  intro p hp hanc hS
  rcases hh p hp with h1 | ⟨e, he, hi, o, a, y, h1, h2, h3, h4⟩
  · exact h1 w'
  · have := List.all_eq_true.1 hk e he
    rw [hi, hanc, Bool.false_or] at this
    cases hx : exr e.r e.t h with
    | none => rw [hx] at this; cases this
    | some x =>
      rw [hx] at this
      have hxe := V.beq_eq this
      subst hxe
      obtain ⟨y', hy', hrun⟩ := exr_sound (P := P) h2 hg h1 hx hc
      rw [h3] at hy'; injection hy' with hy'; subst hy'
      rw [h4]; exact hrun

theorem evQ_sound {o : Oper} {co : CO} {me : Nat} {s : St} {v : Val} {a : Act} {w : World} {x : V} (hc : compCO P G N ops o = some co) (hx : evQ me co s = some x) (hg : Gam G N v s a w) (hme : v.blk me = none) :
    ∃ v' y, ∃ S : World → Prop, v.le v' ∧ (∀ n, n ≠ me → v'.blk n = v.blk n) ∧ den v' x = some y ∧ YieldsIf P ops S o y a ∧ S w ∧
      ((∀ W, S W) ∨ ∃ r, co.c = .r r ∧ evGd s.t co.gd = some true ∧ compR P G o = some r ∧ S = fun W => (execOp a.eval o).run P W = .ok (.value y) W) := by
  obtain ⟨hcc, hcg, hd, hdst⟩ := compCO_inv hc
  clear hc
  obtain ⟨c0, d0, g0⟩ := co
  simp only at hcc hcg hdst
  subst hdst
  unfold evQ at hx
  simp only at hx
  cases hgd : evGd s.t g0 with
  | none => rw [hgd] at hx; cases hx
  | some b =>
    rw [hgd] at hx
    have hw := gd_sound hg.t hcg hgd
    cases b with
    | false =>
      simp only at hx; injection hx with hx; subst hx
      exact ⟨v, undef, fun _ => True, .refl v, fun _ _ => rfl, rfl, .inr ⟨hw, rfl⟩, trivial, .inl fun _ => trivial⟩
    | true =>
      simp only at hx
      have hinv := compC_inv hcc
      cases c0 with
      | q q =>
        simp only at hx hinv
        obtain ⟨v', y, hnm, hy, hrun⟩ := exq_sound (P := P) hg.t hg.g hme hinv hx
        exact ⟨v', y, fun _ => True, hnm.le hme, fun n hn => hnm.other hn, hy, .inl ⟨hw, fun W _ => hrun W⟩, trivial, .inl fun _ => trivial⟩
      | r r =>
        simp only at hx hinv
        obtain ⟨y, hy, hrun⟩ := exr_sound (P := P) hg.t hg.g hinv hx hg.h
        exact ⟨v, y, fun W => (execOp a.eval o).run P W = .ok (.value y) W, .refl v, fun _ _ => rfl, hy, .inl ⟨hw, fun W hW => hW⟩, hrun, .inr ⟨r, rfl, rfl, hinv, rfl⟩⟩
      | e e => cases hx
      | call f as => cases hx
      | callv x as => cases hx
      | no => cases hx

/-- names that are still free -/
def FrU (v : Val) (base n L : Nat) : Prop := ∀ i, i < n → L.testBit i = false → v.blk (base + i) = none
theorem FrU.step {v v' : Val} {n L i : Nat} (h : FrU v base n L) (hk : ∀ m, m ≠ base + i → m < base + n → v'.blk m = v.blk m) : FrU v' base n (Nat.lor L (2 ^ i)) := by
  intro j hj hb
  have hb : (L ||| 2 ^ i).testBit j = false := hb
  rw [Nat.testBit_or, Bool.or_eq_false_iff, Nat.testBit_two_pow] at hb
  have hne : i ≠ j := by simpa using hb.2
  rw [hk _ (by omega) (by omega)]
  exact h j hj hb.1

theorem takes_sound {n fuel : Nat} {M : T (Nat × Nat)} (hcos : ∀ i co, cos.get i = some co → ∃ o, ops[i]? = some o ∧ compCO P G N ops o = some co) (hn : ops.size = n) (hM : ∀ i x, M.get i = some x → ∃ o, ops[i]? = some o ∧ x = lookM ops o) (hsel : ∀ (j : Nat) (o : Oper) cs b, ops[j]? = some o → o.op ≠ .select cs b)
    (hanc : AncOk ops (ancB A n)) {Q : Exit → Act → World → Prop} {w : World} : ∀ (qs : List Nat) (L L2 : Nat) (listed : Array Bool) (s s2 : St) (held held2 : List Hd) (v : Val) (a : Act) (H : List (Nat × (World → Prop))),
      Msk L listed n → Closed ops listed → fitT (dmasks ops.toList 0 .lf) A M n qs L = some L2 → evT cos base qs s held = some (s2, held2) → Gam G N v s a w → HOk P G v held H → FrU v base n L → base + n ≤ s.nx →
      (∀ listed2 v' a' H', Msk L2 listed2 n → Closed ops listed2 → Gam G N v' s2 a' w → v.le v' → (∀ m, base + n ≤ m ∨ m < base → v'.blk m = v.blk m) → (∀ i, i < n → i ∉ qs → v'.blk (base + i) = v.blk (base + i)) → FrU v' base n L2 → HOk P G v' held2 H' → s2.h = s.h → s2.nx = s.nx →
        (∀ t, (∀ q ∈ qs, ∀ o, ops[q]? = some o → o.dst ≠ some t) → a'.tmps[t]? = a.tmps[t]?) → Safe P ops (NoPanic Q) (ancB A n) H' fuel listed2 a' w) →
      Safe P ops (NoPanic Q) (ancB A n) H (qs.length + fuel) listed a w
  | [], L, L2, listed, s, s2, held, held2, v, a, H, hm, hc, hf, he, hg, hH, hfr, hb, hK => by
    simp only [fitT] at hf; injection hf with hf; subst hf
    simp only [evT] at he; injection he with he; injection he with he1 he2; subst he1; subst he2
    rw [List.length_nil, Nat.zero_add]
    exact hK listed v a H hm hc hg (.refl v) (fun _ _ => rfl) (fun _ _ _ => rfl) hfr hH rfl rfl (fun _ _ => rfl)
  | i :: qs, L, L2, listed, s, s2, held, held2, v, a, H, hm, hc, hf, he, hg, hH, hfr, hb, hK => by
    simp only [fitT] at hf
    cases hcond : (rdyB (dmasks ops.toList 0 .lf) L i && Nat.ble (i + 1) n && aptB A M n i) with
    | false => rw [hcond] at hf; cases hf
    | true =>
      rw [hcond] at hf; simp only [cond_true] at hf
      simp only [Bool.and_eq_true] at hcond
      obtain ⟨⟨g1, g2⟩, g3⟩ := hcond
      have g2 := Nat.le_of_ble_eq_true g2
      simp only [evT] at he
      cases hco : cos.get i with
      | none => rw [hco] at he; cases he
      | some co =>
        rw [hco] at he; simp only at he
        obtain ⟨o, ho, hcc⟩ := hcos i co hco
        cases hx : evQ (base + i) co s with
        | none => rw [hx] at he; cases he
        | some x =>
          rw [hx] at he; simp only at he
          have hun : L.testBit i = false := by
            unfold rdyB at g1; simp only [Bool.and_eq_true, Bool.not_eq_true'] at g1; exact g1.1
          have hme : v.blk (base + i) = none := hfr i g2 hun
          obtain ⟨v', y, S, hle, hk, hy, hyi, hS, hwhy⟩ := evQ_sound (P := P) hcc hx hg hme
          obtain ⟨_, _, hd, hdst⟩ := compCO_inv hcc
          have hrdy : i ∈ Region.ready .any ops listed := by
            subst hn
            exact (rdyB_iff hm g2).1 g1
          have hg' : Gam G N v' { s with t := putT s.t co.dst x } (a.put o.dst y) w :=
            ⟨by rw [hdst]; exact (hg.t.le hle).putT hg.n hd hy, conc_le hg.h hle, hg.g.le hle, by rw [put_defers]; exact hg.d, by rw [put_size]; exact hg.n, fun m hm' => by
              have hge : s.nx ≤ m := hm'
              rw [hk m (by omega)]; exact hg.f m hge⟩
          have hfr' : FrU v' base n (Nat.lor L (2 ^ i)) := hfr.step fun m hm1 _ => hk m hm1
          have hap : ∀ j oj, ops[j]? = some oj → j ≠ i → ancB A n j i = false → ancB A n i j = false → o.apart ops oj = true := by
            intro j oj hoj hji h1 h2
            have hjn : j < n := by rw [← hn]; exact (Array.getElem?_eq_some_iff.1 hoj).1
            have := apts_at (q := j) g3 (Nat.zero_le _) (by omega)
            rw [h1, h2] at this
            have hbq : Nat.beq j i = false := by
              cases hq : Nat.beq j i with
              | false => rfl
              | true => exact absurd (nb hq) hji
            rw [hbq] at this
            simp only [Bool.false_or] at this
            split at this
            · rename_i x1 x2 e1 e2
              obtain ⟨o1, ho1, rfl⟩ := hM i _ e1
              obtain ⟨o2, ho2, rfl⟩ := hM j _ e2
              rw [ho] at ho1; injection ho1 with ho1; subst ho1
              rw [hoj] at ho2; injection ho2 with ho2; subst ho2
              exact apartM_sound this
            · cases this
          have hH' : HOk P G v' (heldOf i co s x held) ((i, S) :: H) := by
            intro p hp
            rcases List.mem_cons.1 hp with rfl | hp
            · rcases hwhy with h | ⟨r, hr1, hr2, hr3, hr4⟩
              · exact .inl h
              · refine .inr ⟨⟨i, r, s.t, x⟩, ?_, rfl, o, a, y, hr3, hg.t.le hle, hy, hr4⟩
                unfold heldOf; rw [hr2, hr1]; exact List.mem_cons_self ..
            · rcases (hH.le hle) p hp with h | ⟨e, he, hrest⟩
              · exact .inl h
              · refine .inr ⟨e, ?_, hrest⟩
                unfold heldOf
                split
                · exact List.mem_cons_of_mem _ he
                · exact he
          have hrec := takes_sound (fuel := fuel) (Q := Q) hcos hn hM hsel hanc qs (Nat.lor L (2 ^ i)) L2 (listed.setIfInBounds i true) { s with t := putT s.t co.dst x } s2 (heldOf i co s x held) held2 v' (a.put o.dst y) ((i, S) :: H)
            (hm.set g2) (hc.set hrdy) hf he hg' hH' hfr' hb (fun listed2 v2 a2 H2 q1 q2 q3 q4 q5 q6 q7 q8 q9 q10 q11 => hK listed2 v2 a2 H2 q1 q2 q3 (hle.trans q4) (fun m hm' => by rw [q5 m hm', hk m (by omega)])
              (fun j hj hnot => by
                have hji : j ≠ i := fun e => hnot (e ▸ List.mem_cons_self ..)
                rw [q6 j hj (fun h => hnot (List.mem_cons_of_mem _ h)), hk _ (by omega)])
              q7 q8 q9 q10 (fun t ht => by rw [q11 t (fun q hq => ht q (List.mem_cons_of_mem _ hq)), put_other (ht i (List.mem_cons_self ..) o ho)]))
          rw [show (i :: qs).length + fuel = (qs.length + fuel) + 1 by simp; omega]
          exact safe_take hanc ho hsel hap _ listed a w hc hrdy hyi hS hrec

theorem compE_new {o : Oper} {e : E} (h : compE P G o = some e) : match e with
    | .alloc z => ∃ t z0, o.op = .alloc t ∧ zero? P t = some z0 ∧ z = z0.cells
    | .mkMap => ∃ t, o.op = .makeMap t none
    | _ => True := by
  cases e <;> try trivial
  all_goals
    unfold compE at h
    split at h
  all_goals try (obtain ⟨z0, hz0, hze⟩ := opt_map h; first | (cases hze; done) | (injection hze with hze; exact ⟨_, z0, by assumption, hz0, hze.symm⟩))
  all_goals try (simp only [cond_eq_ite] at h)
  all_goals try (cases h; done)
  all_goals try (exact ⟨_, by assumption⟩)
  all_goals (split at h)
  all_goals try (cases h; done)
  all_goals try (obtain ⟨z0, hz0, hze⟩ := opt_map h; cases hze; done)
  all_goals (split at h)
  all_goals try (cases h; done)
  all_goals try (obtain ⟨z0, hz0, hze⟩ := opt_map h; cases hze; done)
  all_goals (split at h)
  all_goals try (cases h; done)
  all_goals try (obtain ⟨z0, hz0, hze⟩ := opt_map h; cases hze; done)
  all_goals (split at h)
  all_goals try (cases h; done)
  all_goals try (obtain ⟨z0, hz0, hze⟩ := opt_map h; cases hze; done)
  all_goals (split at h)
  all_goals (cases h; done)

/-- an operation that lays a new block -/
theorem newOf_sound {o : Oper} {co : CO} {me d : Nat} {x : V} {B : Blk} {v : Val} {a : Act} (hc : compCO P G N ops o = some co) (hx : newOf me co = some (d, x, B)) (hg : GOk v G) :
    o.dst = some d ∧ d < N ∧ Region.wanted o (yielded ops a.tmps) = true ∧ ∃ (y : Nat → Value) (ob : Obj), (∀ w, (execOp a.eval o).run P w = .ok (.value (y w.heap.size)) (w.alloc ob)) ∧
      (∀ v' : Val, ∀ b, v'.blk me = some b → v'.bas me = 0 → den v' x = some (y b)) ∧ (∀ v' : Val, v.le v' → v'.bas me = 0 → BlkOk v' me (some ob) B) := by
  obtain ⟨hcc, hcg, hd, hdst⟩ := compCO_inv hc
  clear hc
  obtain ⟨c0, d0, g0⟩ := co
  simp only at hcc hcg hdst
  subst hdst
  have hgn : g0 = none → o.guard = none := fun e => by
    subst e
    cases hgd : o.guard with
    | none => rfl
    | some p =>
      rw [hgd] at hcg
      obtain ⟨j, b⟩ := p
      simp only [compGd] at hcg
      split at hcg <;> simp at hcg
  have hinv := compC_inv hcc
  have hwant : o.guard = none → Region.wanted o (yielded ops a.tmps) = true := fun e => by unfold Region.wanted; rw [e]
  cases hdd : o.dst with
  | none =>
    unfold newOf at hx
    simp only [hdd] at hx
    cases g0 <;> simp at hx
  | some dd =>
    rw [hdd] at hd
    have hdN : dd < N := Nat.le_of_ble_eq_true hd
    unfold newOf at hx
    simp only [hdd] at hx
    cases g0 with
    | some _ => simp at hx
    | none =>
      cases c0 with
      | e e =>
        cases e with
        | alloc z =>
          simp only at hx
          injection hx with hx; injection hx with hx1 hx; injection hx with hx2 hx3; subst hx1; subst hx2; subst hx3
          obtain ⟨t', z0, hop, hz0, rfl⟩ := compE_new hinv
          obtain ⟨yz, hyz, hyc, hzr⟩ := zero_cells (P := P) hg hz0
          refine ⟨rfl, hdN, hwant (hgn rfl), fun n => .pointer (some ⟨n, 0, none⟩), .cells yz.cells t', fun w => ?_, fun v' b hb hbas => by simp only [den, hb, hbas], fun v' hle hbas => ⟨[], yz.cells.toList, [], t', 0, 0, by simp, denL_le hle _ _ hyc, by rw [hbas]; rfl, ⟨Nat.le_refl 0, fun k _ => by omega⟩, (fun sz hs => by cases hs), fun _ => hbas⟩⟩
          simp only [execOp, hop, Instr.alloc, Sem.run_bind, hzr, Result.andThen_ok, newVar, run_newRow, Sem.run_pure]
        | mkMap =>
          simp only at hx
          injection hx with hx; injection hx with hx1 hx; injection hx with hx2 hx3; subst hx1; subst hx2; subst hx3
          obtain ⟨t', hop⟩ := compE_new hinv
          refine ⟨rfl, hdN, hwant (hgn rfl), fun n => .map (some n), .map #[] 0, fun w => ?_, fun v' b hb hbas => by simp only [den, hb], fun v' hle hbas => ⟨[], rfl, rfl⟩⟩
          simp only [execOp, hop, Instr.makeMap, Option.map_none, Sem.run_bind, run_newObj_alloc, Result.andThen_ok, Sem.run_pure]
        | _ => simp at hx
      | _ => simp at hx
end
end Go.Proofs.YtaaofanhjolikaaGreatDoor.Sx
