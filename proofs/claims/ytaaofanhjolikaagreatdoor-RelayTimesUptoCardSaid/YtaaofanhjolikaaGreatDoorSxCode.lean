/- A machine of names: code and calls. Over any program. -/
import Derived.Test.YtaaofanhjolikaaGreatDoorSxPlan2
import Derived.LoopN
import Derived.Scope
set_option linter.unusedVariables false
set_option linter.unusedSimpArgs false
namespace Go.Proofs.YtaaofanhjolikaaGreatDoor.Sx
open Go

inductive CC where
  | skip
  | seq (a b : CC)
  | cond (c : A) (a b : CC)
  | block (id : Nat) (b : CC)
  | loop (b : CC)
  | exit (id : Nat)
  | ret
  | reg (l : List CO)
  | drw (cos : T CO) (A : T Nat) (n : Nat) (p : Pl)
  | no

def compCOs (P : Program) (G N : Nat) (ops : Array Oper) : List Oper → Option (List CO)
  | [] => some []
  | o :: r => match compCO P G N ops o, compCOs P G N ops r with
    | some c, some l => some (c :: l)
    | _, _ => none

/-! a plan -/
def quietC (o : CO) : Bool := match o.c with | .q _ => true | .r _ => true | _ => false
def newC (o : Option CO) : Bool := match o with
  | some o => match o.gd, o.dst, o.c with
    | none, some _, .e (.alloc _) => true
    | none, some _, .e .mkMap => true
    | _, _, _ => false
  | none => false
def quiets (cos : T CO) : List Nat → List Nat
  | [] => []
  | i :: r => bif (match cos.get i with | some o => quietC o | none => false) then i :: quiets cos r else quiets cos r
def mTakes (cos : T CO) (D : T Nat) (n : Nat) : Nat → Nat → List Nat × Nat
  | 0, L => ([], L)
  | f + 1, L => match quiets cos (rdys D L n 0) with
    | [] => ([], L)
    | i :: r => match mTakes cos D n f (Nat.lor L (bitsM (i :: r))) with
      | (qs, L') => (i :: r ++ qs, L')
def plan (cos : T CO) (D : T Nat) (n : Nat) : Nat → Nat → Pl
  | 0, _ => .nil
  | f + 1, L => match mTakes cos D n n L with
    | (i :: qs, L') => .tk (i :: qs) (plan cos D n f L')
    | ([], _) => match rdys D L n 0 with
      | [i] => .one i (plan cos D n f (Nat.lor L (2 ^ i)))
      | [a, b] => match (bif newC (cos.get b) then (a, b) else (b, a)) with
        | (j, i) => match mTakes cos D n n (Nat.lor L (2 ^ j)) with
          | (qs, L') => .late j i qs (plan cos D n f (Nat.lor L' (2 ^ i)))
      | _ => .nil

def compDrw (P : Program) (G N : Nat) (ops : Array Oper) : Option CC :=
  match compCOs P G N ops ops.toList with
  | none => none
  | some l =>
    let cos := ofL l 0 .lf
    let D := dmasks ops.toList 0 .lf
    let A := amasks ops.toList 0 .lf
    let M := ofL (ops.toList.map (lookM ops)) 0 .lf
    let p := plan cos D ops.size (ops.size + ops.size) 0
    bif ancOk A ops.toList 0 && Region.noSelect ops && Nat.beq p.len ops.size && fits D A M ops.size p 0 then some (.drw cos A ops.size p) else none

def compCode (P : Program) (G N : Nat) : Code → Option CC
  | .skip => some .skip
  | .region _ ops false => (compCOs P G N ops ops.toList).map .reg
  | .region _ ops true => compDrw P G N ops
  | .seq a b => match compCode P G N a, compCode P G N b with
    | some a, some b => some (.seq a b)
    | _, _ => none
  | .cond c a b => match compA G c, compCode P G N a, compCode P G N b with
    | some c, some a, some b => some (.cond c a b)
    | _, _, _ => none
  | .block id b => (compCode P G N b).map (.block id)
  | .loop b => (compCode P G N b).map .loop
  | .exit id => some (.exit id)
  | .ret => some .ret
  | .scope b => compCode P G N b
  | .label _ => some .skip
  | _ => some .no

inductive X where
  | norm
  | exit (id : Nat)
  | ret
def X.to : X → Exit
  | .norm => .normal
  | .exit id => .exit id
  | .ret => .ret

def evS (cl : Cl) (base : Nat) : List CO → Nat → St → Option St
  | [], _, s => some s
  | o :: r, i, s => match evOp cl (base + i) o s with
    | some s' => evS cl base r (i + 1) s'
    | none => none
def evL (f : St → Option (X × St)) : Nat → St → Option (X × St)
  | 0, _ => none
  | n + 1, s => match f s with
    | some (.norm, s') => evL f n s'
    | some (x, s') => some (x, s')
    | none => none
def evC (cl : Cl) (lf : Nat) : CC → St → Option (X × St)
  | .skip, s => some (.norm, s)
  | .seq a b, s => match evC cl lf a s with
    | some (.norm, s') => evC cl lf b s'
    | some (x, s') => some (x, s')
    | none => none
  | .cond c a b, s => match c.ev s.t with
    | some (.bool true) => evC cl lf a s
    | some (.bool false) => evC cl lf b s
    | _ => none
  | .block id b, s => match evC cl lf b s with
    | some (.exit k, s') => bif Nat.beq k id then some (.norm, s') else some (.exit k, s')
    | some (x, s') => some (x, s')
    | none => none
  | .loop b, s => evL (fun s => evC cl lf b s) lf s
  | .exit id, s => some (.exit id, s)
  | .ret, s => some (.ret, s)
  | .reg l, s => match evS cl s.nx l 0 { s with nx := s.nx + l.length } with
    | some s' => some (.norm, s')
    | none => none
  | .drw cos A n p, s => match evP cl A n cos s.nx p { s with nx := s.nx + n } [] with
    | some s' => some (.norm, s')
    | none => none
  | .no, s => none

inductive RV where
  | t (i : Nat)
  | c (i : Nat) (agg : Bool) (sz : Nat)
structure CF where
  cc : CC
  N : Nat
  res : List RV
def compRes (P : Program) : List ResultVar → Option (List RV)
  | [] => some []
  | .tmp t :: r => (compRes P r).map (.t t :: ·)
  | .cell a t :: r => match sizeOf? P t, isAggD (P.underlying t), compRes P r with
    | some n, some g, some l => some (.c a g n :: l)
    | _, _, _ => none
def evRes (s : St) : List RV → Option (List V)
  | [] => some []
  | .t i :: r => match s.t.get i, evRes s r with
    | some x, some l => some (x :: l)
    | _, _ => none
  | .c i g n :: r => match exr (.load g n (.t i)) s.t s.h, evRes s r with
    | some x, some l => some (x :: l)
    | _, _ => none
def packV : List V → V
  | [x] => x
  | l => .tup l
def evCall (tb : Nat → Option CF) (hk : Cl) (lf : Nat) : Nat → Cl
  | 0 => fun _ _ _ _ => none
  | n + 1 => fun f args h nx => match hk f args h nx with
    | some r => some r
    | none => match tb f with
      | none => none
      | some cf => bif Nat.ble args.length cf.N then
        match evC (evCall tb hk lf n) lf cf.cc ⟨ofL args 0 .lf, h, nx⟩ with
        | some (.exit _, _) => none
        | some (_, s) => match evRes s cf.res with
          | some vs => some (packV vs, s.h, s.nx)
          | none => none
        | none => none
        else none

/-- what is told of a function is so -/
def FnOk (P : Program) (G : Nat) (f : Nat) (cf : CF) : Prop :=
  ∃ fn b, P.funcs[f]? = some fn ∧ (fn.name == "runtime.NumGoroutine") = false ∧ fn.body = some b ∧ compCode P G fn.ntmps b = some cf.cc ∧ cf.N = fn.ntmps ∧ compRes P fn.results.toList = some cf.res
def compF (P : Program) (G : Nat) (fn : Func) : Option CF :=
  match fn.body with
  | none => none
  | some b => match compCode P G fn.ntmps b, compRes P fn.results.toList with
    | some c, some r => some ⟨c, fn.ntmps, r⟩
    | _, _ => none
theorem fnOk_of {P : Program} {G f : Nat} {fn : Func} {cf : CF} (hf : P.funcs[f]? = some fn) (hn : (fn.name == "runtime.NumGoroutine") = false) (hc : compF P G fn = some cf) : FnOk P G f cf := by
  unfold compF at hc
  split at hc <;> first | (cases hc; done) | skip
  rename_i b hb
  split at hc <;> first | (cases hc; done) | skip
  rename_i c r h1 h2
  injection hc with hc; subst hc
  exact ⟨fn, b, hf, hn, hb, h1, rfl, h2⟩

section
variable {P : Program} {G N : Nat}

theorem compCOs_at {ops : Array Oper} : ∀ {l : List Oper} {cs : List CO}, compCOs P G N ops l = some cs → cs.length = l.length ∧ ∀ (i : Nat) (c : CO), cs[i]? = some c → ∃ o, l[i]? = some o ∧ compCO P G N ops o = some c
  | [], cs, h => by simp only [compCOs] at h; injection h with h; subst h; exact ⟨rfl, fun i c h => by simp at h⟩
  | o :: r, cs, h => by
    simp only [compCOs] at h
    split at h <;> first | (cases h; done) | skip
    rename_i c l h1 h2
    injection h with h; subst h
    obtain ⟨q1, q2⟩ := compCOs_at h2
    refine ⟨by simp [q1], fun i c' hi => ?_⟩
    cases i with
    | zero => simp at hi; subst hi; exact ⟨o, rfl, h1⟩
    | succ i => simp at hi; obtain ⟨o', ho', hc'⟩ := q2 i c' hi; exact ⟨o', by simpa using ho', hc'⟩

theorem Gam.drew {v : Val} {s : St} {a : Act} {w : World} (h : Gam G N v s a w) : Gam G N v s a w.drew := ⟨h.t, h.h.drew, h.g, h.d, h.n, h.f⟩

theorem evS_sound {cl : Cl} (hcl : ClSound P G cl) {ops : Array Oper} {Q : Exit → Act → World → Prop} {base : Nat} : ∀ (cs : List CO) (i : Nat) (s s' : St) (v : Val) (a : Act) (w : World), i + cs.length = ops.size → (∀ (k : Nat) (c : CO), cs[k]? = some c → ∃ o, ops[i + k]? = some o ∧ compCO P G N ops o = some c) →
    evS cl base cs i s = some s' → Gam G N v s a w → (∀ k, i ≤ k → k < ops.size → v.blk (base + k) = none) → base + ops.size ≤ s.nx → (∀ v' a' w', Gam G N v' s' a' w' → Ext v s.h w v' s'.h w' → (∀ m, m < base → v'.blk m = v.blk m) → Q .normal a' w') → wpOps P ops Q (List.range' i cs.length) a w
  | [], i, s, s', v, a, w, hl, hcs, he, hg, hf, hb, hQ => by
    simp only [evS] at he; injection he with he; subst he
    exact hQ v a w hg Ext.refl (fun _ _ => rfl)
  | c :: cs, i, s, s', v, a, w, hl, hcs, he, hg, hf, hb, hQ => by
    simp only [evS] at he
    cases hev : evOp cl (base + i) c s with
    | none => rw [hev] at he; cases he
    | some s1 =>
      rw [hev] at he; simp only at he
      obtain ⟨o, ho, hcc⟩ := hcs 0 c rfl
      rw [Nat.add_zero] at ho
      simp only [List.length_cons] at hl
      have hme := hf i (Nat.le_refl _) (by omega)
      rw [List.length_cons, List.range'_succ, wpOps_cons]
      refine wpOp_of ho (evOp_sound hcl hcc hev hg hme (by omega) (fun a1 w1 haf => ?_)).2
      obtain ⟨v1, g1, g2, g3, g4⟩ := haf
      have hnx := evOp_nx hcl hev
      exact evS_sound hcl cs (i + 1) s1 s' v1 a1 w1 (by omega) (fun k c' hk => by
        obtain ⟨o', ho', hc'⟩ := hcs (k + 1) c' (by simpa using hk)
        exact ⟨o', by rw [show i + 1 + k = i + (k + 1) by omega]; exact ho', hc'⟩) he g1 (fun k hk1 hk2 => by rw [g3 _ (by omega) (by omega)]; exact hf k (by omega) hk2) (by omega) (fun v' a' w' k1 k2 k3 => hQ v' a' w' k1 (g2.trans k2) (fun m hm' => by rw [k3 m hm', g3 m (by omega) (by omega)]))
theorem evS_nx {cl : Cl} (hcl : ClSound P G cl) {base : Nat} : ∀ (cs : List CO) (i : Nat) (s s' : St), evS cl base cs i s = some s' → s.nx ≤ s'.nx
  | [], i, s, s', he => by simp only [evS] at he; injection he with he; subst he; exact Nat.le_refl _
  | c :: cs, i, s, s', he => by
    simp only [evS] at he
    split at he <;> first | (cases he; done) | skip
    rename_i s1 hev
    exact Nat.le_trans (evOp_nx hcl hev) (evS_nx hcl cs (i + 1) s1 s' he)

theorem noSel {ops : Array Oper} (h : Region.noSelect ops = true) (j : Nat) (o : Oper) (cs : Array SelectCase) (b : Bool) (ho : ops[j]? = some o) : o.op ≠ .select cs b := Region.noSelect_spec h j o cs b ho

theorem evC_sound {cl : Cl} {lf : Nat} (hcl : ClSound P G cl) (hm : P.follows .mixedOrders = true) : ∀ (c : Code) (cc : CC), compCode P G N c = some cc → ∀ (s s' : St) (x : X), evC cl lf cc s = some (x, s') → s.nx ≤ s'.nx ∧
    ∀ (v : Val) (a : Act) (w : World), Gam G N v s a w → ∀ (Q : Exit → Act → World → Prop), (∀ v' a' w', Gam G N v' s' a' w' → Ext v s.h w v' s'.h w' → (∀ m, m < s.nx → v'.blk m = v.blk m) → Q x.to a' w') → c.wp P Q a w
  | .skip, cc, hc, s, s', x, he => by
    simp only [compCode] at hc; injection hc with hc; subst hc
    simp only [evC] at he; injection he with he; injection he with he1 he2; subst he1; subst he2
    exact ⟨Nat.le_refl _, fun v a w hg Q hQ => wp_skip (hQ v a w hg Ext.refl (fun _ _ => rfl))⟩
  | .exit id, cc, hc, s, s', x, he => by
    simp only [compCode] at hc; injection hc with hc; subst hc
    simp only [evC] at he; injection he with he; injection he with he1 he2; subst he1; subst he2
    exact ⟨Nat.le_refl _, fun v a w hg Q hQ => wp_exit (hQ v a w hg Ext.refl (fun _ _ => rfl))⟩
  | .ret, cc, hc, s, s', x, he => by
    simp only [compCode] at hc; injection hc with hc; subst hc
    simp only [evC] at he; injection he with he; injection he with he1 he2; subst he1; subst he2
    exact ⟨Nat.le_refl _, fun v a w hg Q hQ => wp_ret (hQ v a w hg Ext.refl (fun _ _ => rfl))⟩
  | .seq a b, cc, hc, s, s', x, he => by
    simp only [compCode] at hc
    split at hc <;> first | (cases hc; done) | skip
    rename_i ca cb h1 h2
    injection hc with hc; subst hc
    simp only [evC] at he
    cases hea : evC cl lf ca s with
    | none => rw [hea] at he; cases he
    | some p =>
      obtain ⟨x1, s1⟩ := p
      rw [hea] at he
      obtain ⟨n1, k1⟩ := evC_sound hcl hm a ca h1 s s1 x1 hea
      cases x1 with
      | norm =>
        simp only at he
        obtain ⟨n2, k2⟩ := evC_sound hcl hm b cb h2 s1 s' x he
        exact ⟨Nat.le_trans n1 n2, fun v a w hg Q hQ => wp_seq (k1 v a w hg _ fun v1 a1 w1 g1 g2 g5 => k2 v1 a1 w1 g1 Q fun v2 a2 w2 g3 g4 g6 => hQ v2 a2 w2 g3 (g2.trans g4) (fun m hm' => by rw [g6 m (by omega), g5 m hm']))⟩
      | exit id =>
        simp only at he; injection he with he; injection he with he1 he2; subst he1; subst he2
        exact ⟨n1, fun v a w hg Q hQ => wp_seq (k1 v a w hg _ fun v1 a1 w1 g1 g2 g5 => hQ v1 a1 w1 g1 g2 g5)⟩
      | ret =>
        simp only at he; injection he with he; injection he with he1 he2; subst he1; subst he2
        exact ⟨n1, fun v a w hg Q hQ => wp_seq (k1 v a w hg _ fun v1 a1 w1 g1 g2 g5 => hQ v1 a1 w1 g1 g2 g5)⟩
  | .cond c a b, cc, hc, s, s', x, he => by
    simp only [compCode] at hc
    split at hc <;> first | (cases hc; done) | skip
    rename_i c' ca cb h0 h1 h2
    injection hc with hc; subst hc
    simp only [evC] at he
    split at he
    · rename_i e1
      obtain ⟨n1, k1⟩ := evC_sound hcl hm a ca h1 s s' x he
      refine ⟨n1, fun v a w hg Q hQ => wp_cond_true ?_ (k1 v a w hg Q hQ)⟩
      have := A.sound hg.t hg.g h0 e1
      simp only [den] at this; injection this with this; exact this.symm
    · rename_i e1
      obtain ⟨n1, k1⟩ := evC_sound hcl hm b cb h2 s s' x he
      refine ⟨n1, fun v a w hg Q hQ => wp_cond_false ?_ (k1 v a w hg Q hQ)⟩
      have := A.sound hg.t hg.g h0 e1
      simp only [den] at this; injection this with this; exact this.symm
    · cases he
  | .block id b, cc, hc, s, s', x, he => by
    simp only [compCode] at hc
    obtain ⟨cb, h1, rfl⟩ := opt_map hc
    simp only [evC] at he
    cases heb : evC cl lf cb s with
    | none => rw [heb] at he; cases he
    | some p =>
      obtain ⟨x1, s1⟩ := p
      rw [heb] at he
      obtain ⟨n1, k1⟩ := evC_sound hcl hm b cb h1 s s1 x1 heb
      cases x1 with
      | norm =>
        simp only at he; injection he with he; injection he with he1 he2; subst he1; subst he2
        exact ⟨n1, fun v a w hg Q hQ => wp_block (k1 v a w hg _ fun v1 a1 w1 g1 g2 g5 => hQ v1 a1 w1 g1 g2 g5)⟩
      | ret =>
        simp only at he; injection he with he; injection he with he1 he2; subst he1; subst he2
        exact ⟨n1, fun v a w hg Q hQ => wp_block (k1 v a w hg _ fun v1 a1 w1 g1 g2 g5 => hQ v1 a1 w1 g1 g2 g5)⟩
      | exit k =>
        simp only at he
        cases hk : Nat.beq k id with
        | true =>
          rw [hk] at he; simp only [cond_true] at he; injection he with he; injection he with he1 he2; subst he1; subst he2
          refine ⟨n1, fun v a w hg Q hQ => wp_block (k1 v a w hg _ fun v1 a1 w1 g1 g2 g5 => ?_)⟩
          have := nb hk; subst this
          simp only [X.to, Exit.inBlock, if_true]
          exact hQ v1 a1 w1 g1 g2 g5
        | false =>
          rw [hk] at he; simp only [cond_false] at he; injection he with he; injection he with he1 he2; subst he1; subst he2
          refine ⟨n1, fun v a w hg Q hQ => wp_block (k1 v a w hg _ fun v1 a1 w1 g1 g2 g5 => ?_)⟩
          have hne : k ≠ id := fun e => by subst e; rw [Nat.beq_refl] at hk; cases hk
          simp only [X.to, Exit.inBlock, if_neg hne]
          exact hQ v1 a1 w1 g1 g2 g5
  | .loop b, cc, hc, s, s', x, he => by
    simp only [compCode] at hc
    obtain ⟨cb, h1, rfl⟩ := opt_map hc
    simp only [evC] at he
    have key : ∀ (n : Nat) (s : St), evL (fun s => evC cl lf cb s) n s = some (x, s') → s.nx ≤ s'.nx ∧ ∀ (v : Val) (a : Act) (w : World), Gam G N v s a w → ∀ (Q : Exit → Act → World → Prop), (∀ v' a' w', Gam G N v' s' a' w' → Ext v s.h w v' s'.h w' → (∀ m, m < s.nx → v'.blk m = v.blk m) → Q x.to a' w') → Code.rounds P b Q n a w := by
      intro n
      induction n with
      | zero => intro s h; simp [evL] at h
      | succ n ih =>
        intro s h
        simp only [evL] at h
        cases heb : evC cl lf cb s with
        | none => rw [heb] at h; cases h
        | some p =>
          obtain ⟨x1, s1⟩ := p
          rw [heb] at h
          obtain ⟨n1, k1⟩ := evC_sound hcl hm b cb h1 s s1 x1 heb
          cases x1 with
          | norm =>
            simp only at h
            obtain ⟨n2, k2⟩ := ih s1 h
            exact ⟨Nat.le_trans n1 n2, fun v a w hg Q hQ => k1 v a w hg _ fun v1 a1 w1 g1 g2 g5 => k2 v1 a1 w1 g1 Q fun v2 a2 w2 g3 g4 g6 => hQ v2 a2 w2 g3 (g2.trans g4) (fun m hm' => by rw [g6 m (by omega), g5 m hm'])⟩
          | exit k =>
            simp only at h; injection h with h; injection h with he1 he2; subst he1; subst he2
            exact ⟨n1, fun v a w hg Q hQ => k1 v a w hg _ fun v1 a1 w1 g1 g2 g5 => hQ v1 a1 w1 g1 g2 g5⟩
          | ret =>
            simp only at h; injection h with h; injection h with he1 he2; subst he1; subst he2
            exact ⟨n1, fun v a w hg Q hQ => k1 v a w hg _ fun v1 a1 w1 g1 g2 g5 => hQ v1 a1 w1 g1 g2 g5⟩
    obtain ⟨n1, k1⟩ := key lf s he
    exact ⟨n1, fun v a w hg Q hQ => wp_loop_rounds lf (k1 v a w hg Q hQ)⟩
  | .scope b, cc, hc, s, s', x, he => by
    simp only [compCode] at hc
    obtain ⟨n1, k1⟩ := evC_sound hcl hm b cc hc s s' x he
    refine ⟨n1, fun v a w hg Q hQ => wp_scope_straight (k1 v a w hg _ fun v1 a1 w1 g1 g2 g5 => ?_)⟩
    have := hQ v1 a1 w1 g1 g2 g5
    cases x <;> exact this
  | .label l, cc, hc, s, s', x, he => by
    simp only [compCode] at hc; injection hc with hc; subst hc
    simp only [evC] at he; injection he with he; injection he with he1 he2; subst he1; subst he2
    exact ⟨Nat.le_refl _, fun v a w hg Q hQ => wp_label (hQ v a w hg Ext.refl (fun _ _ => rfl))⟩
  | .goto l, cc, hc, s, s', x, he => by
    simp only [compCode] at hc; injection hc with hc; subst hc
    simp [evC] at he
  | .refuse l, cc, hc, s, s', x, he => by
    simp only [compCode] at hc; injection hc with hc; subst hc
    simp [evC] at he
  | .rangeFunc f ps as b, cc, hc, s, s', x, he => by
    simp only [compCode] at hc; injection hc with hc; subst hc
    simp [evC] at he
  | .region id ops false, cc, hc, s, s', x, he => by
    simp only [compCode] at hc
    obtain ⟨cs, h1, rfl⟩ := opt_map hc
    obtain ⟨hlen, hat⟩ := compCOs_at h1
    simp only [evC] at he
    split at he <;> first | (cases he; done) | skip
    rename_i s1 hev
    injection he with he; injection he with he1 he2; subst he1; subst he2
    have hnx := evS_nx hcl cs 0 _ s1 hev
    simp only at hnx
    have hsz : cs.length = ops.size := by rw [hlen]; simp
    refine ⟨by omega, fun v a w hg Q hQ => wp_region ?_⟩
    rw [List.range_eq_range', ← hsz]
    refine evS_sound hcl cs 0 { s with nx := s.nx + cs.length } s1 v a w (by omega) (fun k c hk => ?_) hev ⟨hg.t, hg.h, hg.g, hg.d, hg.n, fun n hn => hg.f n (Nat.le_trans (Nat.le_add_right _ _) hn)⟩ (fun k _ _ => hg.f _ (by omega)) (by simp only; omega) (fun v' a' w' k1 k2 k3 => hQ v' a' w' k1 k2 k3)
    obtain ⟨o, ho, hcc⟩ := hat k c hk
    exact ⟨o, by rw [Nat.zero_add, ← Array.getElem?_toList]; exact ho, hcc⟩
  | .region id ops true, cc, hc, s, s', x, he => by
    simp only [compCode, compDrw] at hc
    split at hc <;> first | (cases hc; done) | skip
    rename_i cs h1
    obtain ⟨hlen, hat⟩ := compCOs_at h1
    simp only [cond_eq_ite] at hc
    split at hc <;> first | (cases hc; done) | skip
    rename_i hcond
    injection hc with hc; subst hc
    simp only [Bool.and_eq_true] at hcond
    obtain ⟨⟨⟨c1, c2⟩, c3⟩, c4⟩ := hcond
    have c3 := nb c3
    simp only [evC] at he
    split at he <;> first | (cases he; done) | skip
    rename_i s1 hev
    injection he with he; injection he with he1 he2; subst he1; subst he2
    have hnx := evP_nx hcl _ _ _ hev
    simp only at hnx
    refine ⟨by omega, fun v a w hg Q hQ => ?_⟩
    have hcos : ∀ i co, (ofL cs 0 T.lf).get i = some co → ∃ o, ops[i]? = some o ∧ compCO P G N ops o = some co := fun i co hi => by
      obtain ⟨o, ho, hcc⟩ := hat i co (ofL_some hi)
      exact ⟨o, by rw [← Array.getElem?_toList]; exact ho, hcc⟩
    have hM : ∀ i x, (ofL (ops.toList.map (lookM ops)) 0 T.lf).get i = some x → ∃ o, ops[i]? = some o ∧ x = lookM ops o := fun i x hi => by
      have := ofL_some hi
      rw [List.getElem?_map] at this
      obtain ⟨o, ho, hx⟩ := opt_map this
      exact ⟨o, by rw [← Array.getElem?_toList]; exact ho, hx.symm⟩
    have hsafe := (evP_sound (Q := Q) hcl hcos rfl hM (noSel c2) c1 _ 0 (Array.replicate ops.size false) { s with nx := s.nx + ops.size } [] v a w.drew [] (Msk.zero _) (fun j oj hj hl => by
        rcases Nat.lt_or_ge j ops.size with h | h
        · simp [h] at hl
        · simp [Array.getElem?_eq_none, h] at hl) c4 hev
      ⟨hg.t, hg.h.drew, hg.g, hg.d, hg.n, fun n hn => hg.f n (Nat.le_trans (Nat.le_add_right _ _) hn)⟩ (fun p hp => by cases hp) (fun i hi _ => hg.f _ (by omega)) (Nat.le_refl _) (fun v' a' w' k1 k2 k3 => hQ v' a' w' k1 (Ext.drew.trans k2) k3)).1
    rw [c3] at hsafe
    exact region_safe hm hsafe

theorem run_callFunc {f : Nat} {cf : CF} (h : FnOk P G f cf) (as : Array Value) (w : World) : (callFunc f as).run P w = .ok (.enter f as) w := by
  obtain ⟨fn, b, h1, h2, h3, _⟩ := h
  simp only [callFunc, Sem.run_bind, run_program, Result.andThen_ok, h1, h2, h3, Option.isNone_some, Bool.false_eq_true, if_false, Sem.run_pure]

theorem evRes_sound {v : Val} {s : St} {a : Act} {w : World} (hg : Gam G N v s a w) : ∀ {rs : List ResultVar} {rv : List RV} {vs : List V}, compRes P rs = some rv → evRes s rv = some vs →
    ∃ ys, denL v vs = some ys ∧ (rs.mapM fun | .tmp t => pure (a.tmps.getD t undef) | .cell b t => do loadVar t (← asAddr (a.tmps.getD b undef)) : Sem (List Value)).run P w = .ok ys w
  | [], rv, vs, hc, he => by
    simp only [compRes] at hc; injection hc with hc; subst hc
    simp only [evRes] at he; injection he with he; subst he
    exact ⟨[], rfl, by simp⟩
  | .tmp t :: r, rv, vs, hc, he => by
    simp only [compRes] at hc
    obtain ⟨l, hl, rfl⟩ := opt_map hc
    simp only [evRes] at he
    split at he <;> first | (cases he; done) | skip
    rename_i x l' e1 e2
    injection he with he; subst he
    obtain ⟨ys, hys, hr⟩ := evRes_sound hg hl e2
    obtain ⟨y, hy1, hy2⟩ := hg.t t x e1
    refine ⟨y :: ys, denL_mk hy2 hys, ?_⟩
    have : a.tmps.getD t undef = y := by simp [hy1]
    simp only [List.mapM_cons, Sem.run_bind, Sem.run_pure, Result.andThen_ok, this, hr]
  | .cell b t :: r, rv, vs, hc, he => by
    simp only [compRes] at hc
    split at hc <;> first | (cases hc; done) | skip
    rename_i n g l h1 h2 hl
    injection hc with hc; subst hc
    simp only [evRes] at he
    split at he <;> first | (cases he; done) | skip
    rename_i x l' e1 e2
    injection he with he; subst he
    obtain ⟨ys, hys, hr⟩ := evRes_sound hg hl e2
    obtain ⟨y, hy, hrun⟩ := exr_sound (P := P) (o := ⟨none, .load t (.tmp b), 0, "", #[], none⟩) hg.t hg.g (by simp only [compR, h1, h2, compA]) e1 hg.h
    refine ⟨y :: ys, denL_mk hy hys, ?_⟩
    have hload : (do loadVar t (← asAddr (a.tmps.getD b undef)) : Sem Value).run P w = .ok y w := by
      simp only [execOp, Instr.loadAt, Act.eval] at hrun
      simp only [exr, A.ev] at e1
      split at e1 <;> first | (cases e1; done) | skip
      rename_i nn oo eo
      obtain ⟨z, hz1, hz2⟩ := hg.t b _ eo
      simp only [den] at hz2
      split at hz2 <;> first | (cases hz2; done) | skip
      injection hz2 with hz2
      have hget : a.tmps.getD b undef = z := by simp [hz1]
      rw [hget, ← hz2] at hrun ⊢
      simp only [Instr.sureAddr, asAddr, Sem.run_bind, Sem.run_pure, Result.andThen_ok] at hrun ⊢
      generalize (loadVar t _).run P w = rr at hrun ⊢
      cases rr with
      | ok q w' => simp only [Result.andThen_ok] at hrun; injection hrun with h1 h2; injection h1 with h1; rw [h1, h2]
      | halt q w' => simp at hrun
    simp only [List.mapM_cons, Sem.run_bind, Sem.run_pure, Result.andThen_ok] at hload ⊢
    rw [hload]
    simp only [Result.andThen_ok, hr]

theorem evCall_sound {tb : Nat → Option CF} {hk : Cl} {lf : Nat} (htb : ∀ f cf, tb f = some cf → FnOk P G f cf) (hhk : ClSound P G hk) (hm : P.follows .mixedOrders = true) : ∀ (n : Nat), ClSound P G (evCall tb hk lf n)
  | 0 => fun f args h nx r h' nx' he => by simp [evCall] at he
  | n + 1 => fun f args h nx r h' nx' he => by
    simp only [evCall] at he
    cases hhe : hk f args h nx with
    | some q =>
      rw [hhe] at he; simp only at he; injection he with he; subst he
      exact hhk f args h nx r h' nx' hhe
    | none =>
      rw [hhe] at he; simp only at he
      cases hcf : tb f with
      | none => rw [hcf] at he; cases he
      | some cf =>
        rw [hcf] at he; simp only at he
        have hok := htb f cf hcf
        have hok' := hok
        obtain ⟨fn, b, q1, q2, q3, q4, q5, q6⟩ := hok'
        simp only [cond_eq_ite] at he
        split at he <;> first | (cases he; done) | skip
        rename_i hlen
        have hlen := Nat.le_of_ble_eq_true hlen
        have hcl := evCall_sound (lf := lf) htb hhk hm n
        have fin : ∀ (x : X) (s : St), evC (evCall tb hk lf n) lf cf.cc ⟨ofL args 0 .lf, h, nx⟩ = some (x, s) → (x = .norm ∨ x = .ret) → evRes s cf.res = some [] ∨ True → (match evRes s cf.res with | some vs => some (packV vs, s.h, s.nx) | none => none) = some (r, h', nx') →
            nx ≤ nx' ∧ (∀ as w, (callFunc f as).run P w = .ok (.enter f as) w) ∧ ∀ v w as, Conc v h w → GOk v G → denL v args = some as → (∀ n, nx ≤ n → v.blk n = none) → Calls P f as.toArray w (CallPost v h w nx r h' nx') := by
          intro x s hev hx _ hres
          split at hres <;> first | (cases hres; done) | skip
          rename_i vs hvs
          injection hres with hres; injection hres with r1 hres; injection hres with r2 r3; subst r1; subst r2; subst r3
          obtain ⟨n1, k1⟩ := evC_sound (N := fn.ntmps) hcl hm b cf.cc q4 _ s x hev
          refine ⟨n1, run_callFunc hok, fun v w as hh hg hd hf => ?_⟩
          have hal : as.length = args.length := denL_length hd
          have hle2 : as.length ≤ fn.ntmps := by rw [hal, ← q5]; exact hlen
          refine calls_of_wp q1 q3 ?_
          have hgam : Gam G fn.ntmps v ⟨ofL args 0 .lf, h, nx⟩ { tmps := as.toArray ++ Array.replicate (fn.ntmps - as.toArray.size) undef, defers := [] } w := by
            refine ⟨fun i z hz => ?_, hh, hg, rfl, by simp; omega, hf⟩
            have hz := ofL_some hz
            obtain ⟨y, hy1, hy2⟩ := denL_get i hd hz
            refine ⟨y, ?_, hy1⟩
            have hlt : i < as.length := (List.getElem?_eq_some_iff.1 hy2).1
            rw [Array.getElem?_append_left (by simpa using hlt), List.getElem?_toArray]
            exact hy2
          refine k1 v _ w hgam _ fun v' a' w' g1 g2 g5 => ?_
          have hbp : a'.defers = [] ∧ ∃ y, (results fn a'.tmps).run P w' = .ok y w' ∧ CallPost v h w nx (packV vs) s.h s.nx (.returned y) w' := by
            refine ⟨g1.d, ?_⟩
            obtain ⟨ys, hys, hrun⟩ := evRes_sound (P := P) g1 q6 hvs
            have hres : (results fn a'.tmps).run P w' = .ok (if h : ys.toArray.size = 1 then ys.toArray[0] else .tuple ys.toArray) w' := by
              unfold results
              rw [Array.mapM_eq_mapM_toList]
              simp only [Sem.run_bind, Sem.run_map]
              erw [hrun]
              simp only [Result.andThen_ok, Sem.run_pure]
            refine ⟨_, hres, v', _, rfl, ?_, g1.h, g2, g5, g1.f⟩
            · match vs, ys, hys with
              | [], ys, hys => simp only [denL] at hys; injection hys with hys; subst hys; rfl
              | [z], ys, hys =>
                obtain ⟨y, l, hy, hl, rfl⟩ := denL_cons hys
                simp only [denL] at hl; injection hl with hl; subst hl
                exact hy
              | z1 :: z2 :: zs, ys, hys =>
                have hyl := denL_length hys
                have : ¬ ys.toArray.size = 1 := by simp [hyl]
                rw [dif_neg this]
                simp only [packV, den, hys]
          rcases hx with rfl | rfl
          · exact hbp
          · exact hbp
        split at he
        · cases he
        · rename_i x s hnx hev
          refine fin x s hev ?_ (.inr trivial) he
          cases x with
          | norm => exact .inl rfl
          | ret => exact .inr rfl
          | exit k => exact (hnx k rfl).elim
        · cases he
end
end Go.Proofs.YtaaofanhjolikaaGreatDoor.Sx
