/- A machine of names: one operation. Over any program. -/
import Derived.Test.YtaaofanhjolikaaGreatDoorSxReg
set_option linter.unusedVariables false
set_option linter.unusedSimpArgs false
namespace Go.Proofs.YtaaofanhjolikaaGreatDoor.Sx
open Go

/-! when two values are one -/
def Cp.beq : Cp → Cp → Bool
  | .kn a, .kn b => Nat.beq a b
  | .op a, .op b => Nat.beq a b
  | _, _ => false
mutual
def V.beq : V → V → Bool
  | .bool a, .bool b => a == b
  | .int k n, .int k' n' => decide (k = k') && decide (n = n')
  | .str s, .str t => s == t
  | .ptr0, .ptr0 => true
  | .ptr n o, .ptr n' o' => Nat.beq n n' && Nat.beq o o'
  | .sl0, .sl0 => true
  | .sl n o l c, .sl n' o' l' c' => Nat.beq n n' && Nat.beq o o' && Nat.beq l l' && c.beq c'
  | .map0, .map0 => true
  | .map n, .map n' => Nat.beq n n'
  | .fn f c, .fn f' c' => Nat.beq f f' && V.beqL c c'
  | .fnil, .fnil => true
  | .ifc t x, .ifc t' x' => Nat.beq t t' && V.beq x x'
  | .ifc0, .ifc0 => true
  | .agg l, .agg l' => V.beqL l l'
  | .tup l, .tup l' => V.beqL l l'
  | .opq i, .opq i' => Nat.beq i i'
  | .lin c i lo hi s, .lin c' i' lo' hi' s' => decide (c = c') && Nat.beq i i' && decide (lo = lo') && decide (hi = hi') && (s == s')
  | _, _ => false
def V.beqL : List V → List V → Bool
  | [], [] => true
  | x :: xs, y :: ys => V.beq x y && V.beqL xs ys
  | _, _ => false
end
theorem nb {a b : Nat} (h : Nat.beq a b = true) : a = b := Nat.eq_of_beq_eq_true h
theorem Cp.beq_eq {a b : Cp} (h : a.beq b = true) : a = b := by
  cases a <;> cases b <;> simp only [Cp.beq] at h <;> first | (cases h; done) | rw [nb h]
mutual
theorem V.beq_eq : ∀ {a b : V}, V.beq a b = true → a = b
  | .bool a, b, h => by cases b <;> simp only [V.beq] at h <;> first | (cases h; done) | (rw [beq_iff_eq] at h; rw [h])
  | .int k n, b, h => by cases b <;> simp only [V.beq] at h <;> first | (cases h; done) | (simp only [Bool.and_eq_true, decide_eq_true_eq] at h; rw [h.1, h.2])
  | .str s, b, h => by cases b <;> simp only [V.beq] at h <;> first | (cases h; done) | (rw [beq_iff_eq] at h; rw [h])
  | .ptr0, b, h => by cases b <;> simp only [V.beq] at h <;> first | (cases h; done) | rfl
  | .ptr n o, b, h => by cases b <;> simp only [V.beq] at h <;> first | (cases h; done) | (simp only [Bool.and_eq_true] at h; rw [nb h.1, nb h.2])
  | .sl0, b, h => by cases b <;> simp only [V.beq] at h <;> first | (cases h; done) | rfl
  | .sl n o l c, b, h => by cases b <;> simp only [V.beq] at h <;> first | (cases h; done) | (simp only [Bool.and_eq_true] at h; rw [nb h.1.1.1, nb h.1.1.2, nb h.1.2, Cp.beq_eq h.2])
  | .map0, b, h => by cases b <;> simp only [V.beq] at h <;> first | (cases h; done) | rfl
  | .map n, b, h => by cases b <;> simp only [V.beq] at h <;> first | (cases h; done) | rw [nb h]
  | .fn f c, b, h => by cases b <;> simp only [V.beq] at h <;> first | (cases h; done) | (simp only [Bool.and_eq_true] at h; rw [nb h.1, V.beqL_eq h.2])
  | .fnil, b, h => by cases b <;> simp only [V.beq] at h <;> first | (cases h; done) | rfl
  | .ifc t x, b, h => by cases b <;> simp only [V.beq] at h <;> first | (cases h; done) | (simp only [Bool.and_eq_true] at h; rw [nb h.1, V.beq_eq h.2])
  | .ifc0, b, h => by cases b <;> simp only [V.beq] at h <;> first | (cases h; done) | rfl
  | .agg l, b, h => by cases b <;> simp only [V.beq] at h <;> first | (cases h; done) | rw [V.beqL_eq h]
  | .tup l, b, h => by cases b <;> simp only [V.beq] at h <;> first | (cases h; done) | rw [V.beqL_eq h]
  | .opq i, b, h => by cases b <;> simp only [V.beq] at h <;> first | (cases h; done) | rw [nb h]
  | .lin c i lo hi s, b, h => by cases b <;> simp only [V.beq] at h <;> first | (cases h; done) | (simp only [Bool.and_eq_true, decide_eq_true_eq, beq_iff_eq] at h; rw [h.1.1.1.1, nb h.1.1.1.2, h.1.1.2, h.1.2, h.2])
theorem V.beqL_eq : ∀ {a b : List V}, V.beqL a b = true → a = b
  | [], [], h => rfl
  | [], _ :: _, h => by simp [V.beqL] at h
  | _ :: _, [], h => by simp [V.beqL] at h
  | x :: xs, y :: ys, h => by
    simp only [V.beqL, Bool.and_eq_true] at h
    rw [V.beq_eq h.1, V.beqL_eq h.2]
end

/-! an operation of the program, told -/
inductive C where
  | q (q : Q)
  | r (r : R)
  | e (e : E)
  | call (f : Nat) (args : List A)
  | callv (x : A) (args : List A)
  | no
structure CO where
  c : C
  dst : Option Nat
  gd : Option (Nat × Bool)

def compCall (G : Nat) (o : Oper) : Option C :=
  match o.op with
  | .call c => match c.callee with
    | .value x => match x, compAs G c.args.toList with
      | .func f, some as => some (.call f as)
      | x, some as => match compA G x with
        | some x => some (.callv x as)
        | none => none
      | _, none => none
    | _ => none
  | _ => none
def compC (P : Program) (G : Nat) (o : Oper) : Option C :=
  match compQ P G o with
  | some q => some (.q q)
  | none => match compR P G o with
    | some r => some (.r r)
    | none => match compE P G o with
      | some e => some (.e e)
      | none => match compCall G o with
        | some c => some c
        | none => some .no
def compGd (ops : Array Oper) : Option (Nat × Bool) → Option (Option (Nat × Bool))
  | none => some none
  | some (j, b) => match (ops[j]?).bind (·.dst) with
    | some d => some (some (d, b))
    | none => none
def dstOk (N : Nat) : Option Tmp → Bool
  | none => true
  | some d => Nat.ble (d + 1) N
def compCO (P : Program) (G N : Nat) (ops : Array Oper) (o : Oper) : Option CO :=
  match compC P G o, compGd ops o.guard, dstOk N o.dst with
  | some c, some g, true => some ⟨c, o.dst, g⟩
  | _, _, _ => none

structure St where
  t : T V
  h : Heap
  nx : Nat
def putT (t : T V) (d : Option Nat) (x : V) : T V :=
  match d with
  | some d => t.set d x
  | none => t
def undefV : V := .tup []
def evGd (t : T V) : Option (Nat × Bool) → Option Bool
  | none => some true
  | some (d, b) => match t.get d with
    | some (.bool c) => some (c == b)
    | some (.tup _) => some false
    | _ => none

abbrev Cl := Nat → List V → Heap → Nat → Option (V × Heap × Nat)
def evCl (cl : Cl) (f : Nat) (xs : List V) (dst : Option Nat) (s : St) : Option St :=
  match cl f xs s.h s.nx with
  | some (r, h, nx) => some ⟨putT s.t dst r, h, nx⟩
  | none => none
def evOp (cl : Cl) (me : Nat) (o : CO) (s : St) : Option St :=
  match evGd s.t o.gd with
  | none => none
  | some false => some { s with t := putT s.t o.dst undefV }
  | some true => match o.c with
    | .q q => match exq me q s.t with
      | some x => some { s with t := putT s.t o.dst x }
      | none => none
    | .r r => match exr r s.t s.h with
      | some x => some { s with t := putT s.t o.dst x }
      | none => none
    | .e e => match exe me e s.t s.h with
      | some (some x, h) => some ⟨putT s.t o.dst x, h, s.nx⟩
      | some (none, h) => some ⟨putT s.t o.dst undefV, h, s.nx⟩
      | none => none
    | .call f as => match evs s.t as with
      | some xs => evCl cl f xs o.dst s
      | none => none
    | .callv x as => match x.ev s.t, evs s.t as with
      | some (.fn f caps), some xs => evCl cl f (xs ++ caps) o.dst s
      | _, _ => none
    | .no => none

section
variable {P : Program} {G N : Nat}

/-- what a call leaves -/
def CallPost (v : Val) (h : Heap) (w : World) (nx : Nat) (r : V) (h' : Heap) (nx' : Nat) (e : Ending) (w' : World) : Prop :=
  ∃ v' y, e = .returned y ∧ den v' r = some y ∧ Conc v' h' w' ∧ Ext v h w v' h' w' ∧ (∀ n, n < nx → v'.blk n = v.blk n) ∧ (∀ n, nx' ≤ n → v'.blk n = none)
def ClSound (P : Program) (G : Nat) (cl : Cl) : Prop :=
  ∀ f args h nx r h' nx', cl f args h nx = some (r, h', nx') → nx ≤ nx' ∧ (∀ as w, (callFunc f as).run P w = .ok (.enter f as) w) ∧
    ∀ v w as, Conc v h w → GOk v G → denL v args = some as → (∀ n, nx ≤ n → v.blk n = none) → Calls P f as.toArray w (CallPost v h w nx r h' nx')

structure Gam (G N : Nat) (v : Val) (s : St) (a : Act) (w : World) : Prop where
  t : TOk v s.t a
  h : Conc v s.h w
  g : GOk v G
  d : a.defers = []
  n : a.tmps.size = N
  f : ∀ n, s.nx ≤ n → v.blk n = none

theorem put_size {a : Act} {d : Option Tmp} {y : Value} : (a.put d y).tmps.size = a.tmps.size := by cases d <;> simp [Act.put]
theorem put_defers {a : Act} {d : Option Tmp} {y : Value} : (a.put d y).defers = a.defers := by cases d <;> rfl
theorem put_other {a : Act} {d : Option Tmp} {y : Value} {t : Nat} (h : d ≠ some t) : (a.put d y).tmps[t]? = a.tmps[t]? := by
  cases d with
  | none => rfl
  | some d => simp only [Act.put]; rw [Array.getElem?_setIfInBounds_ne (fun e => h (by rw [e]))]
theorem TOk.putT {v : Val} {t : T V} {a : Act} {d : Option Nat} {x : V} {y : Value} (h : TOk v t a) (hn : a.tmps.size = N) (hd : dstOk N d = true) (hx : den v x = some y) : TOk v (putT t d x) (a.put d y) := by
  cases d with
  | none => exact h
  | some d => exact h.put (by rw [hn]; exact Nat.le_of_ble_eq_true hd) hx
theorem gd_sound {v : Val} {t : T V} {a : Act} {ops : Array Oper} {o : Oper} {g : Option (Nat × Bool)} {b : Bool} (ht : TOk v t a) (hc : compGd ops o.guard = some g) (he : evGd t g = some b) : Region.wanted o (yielded ops a.tmps) = b := by
  unfold Region.wanted
  cases hg : o.guard with
  | none => rw [hg] at hc; simp only [compGd] at hc; injection hc with hc; subst hc; simp only [evGd] at he; injection he
  | some p =>
    obtain ⟨j, want⟩ := p
    rw [hg] at hc
    simp only [compGd] at hc
    cases hd : (ops[j]?).bind (·.dst) with
    | none => rw [hd] at hc; cases hc
    | some d =>
      rw [hd] at hc; injection hc with hc; subst hc
      simp only [evGd] at he
      have hy : yielded ops a.tmps j = match a.tmps[d]? with | some (.bool b) => some b | _ => none := by
        simp only [yielded, hd, Option.bind_some]; rfl
      cases hgt : t.get d with
      | none => rw [hgt] at he; cases he
      | some x =>
        obtain ⟨y, h1, h2⟩ := ht d x hgt
        rw [hgt] at he
        show (yielded ops a.tmps j == some want) = b
        rw [hy, h1]
        cases x <;> simp only at he <;> first | (cases he; done) | skip
        · rename_i c
          injection he with he; subst he
          simp only [den] at h2; injection h2 with h2; subst h2
          cases c <;> cases want <;> rfl
        · injection he with he; subst he
          simp only [den] at h2
          split at h2 <;> first | (cases h2; done) | skip
          injection h2 with h2; subst h2
          rfl

theorem compCO_inv {ops : Array Oper} {o : Oper} {co : CO} (h : compCO P G N ops o = some co) : compC P G o = some co.c ∧ compGd ops o.guard = some co.gd ∧ dstOk N o.dst = true ∧ co.dst = o.dst := by
  unfold compCO at h
  split at h
  · rename_i c g h1 h2 h3; injection h with h; subst h; exact ⟨h1, h2, h3, rfl⟩
  · cases h
theorem compC_inv {o : Oper} {c : C} (h : compC P G o = some c) : match c with
    | .q q => compQ P G o = some q
    | .r r => compR P G o = some r
    | .e e => compE P G o = some e
    | .no => True
    | c => compCall G o = some c := by
  unfold compC at h
  cases h1 : compQ P G o with
  | some q => rw [h1] at h; injection h with h; subst h; rfl
  | none =>
    rw [h1] at h; simp only at h
    cases h2 : compR P G o with
    | some q => rw [h2] at h; injection h with h; subst h; rfl
    | none =>
      rw [h2] at h; simp only at h
      cases h3 : compE P G o with
      | some q => rw [h3] at h; injection h with h; subst h; rfl
      | none =>
        rw [h3] at h; simp only at h
        cases h4 : compCall G o with
        | none => rw [h4] at h; simp only at h; injection h with h; subst h; trivial
        | some cc =>
        rw [h4] at h; simp only at h; injection h with h
        have h' := h4
        rw [h] at h4
        unfold compCall at h'
        split at h' <;> first | (cases h'; done) | skip
        split at h' <;> first | (cases h'; done) | skip
        split at h'
        · injection h' with h'; subst h'; subst h; first | exact h4 | rfl
        · split at h' <;> first | (cases h'; done) | skip
          injection h' with h'; subst h'; subst h; first | exact h4 | rfl
        · cases h'

/-- behind one operation -/
def After (G N : Nat) (v : Val) (s : St) (a : Act) (w : World) (me : Nat) (dst : Option Tmp) (s' : St) (a' : Act) (w' : World) : Prop :=
  ∃ v', Gam G N v' s' a' w' ∧ Ext v s.h w v' s'.h w' ∧ (∀ n, n < s.nx → n ≠ me → v'.blk n = v.blk n) ∧ (∀ t, dst ≠ some t → a'.tmps[t]? = a.tmps[t]?)

theorem run_call {a : Act} {w : World} {c : Call} {dst : Option Tmp} {ty : TypeId} {pos : String} {after : Array Edge} {guard : Option (Nat × Bool)} {x : Operand} {f : Nat} {caps : Array Value}
    (hc : c.callee = .value x) (hx : a.eval x = .func (.func f) #[] caps) (hcall : ∀ as w, (callFunc f as).run P w = .ok (.enter f as) w) :
    (execOp a.eval ⟨dst, .call c, ty, pos, after, guard⟩).run P w = .ok (.enter f (c.args.map a.eval ++ caps)) w := by
  simp only [execOp, resolve, hc, Deferred.ofValue, hx, invoke, Sem.run_bind, Sem.run_pure, Result.andThen_ok, Array.empty_append, hcall]

theorem evCl_sound {cl : Cl} (hcl : ClSound P G cl) {f me : Nat} {xs : List V} {s s' : St} {v : Val} {a : Act} {w : World} {o : Oper} {as : List Value} (hg : Gam G N v s a w) (hd : dstOk N o.dst = true) (hx : denL v xs = some as)
    (hrun : (∀ as w, (callFunc f as).run P w = .ok (.enter f as) w) → (execOp a.eval o).run P w = .ok (.enter f as.toArray) w) (he : evCl cl f xs o.dst s = some s') {K : Act → World → Prop} {Q : Exit → Act → World → Prop}
    (hK : ∀ a' w', After G N v s a w me o.dst s' a' w' → K a' w') : s.nx ≤ s'.nx ∧ o.wp P a w K Q := by
  unfold evCl at he
  cases hcf : cl f xs s.h s.nx with
  | none => rw [hcf] at he; cases he
  | some p =>
    obtain ⟨r, h', nx'⟩ := p
    rw [hcf] at he; injection he with he; subst he
    obtain ⟨hnx, hcall, hc⟩ := hcl f xs s.h s.nx r h' nx' hcf
    refine ⟨hnx, ?_⟩
    unfold Oper.wp
    rw [hrun hcall]
    refine (hc v w as hg.h hg.g hx hg.f).mono ?_
    rintro e w' ⟨v', y, rfl, hy, hc', he', hk1, hk2⟩
    refine hK _ _ ⟨v', ⟨(hg.t.le he'.le).putT hg.n hd hy, hc', hg.g.le he'.le, by rw [put_defers]; exact hg.d, by rw [put_size]; exact hg.n, hk2⟩, he', fun n hn _ => hk1 n hn, fun t ht => put_other ht⟩

theorem evOp_sound {cl : Cl} (hcl : ClSound P G cl) {ops : Array Oper} {o : Oper} {co : CO} {me : Nat} {s s' : St} {v : Val} {a : Act} {w : World} (hc : compCO P G N ops o = some co) (he : evOp cl me co s = some s') (hg : Gam G N v s a w) (hme : v.blk me = none) (hmx : me < s.nx)
    {K : Act → World → Prop} {Q : Exit → Act → World → Prop} (hK : ∀ a' w', After G N v s a w me o.dst s' a' w' → K a' w') :
    s.nx ≤ s'.nx ∧ if Region.wanted o (yielded ops a.tmps) = true then o.wp P a w K Q else K (a.put o.dst undef) w := by
  obtain ⟨hcc, hcg, hd, hdst⟩ := compCO_inv hc
  clear hc
  obtain ⟨c0, d0, g0⟩ := co
  simp only at hcc hcg hdst
  subst hdst
  unfold evOp at he
  simp only at he
  cases hgd : evGd s.t g0 with
  | none => rw [hgd] at he; cases he
  | some b =>
    rw [hgd] at he
    have hw := gd_sound hg.t hcg hgd
    cases b with
    | false =>
      simp only at he; injection he with he; subst he
      rw [hw, if_neg (by simp)]
      refine ⟨Nat.le_refl _, hK _ _ ⟨v, ⟨?_, hg.h, hg.g, by rw [put_defers]; exact hg.d, by rw [put_size]; exact hg.n, hg.f⟩, Ext.refl, fun _ _ _ => rfl, fun t ht => put_other ht⟩⟩
      exact hg.t.putT hg.n hd rfl
    | true =>
      simp only at he
      rw [hw, if_pos rfl]
      have hinv := compC_inv hcc
      cases c0 with
      | q q =>
        simp only at he hinv
        cases hx : exq me q s.t with
        | none => rw [hx] at he; cases he
        | some x =>
          rw [hx] at he; injection he with he; subst he
          obtain ⟨v', y, hnm, hy, hrun⟩ := exq_sound (P := P) hg.t hg.g hme hinv hx
          have hle := hnm.le hme
          refine ⟨Nat.le_refl _, ?_⟩
          unfold Oper.wp
          rw [hrun w]
          have hconc : Conc v' s.h w := by
            refine ⟨fun n B hB => ?_, fun n m B C hB hC heq => ?_⟩
            · obtain ⟨b, hb, ho⟩ := hg.h.ok n B hB
              exact ⟨b, (hle.blk n b hb).1, ho.le hle hb⟩
            · obtain ⟨b, hb, _⟩ := hg.h.ok n B hB
              obtain ⟨c, hc, _⟩ := hg.h.ok m C hC
              rw [(hle.blk n b hb).1, (hle.blk m c hc).1] at heq
              exact hg.h.inj n m B C hB hC (by rw [hb, hc]; exact heq)
          refine hK _ _ ⟨v', ⟨?_, hconc, hg.g.le hle, by rw [put_defers]; exact hg.d, by rw [put_size]; exact hg.n, fun n hn => ?_⟩, ⟨hle, rfl, rfl, rfl, Nat.le_refl _, fun _ _ _ => rfl, fun n B b hB hb => ?_⟩, fun n _ hn => hnm.other hn, fun t ht => put_other ht⟩
          · exact (hg.t.le hle).putT hg.n hd hy
          · have hne : n ≠ me := fun e => by have : s.nx ≤ n := hn; omega
            rw [hnm.other hne]; exact hg.f n hn
          · obtain ⟨c, hc, _⟩ := hg.h.ok n B hB
            rw [(hle.blk n c hc).1] at hb; injection hb with hb; subst hb
            exact .inr ⟨n, B, hB, hc⟩
      | r r =>
        simp only at he hinv
        cases hx : exr r s.t s.h with
        | none => rw [hx] at he; cases he
        | some x =>
          rw [hx] at he; injection he with he; subst he
          obtain ⟨y, hy, hrun⟩ := exr_sound (P := P) hg.t hg.g hinv hx hg.h
          refine ⟨Nat.le_refl _, ?_⟩
          unfold Oper.wp
          rw [hrun]
          refine hK _ _ ⟨v, ⟨?_, hg.h, hg.g, by rw [put_defers]; exact hg.d, by rw [put_size]; exact hg.n, hg.f⟩, Ext.refl, fun _ _ _ => rfl, fun t ht => put_other ht⟩
          exact hg.t.putT hg.n hd hy
      | e e =>
        simp only at he hinv
        cases hx : exe me e s.t s.h with
        | none => rw [hx] at he; cases he
        | some p =>
          obtain ⟨x, h'⟩ := p
          rw [hx] at he
          obtain ⟨v', w', nv, hrun, hval, hc', he', hk⟩ := exe_sound (P := P) hg.t hg.g hme hg.h hinv hx
          have hfr : ∀ n, s.nx ≤ n → v'.blk n = none := fun n hn => by rw [hk n (by omega)]; exact hg.f n hn
          cases x with
          | some x =>
            simp only at he; injection he with he; subst he
            obtain ⟨y, rfl, hy⟩ := hval
            refine ⟨Nat.le_refl _, ?_⟩
            unfold Oper.wp
            rw [hrun]
            refine hK _ _ ⟨v', ⟨?_, hc', hg.g.le he'.le, by rw [put_defers]; exact hg.d, by rw [put_size]; exact hg.n, hfr⟩, he', fun n _ hn => hk n hn, fun t ht => put_other ht⟩
            exact (hg.t.le he'.le).putT hg.n hd hy
          | none =>
            simp only at he; injection he with he; subst he
            simp only at hval; subst hval
            refine ⟨Nat.le_refl _, ?_⟩
            unfold Oper.wp
            rw [hrun]
            refine hK _ _ ⟨v', ⟨?_, hc', hg.g.le he'.le, by rw [put_defers]; exact hg.d, by rw [put_size]; exact hg.n, hfr⟩, he', fun n _ hn => hk n hn, fun t ht => put_other ht⟩
            exact (hg.t.le he'.le).putT hg.n hd rfl
      | call f as =>
        simp only at he hinv
        cases hx : evs s.t as with
        | none => rw [hx] at he; cases he
        | some xs =>
          rw [hx] at he; simp only at he
          obtain ⟨dst, op, ty, pos, after, guard⟩ := o
          unfold compCall at hinv
          split at hinv <;> first | (cases hinv; done) | skip
          rename_i c hop
          simp only at hop
          subst hop
          split at hinv <;> first | (cases hinv; done) | skip
          rename_i z hcal
          split at hinv
          · rename_i f' as' has
            injection hinv with hinv; injection hinv with h1 h2; subst h1; subst h2
            have hds := As.sound hg.t hg.g has hx
            refine evCl_sound hcl hg hd hds (fun hcall => ?_) he hK
            rw [run_call hcal (by rfl) hcall, Array.append_empty, ← Array.toList_map, Array.toArray_toList]
          · split at hinv <;> first | (cases hinv; done) | skip
          · cases hinv
      | callv x as =>
        simp only at he hinv
        split at he <;> first | (cases he; done) | skip
        rename_i f caps xs e1 e2
        obtain ⟨dst, op, ty, pos, after, guard⟩ := o
        unfold compCall at hinv
        split at hinv <;> first | (cases hinv; done) | skip
        rename_i c hop
        simp only at hop
        subst hop
        split at hinv <;> first | (cases hinv; done) | skip
        rename_i z hcal
        split at hinv
        · injection hinv with hinv; cases hinv
        · rename_i as' hnf has
          split at hinv <;> first | (cases hinv; done) | skip
          rename_i x' hxc
          injection hinv with hinv; injection hinv with h1 h2; subst h1; subst h2
          have hds := As.sound hg.t hg.g has e2
          have hdx := A.sound hg.t hg.g hxc e1
          simp only [den] at hdx
          split at hdx <;> first | (cases hdx; done) | skip
          rename_i cl' hcaps
          injection hdx with hdx
          refine evCl_sound hcl hg hd (denL_append hds hcaps) (fun hcall => ?_) he hK
          rw [run_call hcal hdx.symm hcall]
          simp
        · cases hinv
      | no => simp only at he; cases he
end
end Go.Proofs.YtaaofanhjolikaaGreatDoor.Sx
