/- A machine of names: the operations that only read memory. Over any program. -/
import Derived.Test.YtaaofanhjolikaaGreatDoorSxPure5
set_option linter.unusedVariables false
set_option linter.unusedSimpArgs false
namespace Go.Proofs.YtaaofanhjolikaaGreatDoor.Sx
open Go

inductive KK where
  | int | str
inductive R where
  | load (agg : Bool) (sz : Nat) (x : A)
  | lookup (kk : KK) (z : V) (ok : Bool) (m k : A)
  | lenM (m : A)
  | bstr (x : A)
  | entry (it : A)

def keyEq : KK → V → V → Option Bool
  | .int, .int k a, .int k' b => if k = k' then some (a == b) else none
  | .str, .str a, .str b => some (a == b)
  | _, _, _ => none
def findV (kk : KK) (k : V) : List (V × V × Nat) → Nat → Option (Option (Nat × V))
  | [], _ => some none
  | (k', x, _) :: es, i => match keyEq kk k k' with
    | some true => some (some (i, x))
    | some false => findV kk k es (i + 1)
    | none => none
def bytesV : List V → Option (List UInt8)
  | [] => some []
  | .int .u8 n :: r => match bytesV r with
    | some l => some (UInt8.ofNat n.toNat :: l)
    | none => none
  | _ => none
def lookV (kk : KK) (z : V) (ok : Bool) (es : List (V × V × Nat)) (k : V) : Option V :=
  match findV kk k es 0 with
  | some (some (_, x)) => some (if ok then .tup [x, .bool true] else x)
  | some none => some (if ok then .tup [z, .bool false] else z)
  | none => none
def keyOk : KK → V → Bool
  | .int, .int _ _ => true
  | .str, .str _ => true
  | _, _ => false

/-- cells that may be read -/
def rdB : Option Blk → Option (List V)
  | some (.cells l _) => some l
  | some (.ro l _) => some l
  | _ => none
def exr (r : R) (t : T V) (h : Heap) : Option V :=
  match r with
  | .load agg sz x => match x.ev t with
    | some (.ptr n o) => match rdB (h.get n) with
      | some l => if agg then (bif Nat.ble (o + sz) l.length then some (.agg ((l.take (o + sz)).drop o)) else none) else l[o]?
      | none => none
    | _ => none
  | .lookup kk z ok m k => match m.ev t, k.ev t with
    | some .map0, some k => bif keyOk kk k then some (if ok then .tup [z, .bool false] else z) else none
    | some (.map n), some k => match h.get n with
      | some (.mp es _) => bif keyOk kk k then lookV kk z ok es k else none
      | _ => none
    | _, _ => none
  | .lenM m => match m.ev t with
    | some .map0 => some (.int .i64 0)
    | some (.map n) => match h.get n with
      | some (.mp es _) => some (.int .i64 es.length)
      | _ => none
    | _ => none
  | .bstr x => match x.ev t with
    | some .sl0 => some (.str [])
    | some (.sl n o len _) => match h.get n with
      | some (.cells l _) => bif Nat.ble (o + len) l.length then (bytesV ((l.take (o + len)).drop o)).map .str else none
      | _ => none
    | _ => none
  | .entry it => match it.ev t with
    | some (.ptr n 0) => match h.get n with
      | some (.mit (some m) _ seen last) => match h.get m with
        | some (.mp es clock) => bif Nat.beq clock last then match seen.getLast? with
          | some stamp => match es.find? (fun e => e.2.2 == stamp) with
            | some e => some (.tup [e.1, e.2.1])
            | none => none
          | none => none
          else none
        | _ => none
      | _ => none
    | _ => none

def kkOf : Option TypeDesc → Option KK
  | some (.int _) => some .int
  | some .string => some .str
  | _ => none
def compR (P : Program) (G : Nat) (o : Oper) : Option R :=
  match o.op with
  | .load t x => match sizeOf? P t, isAggD (P.underlying t), compA G x with
    | some n, some g, some x => some (.load g n x)
    | _, _, _ => none
  | .lookup t m k ok => match P.underlying t, compA G m, compA G k with
    | some (.map kt et), some m, some k => match kkOf (P.underlying kt), zero? P et with
      | some kk, some z => some (.lookup kk z ok m k)
      | _, _ => none
    | _, _, _ => none
  | .convert src dst x => match P.underlying src, P.underlying dst, compA G x with
    | some (.slice e), some .string, some x => match P.underlying e with
      | some (.int .u8) => some (.bstr x)
      | _ => none
    | _, _, _ => none
  | .entry it => (compA G it).map .entry
  | .call c => match c.callee with
    | .builtin .len => match c.args.toList, c.argTypes.toList with
      | [x], [t] => match P.underlying t, compA G x with
        | some (.map _ _), some x => some (.lenM x)
        | _, _ => none
      | _, _ => none
    | _ => none
  | _ => none

section
variable {P : Program} {G : Nat} {v : Val} {t : T V} {a : Act} {h : Heap} {w : World}

def Read1 (P : Program) (v : Val) (o : Oper) (a : Act) (w : World) (x : V) : Prop :=
  ∃ y, den v x = some y ∧ (execOp a.eval o).run P w = .ok (.value y) w

theorem Conc.blk {n : Nat} {l : List V} {opn : Option Nat} (c : Conc v h w) (hn : h.get n = some (.cells l opn)) : ∃ b vs, v.blk n = some b ∧ denL v l = some vs ∧ ∀ i y, vs[i]? = some y → w.cell? ⟨b, v.bas n + i, none⟩ = some y := by
  obtain ⟨b, hb, pre, vs, rest, e, lo, hi, ho, hd, hp, hf, _⟩ := c.ok n _ hn
  refine ⟨b, vs, hb, hd, fun i y hy => ?_⟩
  have hlt : i < l.length := by rw [← denL_length hd]; exact (List.getElem?_eq_some_iff.1 hy).1
  obtain ⟨b', z, hb', hz, hc, _⟩ := c.cell (o := i) hn (List.getElem?_eq_getElem hlt)
  rw [hb] at hb'; injection hb' with hb'; subst hb'
  rw [hc]
  obtain ⟨z', h1, h2⟩ := denL_get i hd (List.getElem?_eq_getElem hlt)
  rw [hz] at h1; injection h1 with h1; subst h1
  rw [← h2, hy]

theorem Conc.rdb {n : Nat} {l : List V} (c : Conc v h w) (hn : rdB (h.get n) = some l) : ∃ b vs, v.blk n = some b ∧ denL v l = some vs ∧ ∀ i y, vs[i]? = some y → w.cell? ⟨b, v.bas n + i, none⟩ = some y := by
  cases hg : h.get n with
  | none => rw [hg] at hn; cases hn
  | some B =>
    rw [hg] at hn
    cases B with
    | cells l' opn => simp only [rdB] at hn; injection hn with hn; subst hn; exact c.blk hg
    | ro l' i =>
      simp only [rdB] at hn; injection hn with hn; subst hn
      obtain ⟨b, hb, vs, e, _, ho, hd, hbas⟩ := c.ok n _ hg
      refine ⟨b, vs, hb, hd, fun i y hy => ?_⟩
      simp only [World.cell?, ho, hbas, Nat.zero_add, Option.isSome_none, Bool.false_eq_true, if_false, List.getElem?_toArray]
      exact hy
    | _ => simp [rdB] at hn
theorem run_loadCells_at {b o n : Nat} {cs : List Value} (hl : cs.length = n) (hc : ∀ i y, cs[i]? = some y → w.cell? ⟨b, o + i, none⟩ = some y) : (loadCells ⟨b, o, none⟩ n).run P w = .ok cs.toArray w := by
  have hgen : ∀ (k i : Nat) (acc : Array Value), i + k = n → acc.toList = cs.take i → (loadCellsFrom ⟨b, o, none⟩ i k acc).run P w = .ok cs.toArray w := by
    intro k
    induction k with
    | zero =>
      intro i acc hi hacc
      simp only [loadCellsFrom, Sem.run_pure]
      have : acc = cs.toArray := by rw [← Array.toArray_toList (xs := acc), hacc, List.take_of_length_le (by omega)]
      rw [this]
    | succ k ih =>
      intro i acc hi hacc
      have hlt : i < cs.length := by omega
      simp only [loadCellsFrom, Sem.run_bind, run_load, addr_add, hc i cs[i] (List.getElem?_eq_getElem hlt), Result.andThen_ok]
      exact ih (i + 1) _ (by omega) (by rw [Array.toList_push, hacc, List.take_succ_eq_append_getElem hlt])
  exact hgen n 0 #[] (by omega) (by simp)

theorem run_checkKey {kt : TypeId} {kk : KK} {k : V} {y : Value} {b : Bool} (hk : kkOf (P.underlying kt) = some kk) (hko : keyOk kk k = true) (hd : den v k = some y) : (Instr.checkKey b 10000 kt y).run P w = .ok () w := by
  cases hu : P.underlying kt with
  | none => rw [hu] at hk; cases hk
  | some d =>
    rw [hu] at hk
    rw [Instr.checkKey, Sem.run_bind, run_und hu, Result.andThen_ok]
    cases d <;> simp only [kkOf] at hk <;> first | (cases hk; done) | skip
    all_goals (injection hk with hk; subst hk)
    all_goals
      cases k <;> simp only [keyOk] at hko <;> first | (cases hko; done) | skip
      simp only [den] at hd; injection hd with hd; subst hd; rfl
theorem bytes_beq (a b : List UInt8) : (ByteArray.mk a.toArray == ByteArray.mk b.toArray) = (a == b) := by
  show (a.toArray == b.toArray) = (a == b)
  simp
theorem keyEq_now {kk : KK} {d : TypeDesc} {k k' : V} {y ky : Value} {b : Bool} (hk : kkOf (some d) = some kk) (hd : den v k = some y) (h1 : den v k' = some ky) (hq : keyEq kk k k' = some b) : Instr.sameNow d y ky = some b := by
  cases d <;> simp only [kkOf] at hk <;> first | (cases hk; done) | skip
  case int kd =>
    injection hk with hk; subst hk
    cases k <;> cases k' <;> simp only [keyEq] at hq <;> first | (cases hq; done) | skip
    simp only [den] at hd h1; injection hd with hd; subst hd; injection h1 with h1; subst h1
    split at hq
    · rename_i hkk; subst hkk; simp only [Instr.sameNow, if_true]; exact hq
    · cases hq
  case string =>
    injection hk with hk; subst hk
    cases k <;> cases k' <;> simp only [keyEq] at hq <;> first | (cases hq; done) | skip
    simp only [den] at hd h1; injection hd with hd; subst hd; injection h1 with h1; subst h1
    simp only [Instr.sameNow]
    rw [← hq, bytes_beq]
theorem findV_now {kk : KK} {d : TypeDesc} {k : V} {y : Value} (hk : kkOf (some d) = some kk) (hd : den v k = some y) : ∀ {es : List (V × V × Nat)} {l : List MapEntry} {i : Nat} {r : Option (Nat × V)}, denE v es = some l → findV kk k es i = some r →
    ∃ r', Instr.findNow d y l i = some r' ∧ (match r, r' with | none, none => True | some (j, x), some (j', z) => j = j' ∧ den v x = some z | _, _ => False)
  | [], l, i, r, hl, hf => by
    simp only [denE] at hl; injection hl with hl; subst hl
    simp only [findV] at hf; injection hf with hf; subst hf
    exact ⟨none, rfl, trivial⟩
  | (k', x, n) :: es, l, i, r, hl, hf => by
    simp only [denE] at hl
    cases h1 : den v k' with
    | none => rw [h1] at hl; cases hl
    | some ky =>
      cases h2 : den v x with
      | none => rw [h1, h2] at hl; cases hl
      | some xy =>
        cases h3 : denE v es with
        | none => rw [h1, h2, h3] at hl; cases hl
        | some l' =>
          rw [h1, h2, h3] at hl; injection hl with hl; subst hl
          simp only [findV] at hf
          cases hq : keyEq kk k k' with
          | none => rw [hq] at hf; cases hf
          | some b =>
            rw [hq] at hf
            have hs : Instr.sameNow d y ky = some b := keyEq_now hk hd h1 hq
            cases b with
            | true =>
              simp only at hf; injection hf with hf; subst hf
              exact ⟨some (i, xy), by simp only [Instr.findNow, hs], rfl, h2⟩
            | false =>
              simp only at hf
              obtain ⟨r', h4, h5⟩ := findV_now hk hd h3 hf
              exact ⟨r', by simp only [Instr.findNow, hs]; exact h4, h5⟩

theorem bytesV_sound : ∀ {l : List V} {ys : List Value} {bs : List UInt8} (acc : ByteArray), denL v l = some ys → bytesV l = some bs →
    (forIn ys acc (fun (c : Value) (s : ByteArray) => (match c with
      | .int .u8 n => pure (ForInStep.yield (s.push (UInt8.ofNat n.toNat)))
      | x => do
        stuck "bytesToString: byte expected"
        pure (ForInStep.yield s) : Sem (ForInStep ByteArray))) : Sem ByteArray).run P w = .ok ⟨acc.data ++ bs.toArray⟩ w
  | [], ys, bs, acc, hl, hb => by
    simp only [denL] at hl; injection hl with hl; subst hl
    simp only [bytesV] at hb; injection hb with hb; subst hb
    simp
  | x :: xs, ys, bs, acc, hl, hb => by
    obtain ⟨y, l, hy, hl2, rfl⟩ := denL_cons hl
    unfold bytesV at hb
    split at hb <;> first | (cases hb; done) | skip
    · rename_i he; cases he
    · rename_i n r he
      injection he with he1 he2
      subst he1; subst he2
      cases hq : bytesV xs with
      | none => rw [hq] at hb; cases hb
      | some q =>
        rw [hq] at hb; injection hb with hb; subst hb
        simp only [den] at hy; injection hy with hy; subst hy
        have ih := bytesV_sound (acc.push (UInt8.ofNat n.toNat)) hl2 hq
        simp only [List.forIn_cons, Sem.run_bind, Sem.run_pure, Result.andThen_ok]
        rw [ih]
        congr 2
        simp [ByteArray.push]

theorem exr_sound {o : Oper} {r : R} {x : V} (ht : TOk v t a) (hg : GOk v G) (hc : compR P G o = some r) (hx : exr r t h = some x) (hh : Conc v h w) : Read1 P v o a w x := by
  obtain ⟨dst, op, ty, pos, after, guard⟩ := o
  cases op <;> simp only [compR] at hc <;> first | (cases hc; done) | skip
  case load t' z =>
    split at hc <;> first | (cases hc; done) | skip
    rename_i k g z' hk hgg hz
    injection hc with hc; subst hc
    simp only [exr] at hx
    split at hx <;> first | (cases hx; done) | skip
    rename_i n o e1
    split at hx <;> first | (cases hx; done) | skip
    rename_i l e2
    have k1 := A.sound ht hg hz e1
    obtain ⟨b, vs, hb, hd, hcell⟩ := hh.rdb e2
    simp only [den, hb] at k1; injection k1 with k1
    cases g with
    | true =>
      simp only [if_true] at hx
      cases hble : Nat.ble (o + k) l.length with
      | false => rw [hble] at hx; cases hx
      | true =>
        rw [hble] at hx; simp only [cond_true] at hx; injection hx with hx; subst hx
        have hle := Nat.le_of_ble_eq_true hble
        have hd2 := denL_drop o (denL_take (o + k) hd)
        refine ⟨.agg ((vs.take (o + k)).drop o).toArray, by simp only [den, hd2], ?_⟩
        have hvl := denL_length hd
        have hlen : ((vs.take (o + k)).drop o).length = k := by simp; omega
        have hrun := run_loadCells_at (P := P) (w := w) (b := b) (o := v.bas n + o) hlen (fun i y hy => by
          rw [Nat.add_assoc]
          refine hcell (o + i) y ?_
          rw [List.getElem?_drop] at hy
          rw [List.getElem?_take] at hy
          split at hy
          · exact hy
          · cases hy)
        simp only [execOp, ← k1, Instr.loadAt, Instr.sureAddr, loadVar, Sem.run_bind, Sem.run_pure, Result.andThen_ok, run_isAgg hgg, if_true, run_size hk, hrun]
    | false =>
      simp only [Bool.false_eq_true, if_false] at hx
      obtain ⟨y, hy, hy2⟩ := denL_get o hd hx
      refine ⟨y, hy, ?_⟩
      have := hcell o y hy2
      simp only [execOp, ← k1, Instr.loadAt, Instr.sureAddr, loadVar, Sem.run_bind, Sem.run_pure, Result.andThen_ok, run_isAgg hgg, Bool.false_eq_true, if_false, run_load, this]
  case lookup t' m k ok =>
    split at hc <;> first | (cases hc; done) | skip
    rename_i kt et m' k' hs hm hk
    split at hc <;> first | (cases hc; done) | skip
    rename_i kk z hkk hz
    injection hc with hc; subst hc
    obtain ⟨zy, hzd, hzr⟩ := run_zero (P := P) (v := v) (w := w) hz
    simp only [exr] at hx
    split at hx <;> first | (cases hx; done) | skip
    · rename_i kv e1 e2
      cases hko : keyOk kk kv with
      | false => rw [hko] at hx; cases hx
      | true =>
        rw [hko] at hx; simp only [cond_true] at hx; injection hx with hx; subst hx
        have k1 := A.sound ht hg hm e1
        have k2 := A.sound ht hg hk e2
        simp only [den] at k1; injection k1 with k1
        refine ⟨if ok then .tuple #[zy, .bool false] else zy, by cases ok <;> simp [den, denL, hzd], ?_⟩
        cases hu : P.underlying kt with
        | none => rw [hu] at hkk; cases hkk
        | some d =>
          simp only [execOp, ← k1, Instr.lookup, Sem.run_bind, run_und hs, Sem.run_pure, Result.andThen_ok, run_checkKey hkk hko k2, Instr.findKey, run_und hu, Array.toList_empty, Instr.findNow, hzr]
          all_goals (cases ok <;> rfl)
    · rename_i n kv e1 e2
      split at hx <;> first | (cases hx; done) | skip
      rename_i es clock e3
      cases hko : keyOk kk kv with
      | false => rw [hko] at hx; cases hx
      | true =>
        rw [hko] at hx; simp only [cond_true, lookV] at hx
        have k1 := A.sound ht hg hm e1
        have k2 := A.sound ht hg hk e2
        obtain ⟨b, hb, l, hl, ho⟩ := hh.ok n _ e3
        simp only [den, hb] at k1; injection k1 with k1
        have hget : (getObj b).run P w = .ok (.map l.toArray clock) w := by simp [getObj, Sem.run, ho]
        cases hu : P.underlying kt with
        | none => rw [hu] at hkk; cases hkk
        | some d =>
          have hkk' := hkk
          rw [hu] at hkk'
          split at hx <;> first | (cases hx; done) | skip
          · rename_i j xv hf
            injection hx with hx; subst hx
            obtain ⟨r', h4, h5⟩ := findV_now hkk' k2 hl hf
            cases r' with
            | none => exact h5.elim
            | some p =>
              obtain ⟨j', zz⟩ := p
              obtain ⟨rfl, hzz⟩ := h5
              refine ⟨if ok then .tuple #[zz, .bool true] else zz, by cases ok <;> simp [den, denL, hzz], ?_⟩
              simp only [execOp, ← k1, Instr.lookup, Sem.run_bind, run_und hs, Sem.run_pure, Result.andThen_ok, hget, run_checkKey hkk hko k2, Instr.findKey, run_und hu, h4]
              all_goals (cases ok <;> rfl)
          · rename_i hf
            injection hx with hx; subst hx
            obtain ⟨r', h4, h5⟩ := findV_now hkk' k2 hl hf
            cases r' with
            | some p => exact h5.elim
            | none =>
              refine ⟨if ok then .tuple #[zy, .bool false] else zy, by cases ok <;> simp [den, denL, hzd], ?_⟩
              simp only [execOp, ← k1, Instr.lookup, Sem.run_bind, run_und hs, Sem.run_pure, Result.andThen_ok, hget, run_checkKey hkk hko k2, Instr.findKey, run_und hu, h4, hzr]
              all_goals (cases ok <;> rfl)
  case convert src dst' z =>
    split at hc <;> first | (cases hc; done) | skip
    rename_i e z' hs hd' hz
    split at hc <;> first | (cases hc; done) | skip
    rename_i he
    injection hc with hc; subst hc
    simp only [exr] at hx
    split at hx <;> first | (cases hx; done) | skip
    · rename_i e1
      injection hx with hx; subst hx
      have k1 := A.sound ht hg hz e1
      simp only [den] at k1; injection k1 with k1
      refine ⟨.string ⟨#[]⟩, rfl, ?_⟩
      simp only [execOp, ← k1, convert, Sem.run_bind, run_und hs, run_und hd', Result.andThen_ok, run_und he, Conv.bytesToString, Sem.run_pure]
      rfl
    · rename_i n o len cp e1
      split at hx <;> first | (cases hx; done) | skip
      rename_i l opn e2
      cases hble : Nat.ble (o + len) l.length with
      | false => rw [hble] at hx; cases hx
      | true =>
        rw [hble] at hx; simp only [cond_true] at hx
        obtain ⟨bs, hbs, rfl⟩ := opt_map hx
        have hle := Nat.le_of_ble_eq_true hble
        have k1 := A.sound ht hg hz e1
        obtain ⟨b, vs, hb, hd, hcell⟩ := hh.blk e2
        simp only [den, hb] at k1
        split at k1 <;> first | (cases k1; done) | skip
        rename_i bb q hbb hq
        injection hbb with hbb; subst hbb
        injection k1 with k1
        have hd2 := denL_drop o (denL_take (o + len) hd)
        have hvl := denL_length hd
        have hlen : ((vs.take (o + len)).drop o).length = len := by simp; omega
        have hrun := run_loadCells_at (P := P) (w := w) (b := b) (o := v.bas n + o) hlen (fun i y hy => by
          rw [Nat.add_assoc]
          refine hcell (o + i) y ?_
          rw [List.getElem?_drop] at hy
          rw [List.getElem?_take] at hy
          split at hy
          · exact hy
          · cases hy)
        have hb2 := bytesV_sound (P := P) (w := w) ByteArray.empty hd2 hbs
        refine ⟨.string ⟨bs.toArray⟩, rfl, ?_⟩
        simp only [execOp, ← k1, convert, Sem.run_bind, run_und hs, run_und hd', Result.andThen_ok, run_und he, Conv.bytesToString, hrun]
        simp only [List.forIn_toArray]
        erw [hb2]
        show Result.ok (Next.value (Value.string ⟨ByteArray.empty.data ++ bs.toArray⟩)) w = _
        rw [show ByteArray.empty.data = #[] from rfl, Array.empty_append]
  case entry z =>
    obtain ⟨z', hz, rfl⟩ := opt_map hc
    simp only [exr] at hx
    split at hx <;> first | (cases hx; done) | skip
    rename_i n e1
    split at hx <;> first | (cases hx; done) | skip
    rename_i m since seen last e2
    split at hx <;> first | (cases hx; done) | skip
    rename_i es clock e3
    cases hcl : Nat.beq clock last with
    | false => rw [hcl] at hx; cases hx
    | true =>
      rw [hcl] at hx; simp only [cond_true] at hx
      obtain rfl := Nat.eq_of_beq_eq_true hcl
      split at hx <;> first | (cases hx; done) | skip
      rename_i stamp e4
      split at hx <;> first | (cases hx; done) | skip
      rename_i en e5
      injection hx with hx; subst hx
      have k1 := A.sound ht hg hz e1
      obtain ⟨b, hb, mb, ⟨mb', hmb, hmb2⟩, ho, hbas⟩ := hh.ok n _ e2
      subst hmb2
      obtain ⟨b2, hb2, l, hl, ho2⟩ := hh.ok m _ e3
      rw [hmb] at hb2; injection hb2 with hb2; subst hb2
      simp only [den, hb, hbas] at k1; injection k1 with k1
      have hg1 : (getObj b).run P w = .ok (.mapIter (some mb') since seen.toArray clock) w := by simp [getObj, Sem.run, ho]
      have hg2 : (getObj mb').run P w = .ok (.map l.toArray clock) w := by simp [getObj, Sem.run, ho2]
      have hfind : ∀ {es : List (V × V × Nat)} {l : List MapEntry} {en : V × V × Nat}, denE v es = some l → es.find? (fun e => e.2.2 == stamp) = some en →
          ∃ ky xy, den v en.1 = some ky ∧ den v en.2.1 = some xy ∧ l.find? (fun e => e.born == stamp) = some ⟨ky, xy, en.2.2⟩ := by
        intro es
        induction es with
        | nil => intro l en h1 h2; simp at h2
        | cons e es ih =>
          intro l en h1 h2
          obtain ⟨k, x, bn⟩ := e
          simp only [denE] at h1
          cases q1 : den v k with
          | none => rw [q1] at h1; cases h1
          | some ky =>
            cases q2 : den v x with
            | none => rw [q1, q2] at h1; cases h1
            | some xy =>
              cases q3 : denE v es with
              | none => rw [q1, q2, q3] at h1; cases h1
              | some l' =>
                rw [q1, q2, q3] at h1; injection h1 with h1; subst h1
                rw [List.find?_cons] at h2 ⊢
                cases hbn : (bn == stamp) with
                | true => simp only [hbn] at h2 ⊢; injection h2 with h2; subst h2; exact ⟨ky, xy, q1, q2, rfl⟩
                | false => simp only [hbn] at h2 ⊢; exact ih q3 h2
      obtain ⟨ky, xy, q1, q2, q3⟩ := hfind hl e5
      refine ⟨.tuple #[ky, xy], by simp only [den, denL, q1, q2], ?_⟩
      have hback : seen.toArray.back? = some stamp := by rw [List.back?_toArray]; exact e4
      simp only [execOp, ← k1, Instr.entry, Sem.run_bind, hg1, hg2, Result.andThen_ok, hback, bne_self_eq_false, Bool.false_eq_true, if_false, List.find?_toArray, q3, Sem.run_pure]
  case call c =>
    obtain ⟨callee, args, ats⟩ := c
    cases callee <;> simp only at hc <;> first | (cases hc; done) | skip
    rename_i bi
    cases bi <;> simp only at hc <;> first | (cases hc; done) | skip
    split at hc <;> first | (cases hc; done) | skip
    rename_i z t' hargs hats
    obtain rfl : args = #[z] := by rw [← Array.toArray_toList (xs := args), hargs]
    obtain rfl : ats = #[t'] := by rw [← Array.toArray_toList (xs := ats), hats]
    split at hc <;> first | (cases hc; done) | skip
    rename_i kt et z' hs hz
    injection hc with hc; subst hc
    simp only [exr] at hx
    split at hx <;> first | (cases hx; done) | skip
    · rename_i e1
      injection hx with hx; subst hx
      have k1 := A.sound ht hg hz e1
      simp only [den] at k1; injection k1 with k1
      refine ⟨_, rfl, ?_⟩
      simp [execOp, resolve, invoke, builtin, Builtin.len_, ← k1, run_und hs, goInt]
    · rename_i n e1
      split at hx <;> first | (cases hx; done) | skip
      rename_i es clock e3
      injection hx with hx; subst hx
      have k1 := A.sound ht hg hz e1
      obtain ⟨b, hb, l, hl, ho⟩ := hh.ok n _ e3
      simp only [den, hb] at k1; injection k1 with k1
      have hget : (getObj b).run P w = .ok (.map l.toArray clock) w := by simp [getObj, Sem.run, ho]
      have hlen : ∀ {es : List (V × V × Nat)} {l : List MapEntry}, denE v es = some l → l.length = es.length := by
        intro es
        induction es with
        | nil => intro l h1; simp only [denE] at h1; injection h1 with h1; subst h1; rfl
        | cons e es ih =>
          intro l h1
          obtain ⟨k, x, bn⟩ := e
          simp only [denE] at h1
          cases q1 : den v k with
          | none => rw [q1] at h1; cases h1
          | some ky =>
            cases q2 : den v x with
            | none => rw [q1, q2] at h1; cases h1
            | some xy =>
              cases q3 : denE v es with
              | none => rw [q1, q2, q3] at h1; cases h1
              | some l' => rw [q1, q2, q3] at h1; injection h1 with h1; subst h1; simp [ih q3]
      refine ⟨_, rfl, ?_⟩
      simp [execOp, resolve, invoke, builtin, Builtin.len_, ← k1, run_und hs, goInt, hget, hlen hl]
end
end Go.Proofs.YtaaofanhjolikaaGreatDoor.Sx
