/- A machine of names: the operations that read no memory. Over any program. -/
import Derived.Test.YtaaofanhjolikaaGreatDoorSxBase
set_option linter.unusedVariables false
set_option linter.unusedSimpArgs false
namespace Go.Proofs.YtaaofanhjolikaaGreatDoor.Sx
open Go

/-- constants of the program's text -/
def ofLit : Value → Option V
  | .bool b => some (.bool b)
  | .int k n => some (.int k n)
  | .string s => some (.str s.data.toList)
  | .pointer none => some .ptr0
  | .slice none 0 0 => some .sl0
  | .map none => some .map0
  | .nilFunc => some .fnil
  | .nilIface => some .ifc0
  | _ => none
def ofLits : List Value → Option (List V)
  | [] => some []
  | x :: xs => match ofLit x, ofLits xs with
    | some a, some l => some (a :: l)
    | _, _ => none
/-- and of the zero values -/
def ofZero : Value → Option V
  | .agg l => (ofLits l.toList).map .agg
  | .tuple l => (ofLits l.toList).map .tup
  | x => ofLit x
theorem ofLit_den {v : Val} : ∀ {x : Value} {u : V}, ofLit x = some u → den v u = some x := by
  intro x u h
  unfold ofLit at h
  split at h <;> first | (injection h with h; subst h; simp [den]; done) | (cases h; done)
theorem ofLits_den {v : Val} : ∀ {x : List Value} {u : List V}, ofLits x = some u → denL v u = some x
  | [], u, h => by simp only [ofLits] at h; injection h with h; subst h; rfl
  | x :: xs, u, h => by
    simp only [ofLits] at h
    cases h1 : ofLit x with
    | none => rw [h1] at h; cases h
    | some a =>
      cases h2 : ofLits xs with
      | none => rw [h1, h2] at h; cases h
      | some l => rw [h1, h2] at h; injection h with h; subst h; exact denL_mk (ofLit_den h1) (ofLits_den h2)
theorem ofZero_den {v : Val} {x : Value} {u : V} (h : ofZero x = some u) : den v u = some x := by
  unfold ofZero at h
  split at h
  · rename_i l
    cases h1 : ofLits l.toList with
    | none => rw [h1] at h; cases h
    | some q => rw [h1] at h; injection h with h; subst h; simp [den, ofLits_den h1]
  · rename_i l
    cases h1 : ofLits l.toList with
    | none => rw [h1] at h; cases h
    | some q => rw [h1] at h; injection h with h; subst h; simp [den, ofLits_den h1]
  · exact ofLit_den h

/-- operands -/
inductive A where
  | t (i : Nat)
  | c (v : V)
def A.ev (t : T V) : A → Option V
  | .t i => t.get i
  | .c v => some v
def compA (G : Nat) : Operand → Option A
  | .tmp t => some (.t t)
  | .const v => (ofLit v).map .c
  | .global g => bif Nat.ble (g + 1) G then some (.c (.ptr g 0)) else none
  | .func f => some (.c (.fn f []))

/-- what the temporaries are known to hold -/
def TOk (v : Val) (t : T V) (a : Act) : Prop := ∀ i x, t.get i = some x → ∃ y, a.tmps[i]? = some y ∧ den v x = some y
/-- the program's own variables have their numbers for names; what is left open is of one cell -/
structure GOk (v : Val) (G : Nat) : Prop where
  blk : ∀ g, g < G → v.blk g = some g ∧ v.bas g = 0
  op : ∀ i, (v.op i).oneCell' = true
theorem TOk.le {v v' : Val} {t : T V} {a : Act} (h : TOk v t a) (hv : v.le v') : TOk v' t a := fun i x hx => by
  obtain ⟨y, h1, h2⟩ := h i x hx
  exact ⟨y, h1, den_le hv x y h2⟩
theorem GOk.le {v v' : Val} {G : Nat} (h : GOk v G) (hv : v.le v') : GOk v' G :=
  ⟨fun g hg => ⟨(hv.blk g g (h.blk g hg).1).1, ((hv.blk g g (h.blk g hg).1).2.1).trans (h.blk g hg).2⟩, by rw [hv.op]; exact h.op⟩
theorem TOk.put {v : Val} {t : T V} {a : Act} {d : Nat} {x : V} {y : Value} (h : TOk v t a) (hd : d < a.tmps.size) (hx : den v x = some y) : TOk v (t.set d x) (a.put (some d) y) := by
  intro i z hz
  rw [T.get_set] at hz
  by_cases hi : i = d
  · subst hi
    rw [if_pos rfl] at hz; injection hz with hz; subst hz
    exact ⟨y, by simp [Act.put, hd], hx⟩
  · rw [if_neg hi] at hz
    obtain ⟨u, h1, h2⟩ := h i z hz
    exact ⟨u, by simp only [Act.put]; rw [Array.getElem?_setIfInBounds_ne (fun e => hi e.symm)]; exact h1, h2⟩
theorem TOk.drop {v : Val} {t : T V} {a : Act} {d : Nat} {y : Value} (h : TOk v t a) : TOk v (t.del d) (a.put (some d) y) := by
  intro i z hz
  rw [T.get_del] at hz
  by_cases hi : i = d
  · rw [if_pos hi] at hz; cases hz
  · rw [if_neg hi] at hz
    obtain ⟨u, h1, h2⟩ := h i z hz
    exact ⟨u, by simp only [Act.put]; rw [Array.getElem?_setIfInBounds_ne (fun e => hi e.symm)]; exact h1, h2⟩
theorem A.sound {v : Val} {t : T V} {a : Act} {G : Nat} {x : Operand} {u : A} {z : V} (ht : TOk v t a) (hg : GOk v G) (hc : compA G x = some u) (hz : u.ev t = some z) : den v z = some (a.eval x) := by
  cases x with
  | tmp i =>
    simp only [compA] at hc; injection hc with hc; subst hc
    obtain ⟨y, h1, h2⟩ := ht i z hz
    rw [h2]; simp [Act.eval, h1]
  | const w =>
    simp only [compA] at hc
    cases h1 : ofLit w with
    | none => rw [h1] at hc; cases hc
    | some q => rw [h1] at hc; injection hc with hc; subst hc; simp only [A.ev] at hz; injection hz with hz; subst hz; exact ofLit_den h1
  | global g =>
    simp only [compA] at hc
    cases hb : Nat.ble (g + 1) G with
    | false => rw [hb] at hc; cases hc
    | true =>
      rw [hb] at hc; simp only [cond_true] at hc; injection hc with hc; subst hc
      simp only [A.ev] at hz; injection hz with hz; subst hz
      obtain ⟨h1, h2⟩ := hg.blk g (Nat.le_of_ble_eq_true hb)
      simp [den, h1, h2, Act.eval]
  | func f => simp only [compA] at hc; injection hc with hc; subst hc; simp only [A.ev] at hz; injection hz with hz; subst hz; simp [den, denL, Act.eval]

def compAs (G : Nat) : List Operand → Option (List A)
  | [] => some []
  | x :: xs => match compA G x, compAs G xs with
    | some a, some l => some (a :: l)
    | _, _ => none
def evs (t : T V) : List A → Option (List V)
  | [] => some []
  | x :: xs => match x.ev t, evs t xs with
    | some a, some l => some (a :: l)
    | _, _ => none
theorem As.sound {v : Val} {t : T V} {a : Act} {G : Nat} (ht : TOk v t a) (hg : GOk v G) : ∀ {x : List Operand} {u : List A} {z : List V}, compAs G x = some u → evs t u = some z → denL v z = some (x.map a.eval)
  | [], u, z, hc, hz => by
    simp only [compAs] at hc; injection hc with hc; subst hc; simp only [evs] at hz; injection hz with hz; subst hz; rfl
  | x :: xs, u, z, hc, hz => by
    simp only [compAs] at hc
    cases h1 : compA G x with
    | none => rw [h1] at hc; cases hc
    | some p =>
      cases h2 : compAs G xs with
      | none => rw [h1, h2] at hc; cases hc
      | some l =>
        rw [h1, h2] at hc; injection hc with hc; subst hc
        simp only [evs] at hz
        cases h3 : p.ev t with
        | none => rw [h3] at hz; cases hz
        | some q =>
          cases h4 : evs t l with
          | none => rw [h3, h4] at hz; cases hz
          | some r => rw [h3, h4] at hz; injection hz with hz; subst hz; exact denL_mk (A.sound ht hg h1 h3) (As.sound ht hg h2 h4)

/-- what is compared -/
inductive EK where
  | bool | ptr | slice | map | func | iface | other
def ekOf : Option TypeDesc → EK
  | some .bool => .bool
  | some (.pointer _) => .ptr
  | some (.slice _) => .slice
  | some (.map _ _) => .map
  | some (.func _ _ _) => .func
  | some (.interface _) => .iface
  | _ => .other

def bitsOf (op : BinOp) (k : IntKind) (x y : Int) : Option Int :=
  match op with
  | .and => some (k.wrap (BitVec.ofInt k.bits x &&& BitVec.ofInt k.bits y).toNat)
  | .or => some (k.wrap (BitVec.ofInt k.bits x ||| BitVec.ofInt k.bits y).toNat)
  | .xor => some (k.wrap (BitVec.ofInt k.bits x ^^^ BitVec.ofInt k.bits y).toNat)
  | .andNot => some (k.wrap (BitVec.ofInt k.bits x &&& ~~~ BitVec.ofInt k.bits y).toNat)
  | _ => none
def intBin (op : BinOp) (k : IntKind) (x y : Int) : Option V :=
  match op with
  | .add => some (.int k (k.wrap (x + y)))
  | .sub => some (.int k (k.wrap (x - y)))
  | .mul => some (.int k (k.wrap (x * y)))
  | .quo => if y = 0 then none else some (.int k (k.wrap (x.tdiv y)))
  | .rem => if y = 0 then none else some (.int k (x.tmod y))
  | .eql => some (.bool (x == y))
  | .neq => some (.bool (x != y))
  | .lss => some (.bool (x < y))
  | .leq => some (.bool (x ≤ y))
  | .gtr => some (.bool (x > y))
  | .geq => some (.bool (x ≥ y))
  | .shl => none
  | .shr => none
  | op => (bitsOf op k x y).map (.int k)
def shiftBin (op : BinOp) (k : IntKind) (x y : Int) : Option V :=
  if y < 0 then none else
  match op with
  | .shl => some (.int k (k.wrap (x * 2 ^ (min y.toNat k.bits))))
  | .shr => some (.int k (x.fdiv (2 ^ (min y.toNat k.bits))))
  | _ => none
def strBin (op : BinOp) (x y : List UInt8) : Option V :=
  match op with
  | .add => if ((x.length + y.length : Nat) : Int) > IntKind.i64.max then none else some (.str (x ++ y))
  | .eql => some (.bool (x == y))
  | .neq => some (.bool (!(x == y)))
  | .lss => some (.bool (Op.bytesLess x y))
  | .leq => some (.bool (Op.bytesLess x y || x == y))
  | .gtr => some (.bool (!(Op.bytesLess x y || x == y)))
  | .geq => some (.bool (!Op.bytesLess x y))
  | _ => none
def eqv (e : EK) (x y : V) : Option Bool :=
  match e, x, y with
  | .bool, .bool a, .bool b => some (a == b)
  | .ptr, .ptr0, .ptr0 => some true
  | .ptr, .ptr0, .ptr _ _ => some false
  | .ptr, .ptr _ _, .ptr0 => some false
  | .slice, .sl0, .sl0 => some true
  | .slice, .sl _ _ _ _, .sl0 => some false
  | .slice, .sl0, .sl _ _ _ _ => some false
  | .map, .map0, .map0 => some true
  | .map, .map _, .map0 => some false
  | .map, .map0, .map _ => some false
  | .func, .fnil, .fnil => some true
  | .func, .fnil, .fn _ _ => some false
  | .func, .fn _ _, .fnil => some false
  | .iface, .ifc0, .ifc _ _ => some false
  | .iface, .ifc _ _, .ifc0 => some false
  | _, _, _ => none
def linC (op : BinOp) (c : Int) (i : Nat) (lo hi : Int) (s : Bool) (k : Int) : Option V :=
  match op with
  | .add => if -9223372036854775808 ≤ lo + c + k ∧ hi + c + k ≤ 9223372036854775807 then some (.lin (c + k) i lo hi s) else none
  | .sub => if -9223372036854775808 ≤ lo + c - k ∧ hi + c - k ≤ 9223372036854775807 then some (.lin (c - k) i lo hi s) else none
  | .lss => if hi + c < k then some (.bool true) else if k ≤ lo + c then some (.bool false) else none
  | .leq => if hi + c ≤ k then some (.bool true) else if k < lo + c then some (.bool false) else none
  | .gtr => if k < lo + c then some (.bool true) else if hi + c ≤ k then some (.bool false) else none
  | .geq => if k ≤ lo + c then some (.bool true) else if hi + c < k then some (.bool false) else none
  | .eql => if hi + c < k ∨ k < lo + c then some (.bool false) else if lo + c = k ∧ hi + c = k then some (.bool true) else none
  | .neq => if hi + c < k ∨ k < lo + c then some (.bool true) else if lo + c = k ∧ hi + c = k then some (.bool false) else none
  | _ => none
def flipOp : BinOp → Option BinOp
  | .add => some .add
  | .lss => some .gtr
  | .leq => some .geq
  | .gtr => some .lss
  | .geq => some .leq
  | .eql => some .eql
  | .neq => some .neq
  | _ => none
def linL (op : BinOp) (c c' : Int) : Option V :=
  match op with
  | .sub => if -9223372036854775808 ≤ c - c' ∧ c - c' ≤ 9223372036854775807 then some (.int .i64 (c - c')) else none
  | .lss => some (.bool (decide (c < c')))
  | .leq => some (.bool (decide (c ≤ c')))
  | .gtr => some (.bool (decide (c > c')))
  | .geq => some (.bool (decide (c ≥ c')))
  | .eql => some (.bool (decide (c = c')))
  | .neq => some (.bool (!decide (c = c')))
  | _ => none
def linBin (op : BinOp) (x y : V) : Option V :=
  match x, y with
  | .lin c i lo hi s, .int .i64 k => linC op c i lo hi s k
  | .int .i64 k, .lin c i lo hi s => match op with
    | .sub => if -9223372036854775808 ≤ -hi + (k - c) ∧ -lo + (k - c) ≤ 9223372036854775807 then some (.lin (k - c) i (-hi) (-lo) (!s)) else none
    | op => match flipOp op with
      | some op' => linC op' c i lo hi s k
      | none => none
  | .lin c i _ _ s, .lin c' i' _ _ s' => if i = i' ∧ s = s' then linL op c c' else none
  | _, _ => none
def exBin (op : BinOp) (e : EK) (x y : V) : Option V :=
  match x, y with
  | .int k a, .int k' b => match op with
    | .shl => shiftBin .shl k a b
    | .shr => shiftBin .shr k a b
    | op => if k = k' then intBin op k a b else none
  | .str a, .str b => strBin op a b
  | x, y => match linBin op x y with
    | some r => some r
    | none => match op with
      | .eql => (eqv e x y).map .bool
      | .neq => (eqv e x y).map fun b => .bool (!b)
      | _ => none

section
variable {P : Program} {w : World}
theorem run_und {t : TypeId} {d : TypeDesc} (h : P.underlying t = some d) : (underlying t).run P w = .ok d w := run_underlying h w

theorem equal_head {t : TypeId} {d : TypeDesc} (a b : Value) {x : Bool} (hr : (underlying t).run P w = .ok d w)
    (h : (match d, a, b with
      | .bool, .bool a, .bool b => some (a == b)
      | .pointer _, .pointer none, .pointer b => some b.isNone
      | .pointer _, .pointer (some _), .pointer none => some false
      | .interface _, .nilIface, .iface _ _ => some false
      | .interface _, .iface _ _, .nilIface => some false
      | .slice _, .slice none _ _, .slice b _ _ => some b.isNone
      | .slice _, .slice (some _) _ _, .slice none _ _ => some false
      | .map _ _, .map none, .map b => some b.isNone
      | .map _ _, .map (some _), .map none => some false
      | .func _ _ _, .nilFunc, .nilFunc => some true
      | .func _ _ _, .nilFunc, .func _ _ _ => some false
      | .func _ _ _, .func _ _ _, .nilFunc => some false
      | _, _, _ => none) = some x) : (Op.equal t a b).run P w = .ok x w := by
  rw [Op.equal, Op.maxDepth, Op.equalIn, Sem.run_bind, hr, Result.andThen_ok]
  split at h <;> first | (cases h; done) | (injection h with h; subst h; rfl)

theorem ekOf_inv {d : TypeDesc} {e : EK} (h : ekOf (some d) = e) : match e with
    | .bool => d = .bool | .ptr => ∃ x, d = .pointer x | .slice => ∃ x, d = .slice x | .map => ∃ x y, d = .map x y | .func => ∃ x y z, d = .func x y z | .iface => ∃ x, d = .interface x | .other => True := by
  subst h
  cases d <;> simp [ekOf]

theorem eqv_sound {v : Val} {t : TypeId} {x y : V} {a b : Value} {r : Bool} (hx : den v x = some a) (hy : den v y = some b) (h : eqv (ekOf (P.underlying t)) x y = some r) : (Op.equal t a b).run P w = .ok r w := by
  cases hu : P.underlying t with
  | none => rw [hu] at h; simp [ekOf, eqv] at h
  | some d =>
    rw [hu] at h
    have hr : (underlying t).run P w = .ok d w := run_und hu
    refine equal_head a b hr ?_
    generalize he : ekOf (some d) = e at h
    have hi := ekOf_inv he
    unfold eqv at h
    split at h <;> first | (cases h; done) | skip
    all_goals (simp only at hi; simp only [den] at hx hy)
    all_goals (injection h with h; subst h)
    all_goals first
      | subst hi
      | (obtain ⟨_, _, _, rfl⟩ := hi)
      | (obtain ⟨_, _, rfl⟩ := hi)
      | (obtain ⟨_, rfl⟩ := hi)
    all_goals first
      | (injection hx with hx; subst hx; injection hy with hy; subst hy; rfl)
      | (split at hx <;> first | (cases hx; done) | (injection hx with hx; subst hx; injection hy with hy; subst hy; rfl))
      | (split at hy <;> first | (cases hy; done) | (injection hx with hx; subst hx; injection hy with hy; subst hy; rfl))

theorem bitsOf_sound {op : BinOp} {k : IntKind} {x y r : Int} (h : bitsOf op k x y = some r) : (Op.intBits op k x y).run P w = .ok (.int k r) w := by
  cases op <;> simp only [bitsOf] at h <;> first | (cases h; done) | (injection h with h; subst h; rfl)
theorem intBin_sound {op : BinOp} {t : TypeId} {k : IntKind} {a b : Int} {r : V} (h : intBin op k a b = some r) :
    ∃ y, (∀ v : Val, den v r = some y) ∧ (binOp op t (.int k a) (.int k b)).run P w = .ok y w := by
  cases op <;> simp only [intBin] at h
  case shl => cases h
  case shr => cases h
  case quo =>
    by_cases hb : b = 0
    · rw [if_pos hb] at h; cases h
    · rw [if_neg hb] at h; injection h with h; subst h
      exact ⟨_, fun v => rfl, by simp [binOp, Op.intDiv, hb]⟩
  case rem =>
    by_cases hb : b = 0
    · rw [if_pos hb] at h; cases h
    · rw [if_neg hb] at h; injection h with h; subst h
      exact ⟨_, fun v => rfl, by simp [binOp, Op.intDiv, hb]⟩
  all_goals first
    | (injection h with h; subst h; exact ⟨_, fun v => rfl, by simp only [binOp, Op.intArith, Op.intCmp, ne_eq, not_true_eq_false, if_false]; rfl⟩)
    | skip
  all_goals
    cases hb : bitsOf _ k a b with
    | none => rw [hb] at h; cases h
    | some q =>
      rw [hb] at h; injection h with h; subst h
      exact ⟨_, fun v => rfl, by
        have := bitsOf_sound (P := P) (w := w) hb
        simp only [binOp, ne_eq, not_true_eq_false, if_false]
        exact this⟩
theorem shiftBin_sound {op : BinOp} {t : TypeId} {k k' : IntKind} {a b : Int} {r : V} (h : shiftBin op k a b = some r) (ho : op = .shl ∨ op = .shr) :
    ∃ y, (∀ v : Val, den v r = some y) ∧ (binOp op t (.int k a) (.int k' b)).run P w = .ok y w := by
  unfold shiftBin at h
  by_cases hb : b < 0
  · rw [if_pos hb] at h; cases h
  · rw [if_neg hb] at h
    rcases ho with rfl | rfl
    · injection h with h; subst h; exact ⟨_, fun v => rfl, by simp [binOp, Op.shift, hb]⟩
    · injection h with h; subst h; exact ⟨_, fun v => rfl, by simp [binOp, Op.shift, hb]⟩
theorem bytes_toList (l : List UInt8) : (ByteArray.mk l.toArray).toList = l := by
  have h1 : ∀ (n : Nat) (b : ByteArray) (i : Nat) (r : List UInt8), b.size - i = n → ByteArray.toList.loop b i r = r.reverse ++ b.data.toList.drop i := by
    intro n
    induction n with
    | zero =>
      intro b i r hn
      unfold ByteArray.toList.loop
      rw [if_neg (by omega)]
      have hsz : b.size = b.data.toList.length := by rw [Array.length_toList]; rfl
      have : b.data.toList.drop i = [] := List.drop_eq_nil_of_le (by omega)
      rw [this, List.append_nil]
    | succ n ih =>
      intro b i r hn
      unfold ByteArray.toList.loop
      have hsz : b.size = b.data.toList.length := by rw [Array.length_toList]; rfl
      rw [if_pos (by omega), ih _ _ _ (by omega)]
      have hlt : i < b.data.toList.length := by omega
      have hlt2 : i < b.data.size := by rw [← Array.length_toList]; exact hlt
      rw [List.drop_eq_getElem_cons hlt]
      have hg : b.get! i = b.data.toList[i] := by
        show b.data[i]! = _
        rw [getElem!_pos b.data i hlt2, Array.getElem_toList]
      rw [hg, List.reverse_cons, List.append_assoc, List.singleton_append]
  unfold ByteArray.toList
  rw [h1 _ _ 0 [] rfl]
  rfl
theorem strBin_sound {op : BinOp} {t : TypeId} {a b : List UInt8} {r : V} (h : strBin op a b = some r) :
    ∃ y, (∀ v : Val, den v r = some y) ∧ (binOp op t (.string ⟨a.toArray⟩) (.string ⟨b.toArray⟩)).run P w = .ok y w := by
  have hs : ∀ l : List UInt8, (ByteArray.mk l.toArray).size = l.length := fun l => by simp [ByteArray.size]
  have hrun : ∀ (op : BinOp), (binOp op t (.string ⟨a.toArray⟩) (.string ⟨b.toArray⟩)).run P w = (Op.stringOp op ⟨a.toArray⟩ ⟨b.toArray⟩).run P w := fun op => by cases op <;> rfl
  cases op <;> simp only [strBin] at h
  case add =>
    by_cases hb : ((a.length + b.length : Nat) : Int) > IntKind.i64.max
    · rw [if_pos hb] at h; cases h
    · rw [if_neg hb] at h; injection h with h; subst h
      refine ⟨_, fun v => rfl, ?_⟩
      rw [hrun]
      simp only [Op.stringOp, hs]
      rw [if_neg hb]
      have : (ByteArray.mk a.toArray ++ ByteArray.mk b.toArray) = ByteArray.mk (a ++ b).toArray := by
        apply ByteArray.ext
        simp [ByteArray.data_append]
      rw [this]; rfl
  all_goals first
    | (cases h; done)
    | (injection h with h; subst h; refine ⟨_, fun v => rfl, ?_⟩; rw [hrun]; simp only [Op.stringOp, bytes_toList]; rfl)

theorem eqGuard_of {op : BinOp} {t : TypeId} {x y : Operand} {v : Val} {p q : V} {a b : Value} {e : EK} {r : Bool} (hx : den v p = some a) (hy : den v q = some b) (h : eqv e p q = some r) : eqGuard op t x y a b = pure () := by
  unfold eqv at h
  split at h <;> first | (cases h; done) | skip
  all_goals (simp only [den] at hx hy)
  all_goals first
    | (injection hx with hx; subst hx; injection hy with hy; subst hy; cases op <;> rfl)
    | (split at hx <;> first | (cases hx; done) | (injection hx with hx; subst hx; injection hy with hy; subst hy; cases op <;> rfl))
    | (split at hy <;> first | (cases hy; done) | (injection hx with hx; subst hx; injection hy with hy; subst hy; cases op <;> rfl))
theorem binOp_eql_of {t : TypeId} {v : Val} {p q : V} {a b : Value} {e : EK} {r : Bool} (hx : den v p = some a) (hy : den v q = some b) (h : eqv e p q = some r) :
    binOp .eql t a b = (do pure (.bool (← Op.equal t a b))) ∧ binOp .neq t a b = (do pure (.bool (!(← Op.equal t a b)))) := by
  unfold eqv at h
  split at h <;> first | (cases h; done) | skip
  all_goals (simp only [den] at hx hy)
  all_goals first
    | (injection hx with hx; subst hx; injection hy with hy; subst hy; exact ⟨rfl, rfl⟩)
    | (split at hx <;> first | (cases hx; done) | (injection hx with hx; subst hx; injection hy with hy; subst hy; exact ⟨rfl, rfl⟩))
    | (split at hy <;> first | (cases hy; done) | (injection hx with hx; subst hx; injection hy with hy; subst hy; exact ⟨rfl, rfl⟩))

theorem wrap_in {n : Int} (h1 : -9223372036854775808 ≤ n) (h2 : n ≤ 9223372036854775807) : IntKind.i64.wrap n = n := by
  have hb : ((2 : Int) ^ IntKind.i64.bits) = 18446744073709551616 := by decide
  have hb2 : ((2 : Int) ^ (IntKind.i64.bits - 1)) = 9223372036854775808 := by decide
  have hs : IntKind.i64.signed = true := rfl
  simp only [IntKind.wrap, hb, hb2, hs, Bool.true_and, decide_eq_true_eq]
  split <;> omega
theorem linC_sound {op : BinOp} {t : TypeId} {v : Val} {c lo hi k n : Int} {i : Nat} {s : Bool} {r : V} (h1 : lo ≤ sgn s n) (h2 : sgn s n ≤ hi) (hn : v.op i = .int .i64 n) (h : linC op c i lo hi s k = some r) :
    ∃ y, den v r = some y ∧ (binOp op t (.int .i64 (sgn s n + c)) (.int .i64 k)).run P w = .ok y w := by
  have hI : ∀ {r' : V}, intBin op .i64 (sgn s n + c) k = some r' → (∃ y, (∀ v : Val, den v r' = some y) ∧ (binOp op t (.int .i64 (sgn s n + c)) (.int .i64 k)).run P w = .ok y w) := fun h => intBin_sound h
  cases op <;> simp only [linC] at h <;> first | (cases h; done) | skip
  case add =>
    split at h
    · rename_i hb
      injection h with h; subst h
      obtain ⟨y, hy, hr⟩ := hI rfl
      refine ⟨y, ?_, hr⟩
      rw [← hy v]
      simp only [den, hn]
      rw [linD_mk h1 h2, wrap_in (by omega) (by omega), Int.add_assoc]
    · cases h
  case sub =>
    split at h
    · rename_i hb
      injection h with h; subst h
      obtain ⟨y, hy, hr⟩ := hI rfl
      refine ⟨y, ?_, hr⟩
      rw [← hy v]
      simp only [den, hn]
      rw [linD_mk h1 h2, wrap_in (by omega) (by omega), show sgn s n + (c - k) = sgn s n + c - k by omega]
    · cases h
  all_goals
    obtain ⟨y, hy, hr⟩ := hI rfl
    refine ⟨y, ?_, hr⟩
    rw [← hy v]
    split at h
    · rename_i hb
      injection h with h; subst h
      simp only [den]
      congr 2
      simp only [eq_comm (a := true), eq_comm (a := false), decide_eq_true_eq, decide_eq_false_iff_not, beq_iff_eq, beq_eq_false_iff_ne, bne_iff_ne, bne_eq_false_iff_eq, ne_eq]
      omega
    · split at h
      · rename_i hb
        injection h with h; subst h
        simp only [den]
        congr 2
        simp only [eq_comm (a := true), eq_comm (a := false), decide_eq_true_eq, decide_eq_false_iff_not, beq_iff_eq, beq_eq_false_iff_ne, bne_iff_ne, bne_eq_false_iff_eq, ne_eq]
        omega
      · cases h
theorem linL_sound {op : BinOp} {t : TypeId} {v : Val} {c c' n : Int} {r : V} (h : linL op c c' = some r) :
    ∃ y, den v r = some y ∧ (binOp op t (.int .i64 (n + c)) (.int .i64 (n + c'))).run P w = .ok y w := by
  have hI : ∀ {r' : V}, intBin op .i64 (n + c) (n + c') = some r' → (∃ y, (∀ v : Val, den v r' = some y) ∧ (binOp op t (.int .i64 (n + c)) (.int .i64 (n + c'))).run P w = .ok y w) := fun h => intBin_sound h
  cases op <;> simp only [linL] at h <;> first | (cases h; done) | skip
  case sub =>
    split at h
    · rename_i hb
      injection h with h; subst h
      obtain ⟨y, hy, hr⟩ := hI rfl
      refine ⟨y, ?_, hr⟩
      rw [← hy v, show n + c - (n + c') = c - c' by omega, wrap_in hb.1 hb.2]
    · cases h
  all_goals
    injection h with h; subst h
    obtain ⟨y, hy, hr⟩ := hI rfl
    refine ⟨y, ?_, hr⟩
    rw [← hy v]
    simp only [den]
    congr 2
    rw [Bool.eq_iff_iff]
    simp only [decide_eq_true_eq, Bool.not_eq_true', decide_eq_false_iff_not, beq_iff_eq, bne_iff_ne, ne_eq]
    omega
theorem flip_run {op op' : BinOp} {t : TypeId} {a b : Int} (h : flipOp op = some op') : (binOp op t (.int .i64 a) (.int .i64 b)).run P w = (binOp op' t (.int .i64 b) (.int .i64 a)).run P w := by
  cases op <;> simp only [flipOp] at h <;> first | (cases h; done) | (injection h with h; subst h)
  all_goals simp only [binOp, Op.intArith, Op.intCmp, ne_eq, not_true_eq_false, if_false]
  · rw [Int.add_comm]
  all_goals first | rfl | (congr 3; first | exact Bool.beq_comm | exact bne_comm | (rw [Bool.eq_iff_iff, beq_iff_eq, beq_iff_eq]; exact eq_comm) | (rw [Bool.eq_iff_iff, bne_iff_ne, bne_iff_ne]; exact ne_comm))
theorem linBin_sound {op : BinOp} {t : TypeId} {v : Val} {p q r : V} {a b : Value} (hx : den v p = some a) (hy : den v q = some b) (h : linBin op p q = some r) :
    ∃ m n, a = .int .i64 m ∧ b = .int .i64 n ∧ ∃ y, den v r = some y ∧ (binOp op t a b).run P w = .ok y w := by
  unfold linBin at h
  split at h
  · simp only [den] at hx hy
    obtain ⟨n, hn, h1, h2, rfl⟩ := linD_eq hx
    injection hy with hy; subst hy
    exact ⟨_, _, rfl, rfl, linC_sound h1 h2 hn h⟩
  · rename_i k c i lo hi s
    simp only [den] at hx hy
    obtain ⟨n, hn, h1, h2, rfl⟩ := linD_eq hy
    injection hx with hx; subst hx
    split at h
    · split at h
      · rename_i hb
        injection h with h; subst h
        obtain ⟨y, hy, hr⟩ := intBin_sound (P := P) (w := w) (t := t) (op := .sub) (k := .i64) (a := k) (b := sgn s n + c) rfl
        refine ⟨_, _, rfl, rfl, y, ?_, hr⟩
        rw [← hy v]
        have hs := sgn_not s n
        simp only [den, hn]
        rw [linD_mk (by omega) (by omega), wrap_in (by omega) (by omega), show sgn (!s) n + (k - c) = k - (sgn s n + c) by omega]
      · cases h
    · split at h
      · rename_i op' hop
        rw [flip_run hop]
        exact ⟨_, _, rfl, rfl, linC_sound h1 h2 hn h⟩
      · cases h
  · simp only [den] at hx hy
    obtain ⟨n, hn, h1, h2, rfl⟩ := linD_eq hx
    obtain ⟨n', hn', h1', h2', rfl⟩ := linD_eq hy
    split at h
    · rename_i hi
      obtain ⟨hi, hs⟩ := hi
      subst hi; subst hs
      rw [hn] at hn'; injection hn' with _ hn'; subst hn'
      exact ⟨_, _, rfl, rfl, linL_sound h⟩
    · cases h
  · cases h

theorem exBin_sound {op : BinOp} {t : TypeId} {X Y : Operand} {v : Val} {p q r : V} {a b : Value} (hx : den v p = some a) (hy : den v q = some b) (h : exBin op (ekOf (P.underlying t)) p q = some r) :
    ∃ y, den v r = some y ∧ (do eqGuard op t X Y a b; binOp op t a b : Sem Value).run P w = .ok y w := by
  unfold exBin at h
  split at h
  · rename_i k m k' n
    simp only [den] at hx hy
    injection hx with hx; subst hx; injection hy with hy; subst hy
    have hg : eqGuard op t X Y (.int k m) (.int k' n) = pure () := by cases op <;> rfl
    rw [hg]
    split at h
    · obtain ⟨y, h1, h2⟩ := shiftBin_sound (P := P) (w := w) (t := t) (k' := k') h (.inl rfl)
      exact ⟨y, h1 v, by simpa using h2⟩
    · obtain ⟨y, h1, h2⟩ := shiftBin_sound (P := P) (w := w) (t := t) (k' := k') h (.inr rfl)
      exact ⟨y, h1 v, by simpa using h2⟩
    · by_cases hk : k = k'
      · subst hk
        rw [if_pos rfl] at h
        obtain ⟨y, h1, h2⟩ := intBin_sound (P := P) (w := w) (t := t) h
        exact ⟨y, h1 v, by simpa using h2⟩
      · rw [if_neg hk] at h; cases h
  · rename_i m n
    simp only [den] at hx hy
    injection hx with hx; subst hx; injection hy with hy; subst hy
    have hg : eqGuard op t X Y (.string ⟨m.toArray⟩) (.string ⟨n.toArray⟩) = pure () := by cases op <;> rfl
    rw [hg]
    obtain ⟨y, h1, h2⟩ := strBin_sound (P := P) (w := w) (t := t) h
    exact ⟨y, h1 v, by simpa using h2⟩
  · split at h
    · rename_i r' hl
      injection h with h; subst h
      obtain ⟨m, n, rfl, rfl, y, h1, h2⟩ := linBin_sound (P := P) (w := w) (t := t) hx hy hl
      have hg : eqGuard op t X Y (.int .i64 m) (.int .i64 n) = pure () := by cases op <;> rfl
      rw [hg]
      exact ⟨y, h1, by simpa using h2⟩
    split at h
    · cases he : eqv (ekOf (P.underlying t)) p q with
      | none => rw [he] at h; cases h
      | some r' =>
        rw [he] at h; injection h with h; subst h
        rw [eqGuard_of hx hy he, (binOp_eql_of (t := t) hx hy he).1]
        exact ⟨.bool r', rfl, by simp [eqv_sound (P := P) (w := w) hx hy he]⟩
    · cases he : eqv (ekOf (P.underlying t)) p q with
      | none => rw [he] at h; cases h
      | some r' =>
        rw [he] at h; injection h with h; subst h
        rw [eqGuard_of hx hy he, (binOp_eql_of (t := t) hx hy he).2]
        exact ⟨.bool (!r'), rfl, by simp [eqv_sound (P := P) (w := w) hx hy he]⟩
    · cases h
end
end Go.Proofs.YtaaofanhjolikaaGreatDoor.Sx
