/- A machine of names: the operations that read no memory, told as a table. Over any program. -/
import Derived.Test.YtaaofanhjolikaaGreatDoorSxPure
set_option linter.unusedVariables false
set_option linter.unusedSimpArgs false
namespace Go.Proofs.YtaaofanhjolikaaGreatDoor.Sx
open Go

inductive Q where
  | mov (x : A)
  | pick (c a b : A)
  | nilck (x : A)
  | bin (op : BinOp) (e : EK) (x y : A)
  | un (op : UnOp) (x : A)
  | convI (k : IntKind) (x : A)
  | convS (x : A)
  | mkI (t : Nat) (x : A)
  | fldA (off : Nat) (x : A)
  | fld (agg : Bool) (off sz : Nat) (x : A)
  | idxA (esz : Nat) (x i : A)
  | idxAA (len esz : Nat) (x i : A)
  | idxS (x i : A)
  | idxG (agg : Bool) (len esz : Nat) (x i : A)
  | slS (x : A) (lo hi : Option A)
  | slL (esz : Nat) (x : A) (lo hi mx : Option A)
  | slA (n esz : Nat) (x : A) (lo hi mx : Option A)
  | arrP (n : Nat) (x : A)
  | mkF (f : Nat) (caps : List A)
  | ext (x : A) (i : Nat)
  | build (z : List V) (places : List (Nat × Nat)) (parts : List (Nat × A))
  | buildA (z : List V) (esz : Nat) (parts : List (Nat × A))
  | lenS (x : A)
  | lenL (x : A)
  | lenC (n : Nat)
  | cap (x : A)
  | min2 (x y : A)
  | max2 (x y : A)

def V.cells : V → List V
  | .agg l => l
  | x => [x]

/-- one bound of a slice -/
def bnd (x : Option V) (hi d : Nat) : Option Nat :=
  match x with
  | none => some d
  | some (.int _ i) => if 0 ≤ i ∧ i ≤ hi then some i.toNat else none
  | some _ => none
def bnds (mx hi lo : Option V) (len cap : Nat) : Option (Nat × Nat × Nat) :=
  match mx, hi with
  | some _, none => none
  | mx, hi => match bnd mx cap cap with
    | none => none
    | some m => match bnd hi m len with
      | none => none
      | some h => match bnd lo h 0 with
        | none => none
        | some l => some (l, h, m)
def oev (t : T V) : Option A → Option (Option V)
  | none => some none
  | some x => match x.ev t with
    | some v => some (some v)
    | none => none

def slStr (s : List UInt8) (lo hi : Option V) : Option V :=
  match bnds none hi lo s.length s.length with
  | some (l, h, _) => some (.str ((s.take h).drop l))
  | none => none
def slSl (me esz : Nat) (x : V) (lo hi mx : Option V) : Option V :=
  match x with
  | .sl0 => match bnds mx hi lo 0 0 with
    | some (l, h, m) => some .sl0
    | none => none
  | .sl n o len (.kn c) => match bnds mx hi lo len c with
    | some (l, h, m) => some (.sl n (if m = l then o else o + l * esz) (h - l) (.kn (m - l)))
    | none => none
  | .sl n o len (.op d) => match mx with
    | some _ => match bnds mx hi lo len len with
      | some (l, h, m) => some (.sl n (if m = l then o else o + l * esz) (h - l) (.kn (m - l)))
      | none => none
    | none => match bnds none hi lo len len with
      | some (l, h, _) =>
        if l = 0 then some (.sl n o h (.op d))
        else if l < len then some (.sl n (o + l * esz) (h - l) (.op (d + l)))
        else some (.sl me 0 0 (.op 0))
      | none => none
  | _ => none
def slArr (n esz : Nat) (x : V) (lo hi mx : Option V) : Option V :=
  match x with
  | .ptr a o => match bnds mx hi lo n n with
    | some (l, h, m) => some (.sl a (if m = l then o else o + l * esz) (h - l) (.kn (m - l)))
    | none => none
  | _ => none

def setAll (cs : List V) (off : Nat) : List V → List V
  | [] => cs
  | x :: xs => setAll (cs.set off x) (off + 1) xs
def fillV (place : Nat → Option (Nat × Nat)) (cs : List V) : List (Nat × V) → Option (List V)
  | [] => some cs
  | (i, v) :: rest =>
    match place i with
    | none => none
    | some (off, size) => if v.cells.length ≠ size || off + v.cells.length > cs.length then none else fillV place (setAll cs off v.cells) rest
def evp (t : T V) : List (Nat × A) → Option (List (Nat × V))
  | [] => some []
  | (i, x) :: xs => match x.ev t, evp t xs with
    | some a, some l => some ((i, a) :: l)
    | _, _ => none
def places (l : List (Nat × Nat)) (i : Nat) : Option (Nat × Nat) := l[i]?

def exq (me : Nat) (q : Q) (t : T V) : Option V :=
  match q with
  | .mov x => x.ev t
  | .pick c a b => match c.ev t, a.ev t, b.ev t with
    | some (.bool c), some a, some b => some (if c then a else b)
    | _, _, _ => none
  | .nilck x => match x.ev t with
    | some (.ptr n o) => some (.ptr n o)
    | some (.fn f c) => some (.fn f c)
    | _ => none
  | .bin op e x y => match x.ev t, y.ev t with
    | some a, some b => exBin op e a b
    | _, _ => none
  | .un op x => match op, x.ev t with
    | .neg, some (.int k n) => intBin .sub k 0 n
    | .xor, some (.int k n) => (bitsOf .xor k (if k.signed then -1 else k.max) n).map (.int k)
    | .not, some (.bool b) => some (.bool !b)
    | _, _ => none
  | .convI k x => match x.ev t with
    | some (.int _ n) => some (.int k (k.wrap n))
    | _ => none
  | .convS x => match x.ev t with
    | some (.str s) => some (.str s)
    | _ => none
  | .mkI ty x => (x.ev t).map (.ifc ty)
  | .fldA off x => match x.ev t with
    | some (.ptr n o) => some (.ptr n (o + off))
    | _ => none
  | .fld agg off sz x => match x.ev t with
    | some (.agg cs) => if agg then some (.agg ((cs.take (off + sz)).drop off)) else cs[off]?
    | _ => none
  | .idxA esz x i => match x.ev t, i.ev t with
    | some (.sl n o len _), some (.int _ i) => if 0 ≤ i ∧ i < len then some (.ptr n (o + i.toNat * esz)) else none
    | _, _ => none
  | .idxAA len esz x i => match x.ev t, i.ev t with
    | some (.ptr n o), some (.int _ i) => if 0 ≤ i ∧ i < len then some (.ptr n (o + i.toNat * esz)) else none
    | _, _ => none
  | .idxS x i => match x.ev t, i.ev t with
    | some (.str s), some (.int _ i) => if 0 ≤ i then match s[i.toNat]? with
      | some b => some (.int .u8 b.toNat)
      | none => none
      else none
    | _, _ => none
  | .idxG agg len esz x i => match x.ev t, i.ev t with
    | some (.agg cs), some (.int _ i) => if 0 ≤ i ∧ i < len then if agg then some (.agg ((cs.take (i.toNat * esz + esz)).drop (i.toNat * esz))) else cs[i.toNat * esz]? else none
    | _, _ => none
  | .slS x lo hi => match x.ev t, oev t lo, oev t hi with
    | some (.str s), some lo, some hi => slStr s lo hi
    | _, _, _ => none
  | .slL esz x lo hi mx => match x.ev t, oev t lo, oev t hi, oev t mx with
    | some x, some lo, some hi, some mx => slSl me esz x lo hi mx
    | _, _, _, _ => none
  | .slA n esz x lo hi mx => match x.ev t, oev t lo, oev t hi, oev t mx with
    | some x, some lo, some hi, some mx => slArr n esz x lo hi mx
    | _, _, _, _ => none
  | .arrP n x => match x.ev t with
    | some (.sl a o len _) => if len < n then none else some (.ptr a o)
    | _ => none
  | .mkF f caps => (evs t caps).map (.fn f)
  | .ext x i => match x.ev t with
    | some (.tup l) => l[i]?
    | _ => none
  | .build z pl parts => match evp t parts with
    | some ps => (fillV (places pl) z ps).map .agg
    | none => none
  | .buildA z esz parts => match evp t parts with
    | some ps => (fillV (fun i => some (i * esz, esz)) z ps).map .agg
    | none => none
  | .lenS x => match x.ev t with
    | some (.str s) => some (.int .i64 s.length)
    | _ => none
  | .lenL x => match x.ev t with
    | some .sl0 => some (.int .i64 0)
    | some (.sl _ _ n _) => some (.int .i64 n)
    | _ => none
  | .lenC n => some (.int .i64 n)
  | .cap x => match x.ev t with
    | some .sl0 => some (.int .i64 0)
    | some (.sl _ _ _ (.kn c)) => some (.int .i64 c)
    | _ => none
  | .min2 x y => match x.ev t, y.ev t with
    | some (.int k a), some (.int _ b) => some (.int k (if b < a then b else a))
    | _, _ => none
  | .max2 x y => match x.ev t, y.ev t with
    | some (.int k a), some (.int _ b) => some (.int k (if b > a then b else a))
    | _, _ => none

/-- names that a step may add -/
def Nm (v v' : Val) (me : Nat) : Prop := v' = v ∨ ∃ b bas tot, v' = v.name me b bas tot
theorem Nm.le {v v' : Val} {me : Nat} (h : Nm v v' me) (hn : v.blk me = none) : v.le v' := by
  rcases h with rfl | ⟨b, bas, tot, rfl⟩
  · exact .refl _
  · exact Val.le_name hn
theorem Nm.other {v v' : Val} {me : Nat} (h : Nm v v' me) {m : Nat} (hm : m ≠ me) : v'.blk m = v.blk m := by
  rcases h with rfl | ⟨b, bas, tot, rfl⟩
  · rfl
  · exact Val.name_other hm

def isAggD : Option TypeDesc → Option Bool
  | some (.struct _) => some true
  | some (.array _ _) => some true
  | some _ => some false
  | none => none
def compPlaces (P : Program) : List Field → Option (List (Nat × Nat))
  | [] => some []
  | f :: fs => match P.info? f.type, compPlaces P fs with
    | some i, some l => some ((f.offset, i.size) :: l)
    | _, _ => none
def compParts (G : Nat) : List (Nat × Operand) → Option (List (Nat × A))
  | [] => some []
  | (i, x) :: xs => match compA G x, compParts G xs with
    | some a, some l => some ((i, a) :: l)
    | _, _ => none
def compO (G : Nat) : Option Operand → Option (Option A)
  | none => some none
  | some x => match compA G x with
    | some a => some (some a)
    | none => none
def sizeOf? (P : Program) (t : TypeId) : Option Nat := (P.info? t).map (·.size)
def zero? (P : Program) (t : TypeId) : Option V := match P.info? t with
  | some i => match i.zero with
    | some z => ofZero z
    | none => none
  | none => none

def compQ (P : Program) (G : Nat) (o : Oper) : Option Q :=
  match o.op with
  | .move x | .assign x => (compA G x).map .mov
  | .pick c a b => match compA G c, compA G a, compA G b with
    | some c, some a, some b => some (.pick c a b)
    | _, _, _ => none
  | .nilCheck x => (compA G x).map .nilck
  | .binOp op t x y _ => match compA G x, compA G y with
    | some x, some y => some (.bin op (ekOf (P.underlying t)) x y)
    | _, _ => none
  | .unOp op _ x => (compA G x).map (.un op)
  | .convert src dst x => match P.underlying src, P.underlying dst, compA G x with
    | some _, some (.int k), some x => some (.convI k x)
    | some .string, some .string, some x => some (.convS x)
    | _, _, _ => none
  | .makeInterface t x => match P.underlying t, compA G x with
    | some (.interface _), _ => none
    | some _, some x => some (.mkI t x)
    | _, _ => none
  | .fieldAddr s x f => match P.underlying s, compA G x with
    | some (.struct fs), some x => match fs[f]? with
      | some fd => match sizeOf? P fd.type with
        | some 0 => none
        | some _ => some (.fldA fd.offset x)
        | none => none
      | none => none
    | _, _ => none
  | .field s x f => match P.underlying s, compA G x with
    | some (.struct fs), some x => match fs[f]? with
      | some fd => match sizeOf? P fd.type, isAggD (P.underlying fd.type) with
        | some n, some g => some (.fld g fd.offset n x)
        | _, _ => none
      | none => none
    | _, _ => none
  | .indexAddr t x i => match P.underlying t, compA G x, compA G i with
    | some (.slice e), some x, some i => (sizeOf? P e).map fun n => .idxA n x i
    | some (.array len e), some x, some i => (sizeOf? P e).map fun n => .idxAA len n x i
    | _, _, _ => none
  | .index t x i => match P.underlying t, compA G x, compA G i with
    | some .string, some x, some i => some (.idxS x i)
    | some (.array len e), some x, some i => match sizeOf? P e, isAggD (P.underlying e) with
      | some n, some g => some (.idxG g len n x i)
      | _, _ => none
    | _, _, _ => none
  | .slice t x lo hi mx => match P.underlying t, compA G x, compO G lo, compO G hi, compO G mx with
    | some .string, some x, some lo, some hi, some none => some (.slS x lo hi)
    | some (.slice e), some x, some lo, some hi, some mx => (sizeOf? P e).map fun n => .slL n x lo hi mx
    | some (.array n e), some x, some lo, some hi, some mx => (sizeOf? P e).map fun k => .slA n k x lo hi mx
    | _, _, _, _, _ => none
  | .sliceToArrayPointer t x => match P.underlying t, compA G x with
    | some (.array n _), some x => some (.arrP n x)
    | _, _ => none
  | .makeFunc (.func f) first caps => if first.isEmpty then (compAs G caps.toList).map (.mkF f) else none
  | .extract x i => (compA G x).map fun x => .ext x i
  | .build t parts => match P.underlying t, zero? P t, compParts G parts.toList with
    | some (.struct fs), some (.agg z), some ps => (compPlaces P fs.toList).map fun pl => .build z pl ps
    | some (.array _ e), some (.agg z), some ps => (sizeOf? P e).map fun n => .buildA z n ps
    | _, _, _ => none
  | .call c => match c.callee with
    | .builtin .len => match c.args.toList, c.argTypes.toList with
      | [x], [t] => match P.underlying t, compA G x with
        | some .string, some x => some (.lenS x)
        | some (.slice _), some x => some (.lenL x)
        | some (.array n _), some _ => some (.lenC n)
        | _, _ => none
      | _, _ => none
    | .builtin .cap => match c.args.toList, c.argTypes.toList with
      | [x], [t] => match P.underlying t, compA G x with
        | some (.slice _), some x => some (.cap x)
        | _, _ => none
      | _, _ => none
    | .builtin .min => match c.args.toList with
      | [x, y] => match compA G x, compA G y with
        | some x, some y => some (.min2 x y)
        | _, _ => none
      | _ => none
    | .builtin .max => match c.args.toList with
      | [x, y] => match compA G x, compA G y with
        | some x, some y => some (.max2 x y)
        | _, _ => none
      | _ => none
    | _ => none
  | _ => none

end Go.Proofs.YtaaofanhjolikaaGreatDoor.Sx
