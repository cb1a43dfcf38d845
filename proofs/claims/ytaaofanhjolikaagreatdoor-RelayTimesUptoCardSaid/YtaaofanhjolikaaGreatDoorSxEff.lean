/- A machine of names: the operations that make or write memory, told as a table. Over any program. -/
import Derived.Test.YtaaofanhjolikaaGreatDoorSxRead
set_option linter.unusedVariables false
set_option linter.unusedSimpArgs false
namespace Go.Proofs.YtaaofanhjolikaaGreatDoor.Sx
open Go

inductive E where
  | alloc (z : List V)
  | box (x : A)
  | buildS (len esz : Nat) (z : List V) (parts : List (Nat × A))
  | mkMap
  | mkSlice (esz bytes : Nat) (z : List V) (l c : A)
  | store (sz : Nat) (p x : A)
  | mapUpd (kk : KK) (m k x : A)
  | append (esz bytes : Nat) (s x : A)
  | copy (esz : Nat) (d s : A)
  | delete (kk : KK) (m k : A)
  | strb (x : A)
  | cvb (x : A)
  | rangeM (m : A)
  | rangeS (s : A)
  | next (str : Bool) (it : A)

def V.one : V → Bool
  | .agg _ => false
  | .tup _ => false
  | _ => true

/-- the cells of n elements of what is appended or copied -/
def elemsV (esz : Nat) (h : Heap) : V → Option (Nat × List V)
  | .sl0 => some (0, [])
  | .sl n o len _ => match h.get n with
    | some (.cells l _) => bif Nat.ble (o + len * esz) l.length then some (len, (l.take (o + len * esz)).drop o) else none
    | _ => bif Nat.beq len 0 then some (0, []) else none
  | .str s => bif Nat.beq esz 1 then some (s.length, s.map fun b => .int .u8 b.toNat) else none
  | _ => none

def nextCap (need c : Nat) : Nat := Builtin.nextslicecap need c

def appV (me esz bytes : Nat) (h : Heap) (s x : V) : Option (V × Heap) :=
  match elemsV esz h x with
  | none => none
  | some (n, xs) => bif !xs.all V.one then none else
    match s with
    | .sl0 => bif Nat.beq n 0 then some (.sl0, h) else
      bif Nat.ble (nextCap n 0 * bytes) (2 ^ 48) then some (.sl me 0 n (.op 0), h.set me (.cells xs (some esz))) else none
    | .sl b o len (.kn c) =>
      bif Nat.ble (len + n) c then
        bif Nat.beq n 0 then some (.sl b o len (.kn c), h) else
        match h.get b with
        | some (.cells l opn) => bif Nat.ble (o + (len + n) * esz) l.length then some (.sl b o (len + n) (.kn c), h.set b (.cells (setAll l (o + len * esz) xs) opn)) else none
        | _ => none
      else
        bif Nat.beq len 0 then bif Nat.ble (nextCap (len + n) c * bytes) (2 ^ 48) then some (.sl me 0 (len + n) (.op 0), h.set me (.cells xs (some esz))) else none
        else match h.get b with
        | some (.cells l opn) => bif Nat.ble (o + len * esz) l.length && Nat.ble (nextCap (len + n) c * bytes) (2 ^ 48) then some (.sl me 0 (len + n) (.op 0), h.set me (.cells ((l.take (o + len * esz)).drop o ++ xs) (some esz))) else none
        | _ => none
    | .sl b o len (.op d) =>
      bif Nat.beq n 0 then some (.sl b o len (.op d), h) else
      match h.get b with
      | some (.cells l (some e)) => bif Nat.beq e esz && Nat.beq o (d * esz) && Nat.beq (o + len * esz) l.length && Nat.ble ((2 * (len + n) + 192) * bytes) (2 ^ 48) then
          some (.sl me 0 (len + n) (.op 0), (h.del b).set me (.cells (l.drop o ++ xs) (some esz))) else none
      | _ => none
    | _ => none

def candV (es : List (V × V × Nat)) (since : Nat) (seen : List Nat) : List (Option (V × V × Nat)) :=
  let left := es.filter fun e => !seen.contains e.2.2
  let old := left.filter fun e => e.2.2 < since
  let new := left.filter fun e => since ≤ e.2.2
  (if old.isEmpty then [none] else []) ++ (old ++ new).map some

def zerosV (z : List V) (n : Nat) : List V := (List.range n).map fun i => z.getD (i % z.length) (.tup [])

def mapSet (es : List (V × V × Nat)) (i : Nat) (x : V) : List (V × V × Nat) := es.modify i fun e => (e.1, x, e.2.2)

def exe (me : Nat) (e : E) (t : T V) (h : Heap) : Option (Option V × Heap) :=
  match e with
  | .alloc z => some (some (.ptr me 0), h.set me (.cells z none))
  | .box x => match x.ev t with
    | some u => some (some (.ptr me 0), h.set me (.cells u.cells none))
    | none => none
  | .buildS len esz z parts => match evp t parts with
    | some ps => match fillV (fun i => some (i * esz, esz)) (zerosV z (len * esz)) ps with
      | some cs => some (some (.sl me 0 len (.kn len)), h.set me (.cells cs none))
      | none => none
    | none => none
  | .mkMap => some (some (.map me), h.set me (.mp [] 0))
  | .mkSlice esz bytes z l c => match l.ev t, c.ev t with
    | some (.int _ l), some (.int _ c) =>
      if 0 ≤ l ∧ l ≤ c ∧ bytes * c ≤ 2 ^ 48 ∧ c ≤ 2 ^ 47 then some (some (.sl me 0 l.toNat (.kn c.toNat)), h.set me (.cells (zerosV z (c.toNat * esz)) none)) else none
    | _, _ => none
  | .store sz p x => match p.ev t, x.ev t with
    | some (.ptr n o), some u => match h.get n with
      | some (.cells l opn) => bif Nat.beq u.cells.length sz && Nat.ble (o + sz) l.length && u.cells.all V.one then some (none, h.set n (.cells (setAll l o u.cells) opn)) else none
      | _ => none
    | _, _ => none
  | .mapUpd kk m k x => match m.ev t, k.ev t, x.ev t with
    | some (.map n), some k, some x => match h.get n with
      | some (.mp es clock) => bif keyOk kk k then match findV kk k es 0 with
        | some (some (i, _)) => some (none, h.set n (.mp (mapSet es i x) clock))
        | some none => some (none, h.set n (.mp (es ++ [(k, x, clock)]) (clock + 1)))
        | none => none
        else none
      | _ => none
    | _, _, _ => none
  | .append esz bytes s x => match s.ev t, x.ev t with
    | some s, some x => match appV me esz bytes h s x with
      | some (r, h') => some (some r, h')
      | none => none
    | _, _ => none
  | .copy esz d s => match d.ev t, s.ev t with
    | some .sl0, some s => match elemsV esz h s with
      | some _ => some (some (.int .i64 0), h)
      | none => none
    | some (.sl b o len _), some s => match elemsV esz h s with
      | some (n, xs) => bif Nat.beq (min n len) 0 then some (some (.int .i64 0), h) else match h.get b with
        | some (.cells l opn) => bif Nat.ble (o + min n len * esz) l.length && xs.all V.one then some (some (.int .i64 (min n len : Nat)), h.set b (.cells (setAll l o (xs.take (min n len * esz))) opn)) else none
        | _ => none
      | none => none
    | _, _ => none
  | .delete kk m k => match m.ev t, k.ev t with
    | some .map0, some k => bif keyOk kk k then some (some (.tup []), h) else none
    | some (.map n), some k => match h.get n with
      | some (.mp es clock) => bif keyOk kk k then match findV kk k es 0 with
        | some (some (i, _)) => some (some (.tup []), h.set n (.mp (es.eraseIdx i) clock))
        | some none => some (some (.tup []), h)
        | none => none
        else none
      | _ => none
    | _, _ => none
  | .strb x => match x.ev t with
    | some (.str s) => some (some (.sl me 0 s.length (.op 0)), h.set me (.cells (s.map fun b => .int .u8 b.toNat) (some 1)))
    | _ => none
  | .cvb x => match x.ev t with
    | some (.sl n o len c) => match h.get n with
      | some (.cells l opn) => some (some (.sl n o len c), h.set n (.cells l opn))
      | _ => none
    | _ => none
  | .rangeM m => match m.ev t with
    | some .map0 => some (some (.ptr me 0), h.set me (.mit none 0 [] 0))
    | some (.map n) => match h.get n with
      | some (.mp es clock) => some (some (.ptr me 0), h.set me (.mit (some n) clock [] clock))
      | _ => none
    | _ => none
  | .rangeS s => match s.ev t with
    | some (.str s) => some (some (.ptr me 0), h.set me (.sit s 0))
    | _ => none
  | .next str it => match it.ev t with
    | some (.ptr n 0) => match h.get n, str with
      | some (.sit s pos), true =>
        bif Nat.ble (pos + 1) s.length then
          some (some (.tup [.bool true, .int .i64 pos, .int .i32 (Utf8.decode ⟨s.toArray⟩ pos).1]), h.set n (.sit s (pos + (Utf8.decode ⟨s.toArray⟩ pos).2)))
        else some (some (.tup [.bool false]), h)
      | some (.mit none _ _ _), false => some (some (.tup [.bool false]), h)
      | some (.mit (some m) since seen last), false => match h.get m with
        | some (.mp es clock) =>
          bif !seen.isEmpty && !es.isEmpty && es.all (fun e => Nat.ble last e.2.2) then none else
          match candV es since seen with
          | [some e] => some (some (.tup [.bool true, e.1, e.2.1]), h.set n (.mit (some m) since (seen ++ [e.2.2]) clock))
          | [none] => some (some (.tup [.bool false]), h)
          | _ => none
        | _ => none
      | _, _ => none
    | _ => none

def compE (P : Program) (G : Nat) (o : Oper) : Option E :=
  match o.op with
  | .alloc t => (zero? P t).map fun z => .alloc z.cells
  | .box t x => (compA G x).map .box
  | .buildSlice t len parts => match P.underlying t, compParts G parts.toList with
    | some (.slice e), some ps => match sizeOf? P e, zero? P e with
      | some n, some z => bif Nat.beq z.cells.length n && Nat.ble 1 n && Nat.ble (len * n) (2 ^ 24) then some (.buildS len n z.cells ps) else none
      | _, _ => none
    | _, _ => none
  | .makeMap t none => some .mkMap
  | .makeMap t (some r) => none
  | .makeSlice t l c => match P.underlying t, compA G l, compA G c with
    | some (.slice e), some l, some c => match P.info? e, zero? P e with
      | some i, some z => bif Nat.beq z.cells.length i.size && Nat.ble 1 i.size then some (.mkSlice i.size i.bytes z.cells l c) else none
      | _, _ => none
    | _, _, _ => none
  | .store t p x => match sizeOf? P t, compA G p, compA G x with
    | some n, some p, some x => some (.store n p x)
    | _, _, _ => none
  | .mapUpdate t m k x | .insert t m k x => match P.underlying t, compA G m, compA G k, compA G x with
    | some (.map kt _), some m, some k, some x => (kkOf (P.underlying kt)).map fun kk => .mapUpd kk m k x
    | _, _, _, _ => none
  | .convert src dst x => match P.underlying src, P.underlying dst, compA G x with
    | some .string, some (.slice e), some x => match P.underlying e, zero? P e with
      | some (.int .u8), some _ => some (.strb x)
      | _, _ => none
    | some (.slice _), some (.slice e), some x => match src == dst, P.underlying e with
      | true, some (.int .u8) => some (.cvb x)
      | _, _ => none
    | _, _, _ => none
  | .range t x => match P.underlying t, compA G x with
    | some .string, some x => some (.rangeS x)
    | some (.map _ _), some x => some (.rangeM x)
    | _, _ => none
  | .next it s => (compA G it).map (.next s)
  | .call c => match c.callee with
    | .builtin .append => match c.args.toList, c.argTypes.toList with
      | [s, x], [t, u] => match P.underlying t, P.underlying u, compA G s, compA G x with
        | some (.slice e), some d, some s, some x => match P.info? e, zero? P e, (match d with | .slice _ => true | .string => true | _ => false) with
          | some i, some z, true => bif Nat.beq z.cells.length i.size && Nat.ble 1 i.size && Nat.ble 1 i.bytes then some (.append i.size i.bytes s x) else none
          | _, _, _ => none
        | _, _, _, _ => none
      | _, _ => none
    | .builtin .copy => match c.args.toList, c.argTypes.toList with
      | [d, s], [t, _] => match P.underlying t, compA G d, compA G s with
        | some (.slice e), some d, some s => (sizeOf? P e).map fun n => .copy n d s
        | _, _, _ => none
      | _, _ => none
    | .builtin .delete => match c.args.toList, c.argTypes.toList with
      | [m, k], [t, _] => match P.underlying t, compA G m, compA G k with
        | some (.map kt _), some m, some k => (kkOf (P.underlying kt)).map fun kk => .delete kk m k
        | _, _, _ => none
      | _, _ => none
    | _ => none
  | _ => none

end Go.Proofs.YtaaofanhjolikaaGreatDoor.Sx
