/- A machine of names: memory written, memory made. Over any program. -/
import Derived.Test.YtaaofanhjolikaaGreatDoorSxEff
set_option linter.unusedVariables false
set_option linter.unusedSimpArgs false
namespace Go.Proofs.YtaaofanhjolikaaGreatDoor.Sx
open Go

section
variable {P : Program} {G : Nat} {v : Val} {t : T V} {a : Act} {h : Heap} {w : World}

/-- one block of the world is another -/
structure Turned (w w' : World) (b : Nat) (o : Obj) : Prop where
  os : w'.os = w.os
  tape : w'.tape = w.tape
  output : w'.output = w.output
  size : w'.heap.size = w.heap.size
  other : ∀ k, k ≠ b → w'.heap[k]? = w.heap[k]?
  here : w'.heap[b]? = some o

theorem Turned.trans {w1 w2 w3 : World} {b : Nat} {o p : Obj} (x : Turned w1 w2 b o) (y : Turned w2 w3 b p) : Turned w1 w3 b p :=
  ⟨y.os.trans x.os, y.tape.trans x.tape, y.output.trans x.output, y.size.trans x.size, fun k hk => (y.other k hk).trans (x.other k hk), y.here⟩

theorem turned_setCell {b k : Nat} {c : Array Value} {e lo hi : Nat} {u : Value} (hb : w.heap[b]? = some (.cells c e (lo, hi))) :
    Turned w (w.setCell ⟨b, k, none⟩ u) b (.cells (c.setIfInBounds k u) e (lo, hi)) := by
  refine ⟨rfl, rfl, rfl, by simp [World.setCell], fun k' hk => ?_, ?_⟩
  · simp only [World.setCell, Array.getElem?_modify]
    rw [if_neg (fun e => hk e.symm)]
  · simp only [World.setCell, Array.getElem?_modify]
    rw [if_pos trivial, hb]; rfl

theorem run_storeCells_turn {b o e lo hi : Nat} : ∀ (vs mid pre post : List Value) (i : Nat) (w : World), w.heap[b]? = some (.cells (pre ++ mid ++ post).toArray e (lo, hi)) → mid.length = vs.length → o + i = pre.length →
    (∀ k, pre.length ≤ k → k < pre.length + mid.length → ¬ (lo ≤ k ∧ k < hi)) → (∀ u ∈ vs, u.oneCell' = true) →
    ∃ w', (storeCells ⟨b, o, none⟩ vs i).run P w = .ok () w' ∧ Turned w w' b (.cells (pre ++ vs ++ post).toArray e (lo, hi))
  | [], mid, pre, post, i, w, hb, hl, ho, hf, h1 => by
    have : mid = [] := List.eq_nil_of_length_eq_zero hl
    subst this
    exact ⟨w, rfl, ⟨rfl, rfl, rfl, rfl, fun _ _ => rfl, hb⟩⟩
  | u :: vs, [], pre, post, i, w, hb, hl, ho, hf, h1 => by simp at hl
  | u :: vs, m :: mid, pre, post, i, w, hb, hl, ho, hf, h1 => by
    have hcell : w.cell? ⟨b, o + i, none⟩ = some m := by
      simp only [World.cell?, hb, Option.isSome_none, Bool.false_eq_true, if_false, ho, List.getElem?_toArray]
      rw [List.append_assoc, List.getElem?_append_right (Nat.le_refl _), Nat.sub_self]
      rfl
    have hfr : w.frozen? ⟨b, o + i, none⟩ = false := by
      have := hf (o + i) (by omega) (by rw [ho]; simp)
      simp only [World.frozen?, hb]
      by_cases hlo : lo ≤ o + i
      · have : ¬ (o + i < hi) := fun h2 => this ⟨hlo, h2⟩
        simp [this]
      · simp [hlo]
    have ht := turned_setCell (w := w) (k := o + i) (u := u) hb
    have harr : ((pre ++ m :: mid ++ post).toArray.setIfInBounds (o + i) u) = ((pre ++ [u]) ++ mid ++ post).toArray := by
      rw [List.setIfInBounds_toArray, ho]
      congr 1
      rw [List.append_assoc, List.set_append_right _ _ (Nat.le_refl _), Nat.sub_self]
      simp
    rw [harr] at ht
    obtain ⟨w', hr, ht2⟩ := run_storeCells_turn (o := o) vs mid (pre ++ [u]) post (i + 1) (w.setCell ⟨b, o + i, none⟩ u) ht.here (by simpa using hl) (by rw [List.length_append, List.length_singleton]; omega)
      (fun k hk1 hk2 => hf k (by simp at hk1; omega) (by simp at hk2 ⊢; omega)) (fun x hx => h1 x (List.mem_cons_of_mem _ hx))
    refine ⟨w', ?_, by simpa using ht.trans ht2⟩
    simp only [storeCells, Sem.run_bind, addr_add]
    rw [run_store P w ⟨b, o + i, none⟩ u .plain (h1 u (List.mem_cons_self ..)), hcell]
    simp only [hfr, Bool.false_eq_true, if_false, Result.andThen_ok]
    exact hr

theorem setAll_eq : ∀ (xs cs : List V) (off : Nat), off + xs.length ≤ cs.length → setAll cs off xs = cs.take off ++ xs ++ cs.drop (off + xs.length)
  | [], cs, off, h => by simp [setAll]
  | x :: xs, cs, off, h => by
    simp only [List.length_cons] at h
    rw [setAll, setAll_eq xs (cs.set off x) (off + 1) (by simp; omega)]
    have h1 : (cs.set off x).take (off + 1) = cs.take off ++ [x] := by
      rw [List.take_succ_eq_append_getElem (by simp; omega), List.take_set_of_le (Nat.le_refl _)]
      simp
    have h2 : (cs.set off x).drop (off + 1 + xs.length) = cs.drop (off + (x :: xs).length) := by
      rw [List.drop_set_of_lt (by omega)]
      congr 1
      simp; omega
    rw [h1, h2]; simp
theorem one_den {x : V} {y : Value} (hg : GOk v G) (ho : x.one = true) (h : den v x = some y) : y.oneCell' = true := by
  cases x <;> simp only [V.one] at ho <;> first | (cases ho; done) | skip
  case opq i => simp only [den] at h; injection h with h; subst h; exact hg.op i
  all_goals
    simp only [den] at h
    first
      | (injection h with h; subst h; rfl)
      | (split at h <;> first | (cases h; done) | (injection h with h; subst h; rfl))
      | (obtain ⟨n, -, -, -, rfl⟩ := linD_eq h; rfl)
theorem ones_den (hg : GOk v G) : ∀ {xs : List V} {ys : List Value}, xs.all V.one = true → denL v xs = some ys → ∀ u ∈ ys, u.oneCell' = true
  | [], ys, ho, h, u, hu => by simp only [denL] at h; injection h with h; subst h; cases hu
  | x :: xs, ys, ho, h, u, hu => by
    obtain ⟨y, l, hy, hl, rfl⟩ := denL_cons h
    simp only [List.all_cons, Bool.and_eq_true] at ho
    rcases List.mem_cons.1 hu with rfl | hu
    · exact one_den hg ho.1 hy
    · exact ones_den hg ho.2 hl u hu

/-- a run of cells of a name's block is written -/
theorem conc_write {n o : Nat} {l xs : List V} {opn : Option Nat} {ys : List Value} (hh : Conc v h w) (hg : GOk v G) (hn : h.get n = some (.cells l opn)) (hle : o + xs.length ≤ l.length) (ho : xs.all V.one = true) (hd : denL v xs = some ys) :
    ∃ b w', v.blk n = some b ∧ (storeCells ⟨b, v.bas n + o, none⟩ ys).run P w = .ok () w' ∧ Conc v (h.set n (.cells (setAll l o xs) opn)) w' ∧ Ext v h w v (h.set n (.cells (setAll l o xs) opn)) w' := by
  obtain ⟨b, hb, pre, vs, rest, e, lo, hi, hob, hdl, hp, hf, hsz⟩ := hh.ok n _ hn
  have hvl := denL_length hdl
  have hyl := denL_length hd
  have hsplit : pre ++ vs ++ rest = (pre ++ vs.take o) ++ (vs.drop o).take xs.length ++ (vs.drop (o + xs.length) ++ rest) := by
    have h1 : vs = vs.take o ++ ((vs.drop o).take xs.length ++ vs.drop (o + xs.length)) := by
      rw [show vs.drop (o + xs.length) = (vs.drop o).drop xs.length by rw [List.drop_drop], List.take_append_drop, List.take_append_drop]
    conv => lhs; rw [h1]
    simp
  rw [hsplit] at hob
  obtain ⟨w', hr, ht⟩ := run_storeCells_turn (P := P) (o := v.bas n + o) ys ((vs.drop o).take xs.length) (pre ++ vs.take o) (vs.drop (o + xs.length) ++ rest) 0 w hob (by simp; omega) (by simp; omega)
    (fun k hk1 hk2 => hf.2 k (by simp at hk1 hk2; omega)) (ones_den hg ho hd)
  have hd2 : denL v (setAll l o xs) = some (vs.take o ++ ys ++ vs.drop (o + xs.length)) := by
    rw [setAll_eq _ _ _ hle]
    exact denL_append (denL_append (denL_take o hdl) hd) (denL_drop _ hdl)
  have hok : BlkOk v n (w'.heap[b]?) (.cells (setAll l o xs) opn) := by
    refine ⟨pre, vs.take o ++ ys ++ vs.drop (o + xs.length), rest, e, lo, hi, ?_, hd2, hp, ?_, ?_, hsz.2⟩
    · rw [ht.here]; simp
    · refine ⟨hf.1, fun k hk => ?_⟩; refine hf.2 k ?_; simp at hk; omega
    · intro sz hs
      obtain ⟨q1, q2⟩ := hsz.1 sz hs
      constructor
      · simp; omega
      · simp; omega
  obtain ⟨c1, c2⟩ := conc_turn hh hn hb hok ht.os ht.tape ht.output ht.size ht.other
  exact ⟨b, w', hb, hr, c1, c2⟩

/-- what an operation on memory leaves -/
def Eff1 (P : Program) (v : Val) (h : Heap) (w : World) (me : Nat) (o : Oper) (a : Act) (x : Option V) (h' : Heap) : Prop :=
  ∃ v' w' n, (execOp a.eval o).run P w = .ok n w' ∧ (match x with | some x => ∃ y, n = .value y ∧ den v' x = some y | none => n = .skip) ∧ Conc v' h' w' ∧ Ext v h w v' h' w' ∧ (∀ m, m ≠ me → v'.blk m = v.blk m)

/-- a row of new cells -/
theorem new_cells {me : Nat} {l : List V} {ys : List Value} {e : TypeId} (hh : Conc v h w) (hn : v.blk me = none) (hd : denL v l = some ys) :
    ∃ v', Conc v' (h.set me (.cells l none)) (w.alloc (.cells ys.toArray e)) ∧ Ext v h w v' (h.set me (.cells l none)) (w.alloc (.cells ys.toArray e)) ∧ v'.blk me = some w.heap.size ∧ v'.bas me = 0 ∧ (∀ m, m ≠ me → v'.blk m = v.blk m) := by
  have hle := Val.le_name (v := v) (n := me) (b := w.heap.size) (bas := 0) (tot := 0) hn
  obtain ⟨c1, c2⟩ := conc_new (n := me) (bas := 0) (tot := 0) (B := .cells l none) (o := .cells ys.toArray e) hh hn
    ⟨[], ys, [], e, 0, 0, by simp, denL_le hle _ _ hd, by simp [Val.name_bas], ⟨Nat.le_refl 0, fun k _ => by omega⟩, (fun sz hs => by cases hs), fun _ => Val.name_bas⟩
  exact ⟨_, c1, c2, Val.name_blk, Val.name_bas, fun m hm => Val.name_other hm⟩
/-- the same, more cells behind -/
theorem new_open {me tot sz : Nat} {l : List V} {ys rest : List Value} {e : TypeId} (hh : Conc v h w) (hn : v.blk me = none) (hd : denL v l = some ys) (h1 : ys.length ≤ tot * sz) (h2 : tot * sz ≤ ys.length + rest.length) :
    ∃ v', Conc v' (h.set me (.cells l (some sz))) (w.alloc (.cells (ys ++ rest).toArray e)) ∧ Ext v h w v' (h.set me (.cells l (some sz))) (w.alloc (.cells (ys ++ rest).toArray e)) ∧ v'.blk me = some w.heap.size ∧ v'.bas me = 0 ∧ v'.tot me = tot ∧ (∀ m, m ≠ me → v'.blk m = v.blk m) := by
  have hle := Val.le_name (v := v) (n := me) (b := w.heap.size) (bas := 0) (tot := tot) hn
  obtain ⟨c1, c2⟩ := conc_new (n := me) (bas := 0) (tot := tot) (B := .cells l (some sz)) (o := .cells (ys ++ rest).toArray e) hh hn
    ⟨[], ys, rest, e, 0, 0, by simp, denL_le hle _ _ hd, by simp [Val.name_bas], ⟨Nat.le_refl 0, fun k _ => by omega⟩, fun s hs => by injection hs with hs; subst hs; (rw [Val.name_tot]; simp; omega), fun _ => Val.name_bas⟩
  exact ⟨_, c1, c2, Val.name_blk, Val.name_bas, Val.name_tot, fun m hm => Val.name_other hm⟩

theorem run_newRow {e : TypeId} {c : Array Value} : (newRow e c).run P w = .ok ⟨w.heap.size, 0, none⟩ (w.alloc (.cells c e)) := by
  simp only [newRow, Sem.run_bind, run_newObj_alloc, Result.andThen_ok, Sem.run_pure]

theorem zerosV_den {z : List V} {zs : List Value} {n : Nat} (hz : denL v z = some zs) (hp : 0 < z.length) : denL v (zerosV z n) = some ((List.range n).map fun i => zs.toArray[i % zs.toArray.size]!) := by
  have hl := denL_length hz
  have hgen : ∀ (l : List Nat), denL v (l.map fun i => z.getD (i % z.length) (.tup [])) = some (l.map fun i => zs.toArray[i % zs.toArray.size]!) := by
    intro l
    induction l with
    | nil => rfl
    | cons i l ih =>
      have hlt : i % z.length < z.length := Nat.mod_lt _ hp
      obtain ⟨y, hy, hy2⟩ := denL_get (i % z.length) hz (List.getElem?_eq_getElem hlt)
      refine denL_mk ?_ ih
      simp only [List.size_toArray, hl]
      rw [List.getD_eq_getElem?_getD, List.getElem?_eq_getElem hlt, Option.getD_some, hy]
      have : zs.toArray[i % z.length]? = some y := by rw [List.getElem?_toArray]; exact hy2
      rw [getElem!_def, this]
  exact hgen _
end
end Go.Proofs.YtaaofanhjolikaaGreatDoor.Sx
