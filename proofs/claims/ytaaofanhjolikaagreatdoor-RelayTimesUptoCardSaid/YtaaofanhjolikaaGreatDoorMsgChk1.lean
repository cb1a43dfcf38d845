/- The contracts of Check's deferred literal: entered of a frame that panics, of a frame that returns. -/
import Derived.Test.YtaaofanhjolikaaGreatDoorMsgCaught
import Derived.Defers
import Derived.Recover
set_option linter.unusedVariables false
set_option linter.unusedSimpArgs false
namespace Go.Proofs.YtaaofanhjolikaaGreatDoor.Msg
open Go.RowKit Go.Proofs.YtaaofanhjolikaaGreatDoor.Mp

def reqCells (m s a p : ByteArray) (fv : Value) (len : Int) : Array Value := #[.string m, .string s, .string a, .string p, fv, .int .i64 len]
def reqZero : Array Value := reqCells ⟨#[]⟩ ⟨#[]⟩ ⟨#[]⟩ ⟨#[]⟩ (.slice none 0 0) 0

theorem setCell_blk {w : World} {b : Nat} {cs : Array Value} {t : TypeId} {fr : Nat × Nat} (h : w.heap[b]? = some (.cells cs t fr)) (i : Nat) (v : Value) :
    (w.setCell ⟨b, i, none⟩ v).heap[b]? = some (.cells (cs.setIfInBounds i v) t fr) := by
  simp only [World.setCell, Array.getElem?_modify]
  simp [h]

def set6 (w : World) (b : Nat) (v0 v1 v2 v3 v4 v5 : Value) : World :=
  (((((w.setCell ⟨b, 0, none⟩ v0).setCell ⟨b, 1, none⟩ v1).setCell ⟨b, 2, none⟩ v2).setCell ⟨b, 3, none⟩ v3).setCell ⟨b, 4, none⟩ v4).setCell ⟨b, 5, none⟩ v5

theorem set6_at {w : World} {b : Nat} {cs : Array Value} {t : TypeId} {fr : Nat × Nat} (h : w.heap[b]? = some (.cells cs t fr)) (hs : cs.size = 6) (v0 v1 v2 v3 v4 v5 : Value) :
    (set6 w b v0 v1 v2 v3 v4 v5).heap[b]? = some (.cells #[v0, v1, v2, v3, v4, v5] t fr) := by
  unfold set6
  obtain ⟨l⟩ := cs
  obtain ⟨x0, l, rfl⟩ : ∃ x l', l = x :: l' := by cases l with | nil => simp at hs | cons a b => exact ⟨_, _, rfl⟩
  obtain ⟨x1, l, rfl⟩ : ∃ x l', l = x :: l' := by cases l with | nil => simp at hs | cons a b => exact ⟨_, _, rfl⟩
  obtain ⟨x2, l, rfl⟩ : ∃ x l', l = x :: l' := by cases l with | nil => simp at hs | cons a b => exact ⟨_, _, rfl⟩
  obtain ⟨x3, l, rfl⟩ : ∃ x l', l = x :: l' := by cases l with | nil => simp at hs | cons a b => exact ⟨_, _, rfl⟩
  obtain ⟨x4, l, rfl⟩ : ∃ x l', l = x :: l' := by cases l with | nil => simp at hs | cons a b => exact ⟨_, _, rfl⟩
  obtain ⟨x5, l, rfl⟩ : ∃ x l', l = x :: l' := by cases l with | nil => simp at hs | cons a b => exact ⟨_, _, rfl⟩
  obtain rfl : l = [] := by cases l with | nil => rfl | cons a b => simp at hs
  have h0 := setCell_blk h 0 v0
  have h1 := setCell_blk h0 1 v1
  have h2 := setCell_blk h1 2 v2
  have h3 := setCell_blk h2 3 v3
  have h4 := setCell_blk h3 4 v4
  have h5 := setCell_blk h4 5 v5
  exact h5

theorem set6_below {B : Nat} {w w' : World} (h : Below B w w') {b : Nat} (hb : B ≤ b) (v0 v1 v2 v3 v4 v5 : Value) : Below B w (set6 w' b v0 v1 v2 v3 v4 v5) := by
  unfold set6
  exact (((((h.setCell (p := ⟨b, 0, none⟩) hb _).setCell (p := ⟨b, 1, none⟩) hb _).setCell (p := ⟨b, 2, none⟩) hb _).setCell (p := ⟨b, 3, none⟩) hb _).setCell (p := ⟨b, 4, none⟩) hb _).setCell (p := ⟨b, 5, none⟩) hb _

theorem set6_other {w : World} {b : Nat} (v0 v1 v2 v3 v4 v5 : Value) {k : Nat} (h : k ≠ b) : (set6 w b v0 v1 v2 v3 v4 v5).heap[k]? = w.heap[k]? := by
  unfold set6
  rw [Below.heap_setCell _ _ _ _ h, Below.heap_setCell _ _ _ _ h, Below.heap_setCell _ _ _ _ h, Below.heap_setCell _ _ _ _ h, Below.heap_setCell _ _ _ _ h, Below.heap_setCell _ _ _ _ h]

theorem chk1_idle (ea ra : Value) (w : World) :
    CallsD Tryz.prog 72 #[ea, ra] .returning w fun e u' w' => e = .returned (.tuple #[]) ∧ u' = .returning ∧ w' = w := by
  refine callsD_of_wpS Tryz.func72 rfl fun c₀ cs hu => ?_
  apply wpS_seq
  apply wpS_region
  simp [wpOpsS, go_sem, recoverD, hu, Tryz.ntmps72, Exit.thenS]
  refine (caught_none _ _).mono ?_
  rintro e w' ⟨rfl, rfl⟩
  refine wpS_cond (t := false) (by simp [Act.eval, Array.replicate]) ?_
  simp only [Bool.false_eq_true, if_false]
  refine wpS_of_wp (wp_skip ?_)
  cases c₀
  simp_all [bodyPostS, results, Tryz.results72]

theorem chk1_panicking (c k : Int) (eb rb : Nat) (cs0 : Array Value) (w : World) (he : w.heap[eb]? = some (.cells #[.int .i64 k] 36 (0, 0))) (hr : w.heap[rb]? = some (.cells cs0 77 (0, 0))) (hs : cs0.size = 6) :
    CallsD Tryz.prog 72 #[.pointer (some ⟨eb, 0, none⟩), .pointer (some ⟨rb, 0, none⟩)] (.panicking (refusal c)) w fun e u' w' =>
      e = .returned (.tuple #[]) ∧ u' = .panicking [{ v := .iface 171 (.agg #[.int .i64 c]), recovered := true }] ∧ w'.heap[eb]? = some (.cells #[.int .i64 c] 36 (0, 0)) ∧
      w'.heap[rb]? = some (.cells reqZero 77 (0, 0)) ∧ (∀ B, B ≤ eb → B ≤ rb → Below B w w') := by
  refine callsD_of_wpS Tryz.func72 rfl fun c₀ cs hu => ?_
  apply wpS_seq
  apply wpS_region
  simp [wpOpsS, go_sem, recoverD, hu, Tryz.ntmps72, Exit.thenS]
  have hne : eb ≠ rb := by
    intro h
    rw [h, hr] at he
    injection he with he
    injection he with _ ht
    cases ht
  refine (caught_some c k eb 0 w (by rw [cell_of_blk he]; rfl) (free_of_blk he 0) (lt_of_heap he)).mono ?_
  rintro e w' ⟨rfl, rfl⟩
  refine wpS_cond (t := true) (by simp [Act.eval, Array.replicate]) ?_
  simp only [if_true]
  have he1 : ((w.setCell ⟨eb, 0, none⟩ (.int .i64 c)).alloc (.cells #[.int .i64 c] 171)).heap[eb]? = some (.cells #[.int .i64 c] 36 (0, 0)) := by
    rw [Below.heap_alloc _ _ _ (by simpa using lt_of_heap he)]
    simp only [World.setCell, Array.getElem?_modify]
    simp [he]
  have hr1 : ((w.setCell ⟨eb, 0, none⟩ (.int .i64 c)).alloc (.cells #[.int .i64 c] 171)).heap[rb]? = some (.cells cs0 77 (0, 0)) := by
    rw [Below.heap_alloc _ _ _ (by simpa using lt_of_heap hr), Below.heap_setCell _ _ _ _ (Ne.symm hne), hr]
  have hB1 : ∀ B, B ≤ eb → B ≤ rb → Below B w ((w.setCell ⟨eb, 0, none⟩ (.int .i64 c)).alloc (.cells #[.int .i64 c] 171)) := fun B h1 h2 => ((Below.refl B w).setCell (p := ⟨eb, 0, none⟩) h1 _).alloc (by have := lt_of_heap he; simp; omega) _
  generalize (w.setCell ⟨eb, 0, none⟩ (.int .i64 c)).alloc (.cells #[.int .i64 c] 171) = w1 at he1 hr1 hB1 ⊢
  refine wpS_of_wp ?_
  have hx : ∀ i, i < 6 → ∃ v, w1.cell? ⟨rb, i, none⟩ = some v := fun i hi => ⟨cs0[i]'(by omega), by rw [cell_of_blk hr1]; simp⟩
  obtain ⟨v0, hv0⟩ := hx 0 (by omega)
  obtain ⟨v1, hv1⟩ := hx 1 (by omega)
  obtain ⟨v2, hv2⟩ := hx 2 (by omega)
  obtain ⟨v3, hv3⟩ := hx 3 (by omega)
  obtain ⟨v4, hv4⟩ := hx 4 (by omega)
  obtain ⟨v5, hv5⟩ := hx 5 (by omega)
  have hz := free_of_blk hr1
  go_wp2
  refine ⟨rfl, _, rfl, .tuple #[], ?_, rfl, rfl, ?_, ?_, fun B h1 h2 => set6_below (hB1 B h1 h2) h2 _ _ _ _ _ _⟩
  · simp [results, Tryz.results72]
  · exact (set6_other _ _ _ _ _ _ hne).trans he1
  · exact set6_at hr1 hs _ _ _ _ _ _

end Go.Proofs.YtaaofanhjolikaaGreatDoor.Msg
