/- Maps whose block is told entry by entry, in the order in which the entries came: laws on look-up, store, delete. Over any program. -/
import Derived.Below
import Derived.MapKept
import Derived.WalkKit
set_option linter.unusedVariables false
set_option linter.unusedSimpArgs false
namespace Go.Proofs.YtaaofanhjolikaaGreatDoor.Mp
open Go.RowKit Go.MapKept

def setMap (w : World) (b : Nat) (o : Obj) : World := { w with heap := w.heap.setIfInBounds b o }

/-- Block b is a map that holds just the entries l, in this order; keys of the kind d. -/
def MapAt (d : TypeDesc) (w : World) (b : Nat) (l : List (Value × Value)) : Prop :=
  ∃ es clock, w.heap[b]? = some (.map es clock) ∧ Stamped es clock ∧ es.toList.map (fun e => (e.key, e.val)) = l ∧ ∀ e ∈ es.toList, IsKey d e.key

theorem MapAt.lt {d : TypeDesc} {w : World} {b : Nat} {l : List (Value × Value)} (h : MapAt d w b l) : b < w.heap.size := by
  obtain ⟨es, clock, hb, _⟩ := h
  exact (Array.getElem?_eq_some_iff.1 hb).1

theorem MapAt.of_block {d : TypeDesc} {w w' : World} {b : Nat} {l : List (Value × Value)} (h : MapAt d w b l) (e : w'.heap[b]? = w.heap[b]?) : MapAt d w' b l := by
  obtain ⟨es, clock, hb, r⟩ := h
  exact ⟨es, clock, e.trans hb, r⟩

theorem mapAt_made (d : TypeDesc) (w : World) : MapAt d (w.alloc (.map #[] 0)) w.heap.size [] :=
  ⟨#[], 0, by show (w.heap.push _)[w.heap.size]? = _; simp, stamped_empty 0, by simp, by simp⟩

theorem key_inj : ∀ {l : List MapEntry}, (l.map (·.key)).Nodup → ∀ {x y : MapEntry}, x ∈ l → y ∈ l → x.key = y.key → x = y
  | [], _, _, _, hx, _, _ => by cases hx
  | a :: l, h, x, y, hx, hy, e => by
    rw [List.map_cons, List.nodup_cons] at h
    rcases List.mem_cons.1 hx with hx1 | hx1
    · rcases List.mem_cons.1 hy with hy1 | hy1
      · rw [hx1, hy1]
      · exact absurd (List.mem_map.2 ⟨y, hy1, by rw [← e, hx1]⟩) h.1
    · rcases List.mem_cons.1 hy with hy1 | hy1
      · exact absurd (List.mem_map.2 ⟨x, hx1, by rw [e, hy1]⟩) h.1
      · exact key_inj h.2 hx1 hy1 e

theorem MapAt.nodup {d : TypeDesc} {w : World} {b : Nat} {l : List (Value × Value)} (h : MapAt d w b l) : (l.map (·.1)).Nodup := by
  obtain ⟨es, clock, hb, hs, rfl, hk⟩ := h
  rw [List.map_map]
  exact hs.2.2

section
variable {P : Program} {d : TypeDesc} {w : World} {b : Nat} {l : List (Value × Value)} {t k e : TypeId}

/-- A look-up that finds nothing. -/
theorem look_none (ht : P.underlying t = some (.map k e)) (hd : P.underlying k = some d) (h : MapAt d w b l) {key : Value} (hk : IsKey d key) (hno : ∀ p ∈ l, p.1 ≠ key) {z : Value} (hz : (zeroValue e).run P w = .ok z w) (c : Bool) :
    (Instr.lookup t (.map (some b)) key c).run P w = .ok (if c then .tuple #[z, .bool false] else z) w := by
  obtain ⟨es, clock, hb, hs, rfl, hks⟩ := h
  rcases findNow_spec hk es.toList 0 hks with ⟨h1, _⟩ | ⟨j, e0, _, h2, h3⟩
  · simp [Instr.lookup, run_underlying ht, MapKept.run_getObj_map hb, run_checkKey hd hk, run_findKey hd h1, hz, Result.andThen]
  · exact absurd h3 (hno (e0.key, e0.val) (List.mem_map.2 ⟨e0, List.mem_of_getElem? h2, rfl⟩))

/-- A look-up that finds its entry. -/
theorem look_some (ht : P.underlying t = some (.map k e)) (hd : P.underlying k = some d) (h : MapAt d w b l) {key v : Value} (hk : IsKey d key) (hm : (key, v) ∈ l) (c : Bool) :
    (Instr.lookup t (.map (some b)) key c).run P w = .ok (if c then .tuple #[v, .bool true] else v) w := by
  have hnd := h.nodup
  obtain ⟨es, clock, hb, hs, rfl, hks⟩ := h
  obtain ⟨x, hx, hxe⟩ := List.mem_map.1 hm
  simp only [Prod.mk.injEq] at hxe
  obtain ⟨hxk, hxv⟩ := hxe
  rcases findNow_spec hk es.toList 0 hks with ⟨_, h2⟩ | ⟨j, e0, h1, h2, h3⟩
  · exact absurd hxk (h2 x hx)
  · have he : e0 = x := key_inj hs.2.2 (List.mem_of_getElem? h2) hx (h3.trans hxk.symm)
    subst he
    simp [Instr.lookup, run_underlying ht, MapKept.run_getObj_map hb, run_checkKey hd hk, run_findKey hd h1, Result.andThen, hxv]

/-- A store at a key that is not there. -/
theorem store_new (ht : P.underlying t = some (.map k e)) (hd : P.underlying k = some d) (h : MapAt d w b l) {key v : Value} (hk : IsKey d key) (hno : ∀ p ∈ l, p.1 ≠ key) :
    ∃ o, (Instr.mapUpdate t (.map (some b)) key v).run P w = .ok () (setMap w b o) ∧ MapAt d (setMap w b o) b (l ++ [(key, v)]) := by
  have hlt := h.lt
  obtain ⟨es, clock, hb, hs, rfl, hks⟩ := h
  rcases findNow_spec hk es.toList 0 hks with ⟨h1, h2⟩ | ⟨j, e0, _, h2, h3⟩
  · refine ⟨.map (es.push { key := key, val := v, born := clock }) (clock + 1), ?_, es.push { key := key, val := v, born := clock }, clock + 1, (heap_set hb).1, stamped_push hs h2, by simp, ?_⟩
    · simp [Instr.mapUpdate, run_underlying ht, MapKept.run_getObj_map hb, run_checkKey hd hk, run_findKey hd h1, MapKept.run_setObj_map _ hb, Result.andThen, setMap]
    · intro x hx
      simp only [Array.toList_push, List.mem_append, List.mem_singleton] at hx
      rcases hx with hx | rfl
      · exact hks x hx
      · exact hk
  · exact absurd h3 (hno (e0.key, e0.val) (List.mem_map.2 ⟨e0, List.mem_of_getElem? h2, rfl⟩))

end

theorem setMap_heap {w : World} {b i : Nat} (o : Obj) (h : i ≠ b) : (setMap w b o).heap[i]? = w.heap[i]? := by
  simp [setMap, Ne.symm h]
theorem setMap_size (w : World) (b : Nat) (o : Obj) : (setMap w b o).heap.size = w.heap.size := by simp [setMap]
theorem below_setMap {B : Nat} {a w : World} (h : Below B a w) {b : Nat} (hb : B ≤ b) (o : Obj) : Below B a (setMap w b o) :=
  h.trans ⟨rfl, rfl, rfl, by rw [setMap_size]; exact Nat.le_refl _, fun i hi => setMap_heap o (by omega)⟩

end Go.Proofs.YtaaofanhjolikaaGreatDoor.Mp
