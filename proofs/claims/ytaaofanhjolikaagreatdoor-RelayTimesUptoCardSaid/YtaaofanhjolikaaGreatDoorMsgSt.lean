/- The state of a reading in memory, and what one() tells of it. -/
import Derived.Test.YtaaofanhjolikaaGreatDoorMsgVal
import Derived.Test.YtaaofanhjolikaaGreatDoorMap
import Derived.Laws.AppendOwn
set_option linter.unusedVariables false
set_option linter.unusedSimpArgs false
namespace Go.Proofs.YtaaofanhjolikaaGreatDoor.Msg
open Go.RowKit Go.Proofs.YtaaofanhjolikaaGreatDoor.Mp

structure Fl where
  n : ByteArray
  v : ByteArray

structure PSt where
  ps : List (ByteArray × ByteArray)
  hosts : List ByteArray
  reg : Bool
  m : ByteArray
  s : ByteArray
  a : ByteArray
  p : ByteArray
  fields : List Fl
  len : Int

def flCells (l : List Fl) : List Value := l.flatMap fun f => [.string f.n, .string f.v]
def rdCells (mb : Nat) (hv fv : Value) (st : PSt) : Array Value :=
  #[.map (some mb), hv, .bool st.reg, .string st.m, .string st.s, .string st.a, .string st.p, fv, .int .i64 st.len]

/-- a pseudo field's name and value, and the block that holds its value -/
structure Gh where
  n : ByteArray
  v : ByteArray
  b : Nat

def ghEntries (gs : List Gh) : List (Value × Value) := gs.map fun g => (.string g.n, .slice (some ⟨g.b, 0, none⟩) 1 1)

structure RdAt (w : World) (B p : Nat) (st : PSt) (mb : Nat) (hv fv : Value) (gs : List Gh) : Prop where
  blk : w.heap[p]? = some (.cells (rdCells mb hv fv st) 136 (0, 0))
  pB : B ≤ p
  mB : B ≤ mb
  map : MapAt .string w mb (ghEntries gs)
  ps : st.ps = gs.map fun g => (g.n, g.v)
  vals : ∀ g ∈ gs, B ≤ g.b ∧ w.heap[g.b]? = some (.cells #[.string g.v] 9 (0, 0)) ∧ hv.ownBlock ≠ some g.b
  hosts : w.ownsRow B 9 1 hv st.hosts.length (st.hosts.map Value.string)
  flds : w.ownsRow B 32 2 fv st.fields.length (flCells st.fields)
  fnil : st.fields = [] → fv = .slice none 0 0

theorem lt_of_heap {w : World} {k : Nat} {o : Obj} (h : w.heap[k]? = some o) : k < w.heap.size := (Array.getElem?_eq_some_iff.1 h).1

theorem cell_of_blk {w : World} {k : Nat} {cs : Array Value} {t : TypeId} {fr : Nat × Nat} (h : w.heap[k]? = some (.cells cs t fr)) (i : Nat) : w.cell? ⟨k, i, none⟩ = cs[i]? := by
  simp [World.cell?, h]
theorem free_of_blk {w : World} {k : Nat} {cs : Array Value} {t : TypeId} (h : w.heap[k]? = some (.cells cs t (0, 0))) (i : Nat) : w.frozen? ⟨k, i, none⟩ = false := by
  simp [World.frozen?, h]

theorem zeroStrs (w : World) : (zeroValue 134).run Tryz.prog w = .ok (.slice none 0 0) w := by kernel_rfl

def pick (l : List (ByteArray × ByteArray)) (n : ByteArray) : Option ByteArray := (l.find? fun p => p.1.data.toList == n.data.toList).map (·.2)

theorem ba_ext {a b : ByteArray} (h : a.data.toList = b.data.toList) : a = b := by
  cases a; cases b; simp at h; rw [h]

def oneVal : Option ByteArray → Value
  | some v => .tuple #[.string v, .bool true]
  | none => .tuple #[.string ⟨#[]⟩, .bool false]

theorem pick_none {l : List (ByteArray × ByteArray)} {n : ByteArray} (h : pick l n = none) : ∀ p ∈ l, p.1 ≠ n := by
  intro p hp e
  unfold pick at h
  rw [Option.map_eq_none_iff, List.find?_eq_none] at h
  have := h p hp
  rw [e] at this
  simp at this

theorem pick_some {l : List (ByteArray × ByteArray)} {n v : ByteArray} (h : pick l n = some v) : (n, v) ∈ l := by
  unfold pick at h
  rw [Option.map_eq_some_iff] at h
  obtain ⟨q, h1, h2⟩ := h
  have h3 := List.mem_of_find?_eq_some h1
  have h4 := List.find?_some h1
  have h5 : q.1 = n := ba_ext (by simpa using h4)
  obtain ⟨q1, q2⟩ := q
  simp only at h2 h5
  subst h2 h5
  exact h3

theorem look_pseudo {w : World} {B p : Nat} {st : PSt} {mb : Nat} {hv fv : Value} {gs : List Gh} (h : RdAt w B p st mb hv fv gs) (n : ByteArray) :
    (pick st.ps n = none ∧ (Instr.lookup 133 (.map (some mb)) (.string n) false).run Tryz.prog w = .ok (.slice none 0 0) w) ∨
    ∃ g ∈ gs, g.n = n ∧ pick st.ps n = some g.v ∧ (Instr.lookup 133 (.map (some mb)) (.string n) false).run Tryz.prog w = .ok (.slice (some ⟨g.b, 0, none⟩) 1 1) w := by
  cases hp : pick st.ps n with
  | none =>
    refine .inl ⟨rfl, ?_⟩
    have h1 := pick_none hp
    exact look_none Tryz.underlying133 Tryz.underlying9 h.map (key := .string n) trivial (by
      intro q hq e
      obtain ⟨g, hg, rfl⟩ := List.mem_map.1 hq
      simp only [Value.string.injEq] at e
      exact h1 (g.n, g.v) (by rw [h.ps]; exact List.mem_map.2 ⟨g, hg, rfl⟩) e) (zeroStrs w) false
  | some v =>
    refine .inr ?_
    have h1 := pick_some hp
    rw [h.ps] at h1
    obtain ⟨g, hg, he⟩ := List.mem_map.1 h1
    simp only [Prod.mk.injEq] at he
    obtain ⟨rfl, rfl⟩ := he
    exact ⟨g, hg, rfl, rfl, look_some Tryz.underlying133 Tryz.underlying9 h.map (key := .string g.n) trivial (List.mem_map.2 ⟨g, hg, rfl⟩) false⟩

theorem one_any {w : World} {B p : Nat} {st : PSt} {mb : Nat} {hv fv : Value} {gs : List Gh} (h : RdAt w B p st mb hv fv gs) (n : ByteArray) :
    Calls Tryz.prog 103 #[.pointer (some ⟨p, 0, none⟩), .string n] w fun e w' => e = .returned (oneVal (pick st.ps n)) ∧ w = w' := by
  have hc0 : w.cell? ⟨p, 0, none⟩ = some (.map (some mb)) := by rw [cell_of_blk h.blk]; rfl
  rcases look_pseudo h n with ⟨h1, h2⟩ | ⟨g, hg, _, h1, h2⟩
  · rw [h1]
    go_enter Tryz.func103, Tryz.ntmps103
    go_wp2
    go_ret2
    exact ⟨rfl, rfl⟩
  · rw [h1]
    have hgc : w.cell? ⟨g.b, 0, none⟩ = some (.string g.v) := by rw [cell_of_blk (h.vals g hg).2.1]; rfl
    go_enter Tryz.func103, Tryz.ntmps103
    go_wp2
    go_ret2
    exact ⟨rfl, rfl⟩

end Go.Proofs.YtaaofanhjolikaaGreatDoor.Msg
