/- Lists of fields that are read, and tooMuch's contract. -/
import Derived.Test.YtaaofanhjolikaaGreatDoorMsgChk1
set_option linter.unusedVariables false
set_option linter.unusedSimpArgs false
namespace Go.Proofs.YtaaofanhjolikaaGreatDoor.Msg
open Go.RowKit Go.Proofs.YtaaofanhjolikaaGreatDoor.Mp

/-- a list of fields that can be read -/
structure FsAt (w : World) (A : Option Addr) (fs : List Fl) : Prop where
  at_ : ∀ k (hk : k < fs.length), ∃ ad, A = some ad ∧ w.cell? (ad.add (k * 2)) = some (.string (fs[k]'hk).n) ∧ w.cell? ⟨(ad.add (k * 2)).block, (ad.add (k * 2)).off + 1, none⟩ = some (.string (fs[k]'hk).v)
  len : (fs.length + 1) * 32 ≤ 140737488355328

theorem lt_of_cell {w : World} {a : Addr} {v : Value} (h : w.cell? a = some v) : a.block < w.heap.size := by
  rcases Nat.lt_or_ge a.block w.heap.size with h1 | h1
  · exact h1
  · have : w.heap[a.block]? = none := Array.getElem?_eq_none h1
    simp [World.cell?, this] at h

theorem FsAt.below {w w' : World} {A : Option Addr} {fs : List Fl} (h : FsAt w A fs) (hb : Below w.heap.size w w') : FsAt w' A fs := by
  refine ⟨fun k hk => ?_, h.len⟩
  obtain ⟨ad, ha, h1, h2⟩ := h.at_ k hk
  refine ⟨ad, ha, ?_, ?_⟩
  · rw [hb.cell (lt_of_cell h1)]; exact h1
  · rw [hb.cell (p := ⟨(ad.add (k * 2)).block, (ad.add (k * 2)).off + 1, none⟩) (lt_of_cell h2)]; exact h2

/-- the size of a list, as the program adds it up -/
def sizeW (fs : List Fl) : Int := fs.foldl (fun n f => wrap64 (n + wrap64 (f.n.size + f.v.size))) 0
def muchB (fs : List Fl) (c s : Int) : Bool := decide ((fs.length : Int) > c) || decide (sizeW fs > s)

theorem sizeW_take_succ (fs : List Fl) (k : Nat) (hk : k < fs.length) : sizeW (fs.take (k + 1)) = wrap64 (sizeW (fs.take k) + wrap64 ((fs[k]'hk).n.size + (fs[k]'hk).v.size)) := by
  unfold sizeW
  rw [List.take_succ_eq_append_getElem hk, List.foldl_append]
  rfl

set_option maxRecDepth 100000 in
theorem tooMuch_any {w : World} {A : Option Addr} {fs : List Fl} {cp : Nat} (h : FsAt w A fs) (c s : Int) :
    Calls Tryz.prog 75 #[.slice A fs.length cp, .agg #[.int .i64 c, .int .i64 s]] w fun e w' => e = .returned (.bool (muchB fs c s)) ∧ Below w.heap.size w w' := by
  have hlen : fs.length ≤ 9223372036854775807 := by have := h.len; omega
  have H := Kp.mk h
  have HB0 := Kp.mk (Below.refl w.heap.size w)
  clear h
  go_enter Tryz.func75, Tryz.ntmps75
  go_wp2
  go_loopw [5, 10] (fun v i wr => ∃ k : Nat, k ≤ fs.length ∧ i = .int .i64 k ∧ v = .int .i64 (sizeW (fs.take k)) ∧ Kp (wr.heap[w.heap.size]? = some (.cells #[.int .i64 c, .int .i64 s] 25 (0, 0))) ∧ Kp (Below w.heap.size w wr)) (fun _ i _ => fs.length - (intOf i).toNat)
  case atStart => exact ⟨0, Nat.zero_le _, rfl, rfl, ⟨heap_alloc_new _ _⟩, ⟨(Below.refl _ _).alloc (Nat.le_refl _) _⟩⟩
  case round =>
    obtain ⟨k, hk, rfl, rfl, HL, HB⟩ := hrel
    by_cases hlt : k < fs.length
    · obtain ⟨ad, rfl, h1, h2⟩ := (H.out.below HB.out).at_ k hlt
      have hsuc := Kp.mk (sizeW_take_succ fs k hlt)
      obtain ⟨x, hx⟩ : ∃ x, x = fs[k]'hlt := ⟨_, rfl⟩
      rw [← hx] at h1 h2
      have hBs := HB.out.size
      go_wp2
      go_roundw
      case rel =>
        refine ⟨k + 1, by omega, by go_num, by rw [hsuc.out], ⟨?_⟩, ⟨?_⟩⟩
        · rw [Below.heap_alloc _ _ _ (lt_of_heap HL.out)]; exact HL.out
        · exact HB.out.alloc HB.out.size _
      case measure => simp [intOf]; omega
    · have hL1 : wr.cell? ⟨w.heap.size, 0, none⟩ = some (.int .i64 c) := by rw [cell_of_blk HL.out]; rfl
      have hL2 : wr.cell? ⟨w.heap.size, 1, none⟩ = some (.int .i64 s) := by rw [cell_of_blk HL.out]; rfl
      have hall : Kp (sizeW (fs.take k) = sizeW fs) := ⟨by rw [List.take_of_length_le (by omega)]⟩
      rw [hall.out]
      by_cases hq : (fs.length : Int) > c
      · have HM : Kp (muchB fs c s = true) := ⟨by unfold muchB; simp [hq]⟩
        go_wp2
        go_ret
        exact ⟨by rw [HM.out]; rfl, HB.out⟩
      · have HM : Kp (muchB fs c s = decide (sizeW fs > s)) := ⟨by unfold muchB; simp [hq]⟩
        go_wp2
        go_ret
        exact ⟨by rw [HM.out]; rfl, HB.out⟩

end Go.Proofs.YtaaofanhjolikaaGreatDoor.Msg
