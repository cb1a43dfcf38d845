/- The contracts of message's small questions on runes: lower, upper, digit, hasRune, tokenRune and the literals. -/
import Derived.Test.YtaaofanhjolikaaGreatDoorProg
import Derived.Test.YtaaofanhjolikaaGreatDoorMsgPlain
import Derived.WalkKit
import Derived.Lib.OthersKept
import Derived.KernelRfl
set_option linter.unusedVariables false
set_option linter.unusedSimpArgs false
namespace Go.Proofs.YtaaofanhjolikaaGreatDoor.Msg
open Go.RowKit

theorem lower_any (r : Int) (w : World) :
    Calls Tryz.prog 142 #[.int .i32 r] w fun e w' => e = .returned (.bool (loR r)) ∧ w = w' := by
  by_cases h1 : 97 ≤ r
  · go_enter Tryz.func142, Tryz.ntmps142
    go_wp2
    go_ret
    exact ⟨by simp [loR, h1], rfl⟩
  · go_enter Tryz.func142, Tryz.ntmps142
    go_wp2
    go_ret
    exact ⟨by simp [loR]; omega, rfl⟩

theorem upper_any (r : Int) (w : World) :
    Calls Tryz.prog 111 #[.int .i32 r] w fun e w' => e = .returned (.bool (upR r)) ∧ w = w' := by
  by_cases h1 : 65 ≤ r
  · go_enter Tryz.func111, Tryz.ntmps111
    go_wp2
    go_ret
    exact ⟨by simp [upR, h1], rfl⟩
  · go_enter Tryz.func111, Tryz.ntmps111
    go_wp2
    go_ret
    exact ⟨by simp [upR]; omega, rfl⟩

theorem digit_any (r : Int) (w : World) :
    Calls Tryz.prog 141 #[.int .i32 r] w fun e w' => e = .returned (.bool (dgR r)) ∧ w = w' := by
  by_cases h1 : 48 ≤ r
  · go_enter Tryz.func141, Tryz.ntmps141
    go_wp2
    go_ret
    exact ⟨by simp [dgR, h1], rfl⟩
  · go_enter Tryz.func141, Tryz.ntmps141
    go_wp2
    go_ret
    exact ⟨by simp [dgR]; omega, rfl⟩

/-- the iterator of a range over a text, moved on: nothing that was there before it has turned -/
theorem below_at {w W : World} (h : Below w.heap.size w W) {k : Nat} (hk : w.heap.size ≤ k) (s : ByteArray) (pos : Nat) : Below w.heap.size w (W.iterAt k s pos) :=
  Lib.below_iterAt h hk s pos

theorem heap_kept {w W : World} (h : Below w.heap.size w W) {k : Nat} {o : Obj} (hk : w.heap[k]? = some o) : W.heap[k]? = some o :=
  (h.block k (Array.getElem?_eq_some_iff.1 hk).1).trans hk

/-- every: over whatever function value that answers `p`. -/
theorem every_any (p : Int → Bool) (hp : ∀ r : Int, 128 ≤ r → p r = false) (g : Nat) (hent : ∀ (args : Array Value) (W : World), (callFunc g args).run Tryz.prog W = .ok (.enter g args) W)
    (hask : ∀ (r : Int) (W : World), 0 ≤ r → r ≤ 2147483647 → Calls Tryz.prog g #[.int .i32 r] W fun e W' => e = .returned (.bool (p r)) ∧ Below W.heap.size W W') (s : ByteArray) (hs : s.size ≤ 9223372036854775807) (w : World) :
    Calls Tryz.prog 104 #[.string s, .func (.func g) #[] #[]] w fun e w' => e = .returned (.bool (everyB p s)) ∧ Below w.heap.size w w' := by
  have HA := Kp.mk hask
  clear hask
  go_enter Tryz.func104, Tryz.ntmps104
  go_wp2
  go_loopw [4] (fun v wr => v = .bool false ∧ ∃ pos, pos ≤ s.size ∧ Kp (wr.heap[w.heap.size]? = some (.stringIter s pos)) ∧ Kp (allB p (s.data.toList.take pos) = true) ∧ Kp (Below w.heap.size w wr)) (fun _ wr => s.size - wr.iterPos w.heap.size)
  case atStart => exact ⟨rfl, 0, Nat.zero_le _, ⟨World.iter_heap _ _ _⟩, ⟨rfl⟩, ⟨(Below.refl _ _).alloc (Nat.le_refl _) _⟩⟩
  case round =>
    obtain ⟨rfl, pos, hle, HI, HP, HB⟩ := hrel
    have hsz : w.heap.size ≤ wr.heap.size := HB.out.size
    have hlt : w.heap.size < wr.heap.size := (Array.getElem?_eq_some_iff.1 HI.out).1
    have hpos : wr.iterPos w.heap.size = pos := by simp [World.iterPos, HI.out]
    have HPOS := Kp.mk hpos
    clear hpos
    by_cases hp1 : pos < s.size
    · have hnx : ∀ ty, (Instr.next (.pointer (some ⟨w.heap.size, 0, none⟩)) true ty).run Tryz.prog wr = _ := fun ty => Lib.run_next_any_at wr w.heap.size s pos ty HI.out hp1
      have hr0 : (0 : Int) ≤ ((Utf8.decode s pos).1 : Int) := Int.natCast_nonneg _
      have hr1 : ((Utf8.decode s pos).1 : Int) ≤ 2147483647 := by have := decode_le s pos; omega
      by_cases hq : p ((Utf8.decode s pos).1 : Int) = true
      · have hb : (s[pos]'hp1).toNat < 128 := by
          apply Decidable.byContradiction
          intro hn
          have h1 := (decode_high s pos hp1 (by omega)).1
          have h2 := hp ((Utf8.decode s pos).1 : Int) (by omega)
          rw [hq] at h2
          cases h2
        have hdec := decode_ascii s pos hp1 hb
        have hw1 : (Utf8.decode s pos).2 = 1 := by rw [hdec]
        have hd1 : (Utf8.decode s pos).1 = (s[pos]'hp1).toNat := by rw [hdec]
        have HD := Kp.mk hw1
        have HD1 := Kp.mk hd1
        clear hdec hw1 hd1
        have HQ := Kp.mk hq
        go_wp2_with ((with_reducible refine (HA.out _ _ hr0 hr1).mono ?_); rintro e w2 ⟨rfl, hb2⟩; rw [HQ.out]; have HB2 := Kp.mk hb2; clear hb2)
        have hI2 : w2.heap[w.heap.size]? = some (.stringIter s (pos + 1)) := by
          have h1 := Lib.iterAt_heap wr w.heap.size s pos (pos + (Utf8.decode s pos).2) HI.out
          rw [HD.out] at h1 HB2
          exact heap_kept HB2.out h1
        have hB2 : Below w.heap.size w w2 := by
          have h1 := below_at HB.out (Nat.le_refl _) s (pos + (Utf8.decode s pos).2)
          exact h1.trans (HB2.out.mono (by rw [Lib.iterAt_size]; exact hsz))
        go_roundw
        case rel =>
          refine ⟨rfl, pos + 1, by omega, ⟨hI2⟩, ⟨?_⟩, ⟨hB2⟩⟩
          rw [allB_take_succ p s pos hp1, HP.out, ← HD1.out, HQ.out]
          rfl
        case measure =>
          have h1 : w2.iterPos w.heap.size = pos + 1 := by simp [World.iterPos, hI2]
          rw [h1, HPOS.out]; omega
      · have hq' : p ((Utf8.decode s pos).1 : Int) = false := by simpa using hq
        have HQ := Kp.mk hq'
        clear hq hq'
        have hfin : everyB p s = false := by
          unfold everyB
          by_cases hb : (s[pos]'hp1).toNat < 128
          · have hd1 : (Utf8.decode s pos).1 = (s[pos]'hp1).toNat := by rw [decode_ascii s pos hp1 hb]
            rw [allB_of_false p s pos hp1 (by rw [← hd1]; exact HQ.out)]; rfl
          · rw [allB_of_false p s pos hp1 (hp _ (by omega))]; rfl
        have HF := Kp.mk hfin
        clear hfin
        go_wp2_with ((with_reducible refine (HA.out _ _ hr0 hr1).mono ?_); rintro e w2 ⟨rfl, hb2⟩; rw [HQ.out]; have HB2 := Kp.mk hb2; clear hb2)
        have hB2 : Below w.heap.size w w2 := by
          have h1 := below_at HB.out (Nat.le_refl _) s (pos + (Utf8.decode s pos).2)
          exact h1.trans (HB2.out.mono (by rw [Lib.iterAt_size]; exact hsz))
        go_ret
        exact ⟨by rw [HF.out]; rfl, hB2⟩
    · have hnx : ∀ ty, (Instr.next (.pointer (some ⟨w.heap.size, 0, none⟩)) true ty).run Tryz.prog wr = _ := fun ty => Lib.run_next_end_at wr w.heap.size s pos ty HI.out hp1
      go_wp2
      go_ret
      refine ⟨?_, HB.out⟩
      have hpe : pos = s.size := by omega
      have h2 := HP.out
      rw [hpe, allB_all] at h2
      unfold everyB
      rw [h2, ← ByteArray.toList_eq]
      rfl

end Go.Proofs.YtaaofanhjolikaaGreatDoor.Msg
