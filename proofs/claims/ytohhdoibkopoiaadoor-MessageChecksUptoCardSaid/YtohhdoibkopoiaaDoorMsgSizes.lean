/- The contract of Sizes, without its value. -/
import Derived.Test.YtohhdoibkopoiaaDoorMsgMuch
set_option linter.unusedVariables false
set_option linter.unusedSimpArgs false
namespace Go.Proofs.YtohhdoibkopoiaaDoor.Msg
open Go.RowKit Go.Proofs.YtohhdoibkopoiaaDoor.Mp

theorem Size_some (n v : ByteArray) (w : World) :
    Calls Tryd.prog 38 #[.agg #[.string n, .string v]] w fun e w' => (∃ z, e = .returned (.int .i64 z)) ∧ Below w.heap.size w w' := by
  have HB := Kp.mk ((Below.refl w.heap.size w).alloc (Nat.le_refl _) (.cells #[.string n, .string v] 37))
  go_enter Tryd.func38, Tryd.ntmps38
  go_wp2
  go_ret
  exact ⟨⟨_, rfl⟩, HB.out⟩

theorem Sizes_some {w : World} {A : Option Addr} {fs : List Fl} {cp : Nat} (h : FsAt w A fs) :
    Calls Tryd.prog 18 #[.slice A fs.length cp] w fun e w' => (∃ z, e = .returned (.int .i64 z)) ∧ Below w.heap.size w w' := by
  have hlen : fs.length ≤ 9223372036854775807 := by have := h.len; omega
  have H := Kp.mk h
  clear h
  go_enter Tryd.func18, Tryd.ntmps18
  go_wp2
  go_loopw [3, 4] (fun v i wr => ∃ (k : Nat) (z : Int), k ≤ fs.length ∧ i = .int .i64 k ∧ v = .int .i64 z ∧ Kp (Below w.heap.size w wr)) (fun _ i _ => fs.length - (intOf i).toNat)
  case atStart => exact ⟨0, 0, Nat.zero_le _, rfl, rfl, ⟨Below.refl _ _⟩⟩
  case round =>
    obtain ⟨k, z, hk, rfl, rfl, HB⟩ := hrel
    by_cases hlt : k < fs.length
    · obtain ⟨ad, rfl, h1, h2⟩ := (H.out.below HB.out).at_ k hlt
      obtain ⟨x, hx⟩ : ∃ x, x = fs[k]'hlt := ⟨_, rfl⟩
      rw [← hx] at h1 h2
      clear hx
      go_wp2_with fail
      refine (Size_some x.n x.v _).mono ?_
      rintro e w2 ⟨⟨z2, rfl⟩, hb⟩
      have HB2 := Kp.mk (HB.out.trans (hb.mono HB.out.size))
      clear hb
      go_wp2_with fail
      go_roundw
      case rel => exact ⟨k + 1, _, by omega, by go_num, rfl, HB2⟩
      case measure => simp [intOf]; omega
    · go_wp2
      go_ret
      exact ⟨⟨_, rfl⟩, HB.out⟩
end Go.Proofs.YtohhdoibkopoiaaDoor.Msg
