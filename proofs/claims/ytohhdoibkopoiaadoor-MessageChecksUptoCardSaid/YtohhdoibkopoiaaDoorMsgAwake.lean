/- The contracts of line, wide, awake. -/
import Derived.Test.YtohhdoibkopoiaaDoorMsgCopy
set_option linter.unusedVariables false
set_option linter.unusedSimpArgs false
namespace Go.Proofs.YtohhdoibkopoiaaDoor.Msg
open Go.RowKit Go.Proofs.YtohhdoibkopoiaaDoor.Mp

def lineFs : List Fl := [⟨⟨#[58, 109, 101, 116, 104, 111, 100]⟩, ⟨#[71, 69, 84]⟩⟩, ⟨⟨#[58, 115, 99, 104, 101, 109, 101]⟩, ⟨#[104, 116, 116, 112, 115]⟩⟩, ⟨⟨#[58, 97, 117, 116, 104, 111, 114, 105, 116, 121]⟩, ⟨#[97, 46, 98]⟩⟩, ⟨⟨#[58, 112, 97, 116, 104]⟩, ⟨#[47, 120]⟩⟩]

theorem wide_any (w : World) : Calls Tryd.prog 14 #[] w fun e w' => e = .returned (.agg #[.int .i64 1048576, .int .i64 1073741824]) ∧ Below w.heap.size w w' := by
  have HB := Kp.mk ((Below.refl w.heap.size w).alloc (Nat.le_refl _) (.cells #[.int .i64 1048576, .int .i64 1073741824] 24))
  go_enter Tryd.func14, Tryd.ntmps14
  go_wp2
  refine ⟨rfl, .agg #[.int .i64 1048576, .int .i64 1073741824], ?_, rfl, HB.out⟩
  simp [results, Tryd.results14, go_sem]

theorem line_of (w : World) : Calls Tryd.prog 17 #[] w fun e w' => e = .returned (.slice (some ⟨w.heap.size, 0, none⟩) 4 4) ∧ w' = w.alloc (.cells (flCells lineFs).toArray 37) := by
  go_enter Tryd.func17, Tryd.ntmps17
  go_wp2
  go_ret
  exact ⟨rfl, rfl⟩

theorem line_row (w : World) : (w.alloc (.cells (flCells lineFs).toArray 37)).ownsRow w.heap.size 37 2 (.slice (some ⟨w.heap.size, 0, none⟩) lineFs.length 4) lineFs.length (flCells lineFs) :=
  ⟨rfl, .inr ⟨_, _, _, rfl, Nat.le_refl _, heap_alloc_new _ _, Nat.le_refl _, by decide, rfl, rfl⟩⟩

def awakeSt : PSt := ⟨[(⟨#[58, 109, 101, 116, 104, 111, 100]⟩, ⟨#[71, 69, 84]⟩), (⟨#[58, 115, 99, 104, 101, 109, 101]⟩, ⟨#[104, 116, 116, 112, 115]⟩), (⟨#[58, 97, 117, 116, 104, 111, 114, 105, 116, 121]⟩, ⟨#[97, 46, 98]⟩), (⟨#[58, 112, 97, 116, 104]⟩, ⟨#[47, 120]⟩)], [], false, ⟨#[71, 69, 84]⟩, ⟨#[104, 116, 116, 112, 115]⟩, ⟨#[97, 46, 98]⟩, ⟨#[47, 120]⟩, [], -1⟩

theorem check_awake : checkF lineFs 1048576 1073741824 = .ok awakeSt := by kernel_rfl

theorem awake_any (w : World) : Calls Tryd.prog 13 #[] w fun e w' => e = .returned (.bool true) ∧ Below w.heap.size w w' := by
  have hfs : FsAt (w.alloc (.cells (flCells lineFs).toArray 37)) (some ⟨w.heap.size, 0, none⟩) lineFs := FsAt.of_row (line_row w) (by decide)
  have HF := Kp.mk hfs
  have HB1 := Kp.mk ((Below.refl w.heap.size w).alloc (Nat.le_refl _) (.cells (flCells lineFs).toArray 37))
  clear hfs
  go_enter Tryd.func13, Tryd.ntmps13
  go_wp2_with fail
  (with_reducible refine (line_of _).mono ?_)
  rintro e w1 ⟨rfl, rfl⟩
  go_wp2_with fail
  (with_reducible refine (wide_any _).mono ?_)
  rintro e w2 ⟨rfl, hb⟩
  have HF2 := Kp.mk (HF.out.below hb)
  have HB2 := Kp.mk (HB1.out.trans (hb.mono HB1.out.size))
  clear hb
  go_wp2_with fail
  refine (check_any (cp := 4) (c := 1048576) (s := 1073741824) HF2.out (by decide)).mono ?_
  intro e w3 hp
  rw [check_awake] at hp
  obtain ⟨fv, rfl, hrow, hb⟩ := hp
  obtain ⟨Af, cf, rfl⟩ := row_slice hrow
  have HB3 := Kp.mk (HB2.out.trans (hb.mono HB2.out.size))
  clear hrow hb
  simp only [reqVal, awakeSt]
  go_wp2
  go_ret
  exact ⟨rfl, HB3.out.alloc HB3.out.size _⟩

end Go.Proofs.YtohhdoibkopoiaaDoor.Msg
