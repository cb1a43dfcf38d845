/- What the row of MessageOrder wants besides: a []int opened, bounds out of the bulk. -/
import Derived.Test.YtohhdoibkopoiaaDoorRowKit2
import Derived.Test.YtohhdoibkopoiaaDoorLawOrder
import Derived.ChangeSlices
set_option linter.unusedVariables false
set_option linter.unusedSimpArgs false
namespace Go.Proofs.YtohhdoibkopoiaaDoor.Msg
open Go.ChangeShapes Go.WideShapes Go.ChangeAt Go.RowKit Go.Deep

section
variable {H : Type} {enc : TypeId × Value → H}

/-- a []int that came in -/
theorem open_turns {W : World} {base : Nat} {v : Value} {d : DataW H} {ps : List MemPlace} (h : DataW.Trod enc Tryd.prog W 0 (fun _ => true) true 48 v d ps) (hok : Value.okWide Tryd.prog W .any base 48 v) :
    ∃ A cp ks, v = .slice A ks.length cp ∧ Msg.IsAt W A ks := by
  obtain ⟨A, len, cp, rfl⟩ := okWide_slice Tryd.underlying48 hok
  obtain ⟨fuel, hf⟩ := h
  rcases open_ints Tryd.underlying48 Tryd.underlying3 (by kernel_rfl) hf with ⟨hcs, hx⟩ | ⟨a, len', cap, zs, hcs, hb, hl, hm, hz, hx, hc, hw⟩
  · have hv : Value.slice A len cp = .slice none 0 0 := by simpa [Value.cells] using hcs
    simp only [Value.slice.injEq] at hv
    obtain ⟨rfl, rfl, rfl⟩ := hv
    exact ⟨none, 0, [], rfl, fun k hk => absurd hk (by simp), by decide⟩
  · have hv : Value.slice A len cp = .slice (some a) len' cap := by simpa [Value.cells] using hcs
    simp only [Value.slice.injEq] at hv
    obtain ⟨rfl, rfl, rfl⟩ := hv
    have hzl : zs.length = cp := by rw [hz]; rfl
    have hlen : (zs.take len).length = len := by rw [List.length_take, hzl]; exact Nat.min_eq_left hl
    refine ⟨some a, cp, zs.take len, by rw [hlen], fun k hk => ⟨a, rfl, ?_⟩, by rw [hlen]; unfold maxLen at hm; omega⟩
    have hk' : k < zs.length := by rw [hlen] at hk; omega
    rw [hc k hk', List.getElem_take]
    simp [List.getD_eq_getElem?_getD, hk']

theorem bulk_order {d0 d1 : DataW H} {fs : List Fl} (hd : d0 = .nil ∧ fs = [] ∨ ∃ spare, d0 = .slice (flData fs) spare)
    (hk : Rows.uptoSmall H ([d0, d1] ++ []) = true) : total fs ≤ 1048576 ∧ fs.length ≤ 1048576 := by
  have hb : Rows.uptoBulkAll ([d0, d1] ++ []) ≤ 1048576 := of_decide_eq_true hk
  simp only [List.cons_append, List.nil_append, Rows.uptoBulkAll] at hb
  rcases hd with ⟨_, rfl⟩ | ⟨spare, rfl⟩
  · simp only [total, List.map_nil, List.sum_nil, List.length_nil]; omega
  · have h6 := bulk_fl (H := H) fs
    simp only [Rows.uptoBulk] at hb
    omega
end
end Go.Proofs.YtohhdoibkopoiaaDoor.Msg
