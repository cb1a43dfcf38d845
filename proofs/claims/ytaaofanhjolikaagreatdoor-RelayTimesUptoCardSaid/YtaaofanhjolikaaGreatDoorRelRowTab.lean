/- From the row's condition to the fact of the walk: the table of powers of ten stands as it was laid. No condition. -/
import Derived.Test.YtaaofanhjolikaaGreatDoorRelRowInts
import Derived.Test.YtaaofanhjolikaaGreatDoorSxAwk
set_option linter.unusedVariables false
set_option maxRecDepth 100000
namespace Go.Proofs.YtaaofanhjolikaaGreatDoor.Rw
open Go.ChangeShapes Go.WideShapes Go.ChangeAt Go.RowKit Go.Deep Go.Proofs.YtaaofanhjolikaaGreatDoor.Sx

theorem int_range {n : Int} (h : (Lit.int .i64 n).wf = true) : -9223372036854775808 ≤ n ∧ n ≤ 9223372036854775807 := by
  simp only [Lit.wf, Bool.and_eq_true, decide_eq_true_eq] at h
  simp [IntKind.min, IntKind.max, IntKind.signed, IntKind.bits] at h
  omega
theorem pow10_laid {W : World} {a b : String × DataW Unit} {r : List (String × DataW Unit)} (h : laidMet Tryz.prog (a :: b :: ("internal/strconv.uint64pow10", Rows.laid_internal_strconv_uint64pow10) :: r) W) :
    ∃ e : Nat, W.heap[2]? = some (.cells pow10C.toArray e (0, 0)) := by
  obtain ⟨ps, hv, -, hf⟩ := h
  obtain ⟨g0, t0, cs0, fuel0, p0, q0, -, -, -, -, hv1, hps0⟩ := hv
  obtain ⟨g1, t1, cs1, fuel1, p1, q1, -, -, -, -, hv2, hps1⟩ := hv1
  obtain ⟨g, t, cs, fuel, p, q, hg, ht, hvar, hd, -, hps2⟩ := hv2
  obtain rfl := Option.some.inj ((show Tryz.prog.globalNamed "internal/strconv.uint64pow10" = some 2 by kernel_rfl).symm.trans hg)
  obtain rfl := Option.some.inj ((show (Tryz.prog.globals[2]?).map (·.type) = some 277 by kernel_rfl).symm.trans ht)
  have hcs : cs.toList = pow10C := Go.Lib.cells_of_tab (zs := pow10N) (k := .u64) Tryz.underlying277 Tryz.underlying209 (by kernel_rfl) (by kernel_rfl) hd
  have hsz : cs.size = 20 := by rw [← Array.length_toList, hcs]; rfl
  have hmem : MemPlace.cell 2 0 ∈ ps := by
    rw [hps0, hps1, hps2]
    refine List.mem_append_right _ (List.mem_append_right _ (List.mem_append_left _ (List.mem_append_left _ ?_)))
    rw [hsz]
    exact List.mem_map.2 ⟨0, by simp, rfl⟩
  obtain ⟨⟨c, e, hb⟩, -⟩ := hf _ _ hmem
  refine ⟨e, ?_⟩
  simp only [World.var?, hg, Option.bind_some, hb] at hvar
  injection hvar with hvar
  rw [hb, ← hcs, hvar]
end Go.Proofs.YtaaofanhjolikaaGreatDoor.Rw
