/- What the row of MessageSpoilt wants besides: bounds out of the bulk. -/
import Derived.Test.YtohhdoibkopoiaaDoorRowKit
import Derived.Test.YtohhdoibkopoiaaDoorSpoiltPlain
set_option linter.unusedVariables false
set_option linter.unusedSimpArgs false
namespace Go.Proofs.YtohhdoibkopoiaaDoor.Msg
open Go.ChangeShapes Go.WideShapes Go.ChangeAt Go.RowKit Go.Deep

theorem int_range {n : Int} (h : (Lit.int .i64 n).wf = true) : -9223372036854775808 ≤ n ∧ n ≤ 9223372036854775807 := by
  simp only [Lit.wf, Bool.and_eq_true, decide_eq_true_eq] at h
  simp [IntKind.min, IntKind.max, IntKind.signed, IntKind.bits] at h
  omega

theorem max_size {s : ByteArray} (h : s.size ≤ maxLen) : s.size ≤ 9223372036854775807 := by unfold maxLen at h; omega

section
variable {H : Type}
theorem bulk_fl (fs : List Fl) : total fs + 3 * fs.length ≤ Rows.uptoBulkAll (flData (H := H) fs) := by
  induction fs with
  | nil => simp [total, flData, Rows.uptoBulkAll]
  | cons f fs ih =>
    have h1 : flData (H := H) (f :: fs) = .agg [.lit (.string f.n.data.toList), .lit (.string f.v.data.toList)] :: flData fs := rfl
    have h2 : total (f :: fs) = f.n.size + f.v.size + total fs := by simp [total]
    have h3 : f.n.data.toList.length = f.n.size := by simp
    have h4 : f.v.data.toList.length = f.v.size := by simp
    rw [h1, h2]
    simp only [Rows.uptoBulkAll, Rows.uptoBulk, List.length_cons, h3, h4]
    omega

theorem bulk_spoilt {d0 d1 : DataW H} {fs : List Fl} {mn mv : ByteArray} (hd : d0 = .nil ∧ fs = [] ∨ ∃ spare, d0 = .slice (flData fs) spare)
    (hk : Rows.uptoSmall H ([d0, d1, .agg [.lit (.string mn.data.toList), .lit (.string mv.data.toList)]] ++ []) = true) : total fs + total [⟨mn, mv⟩] ≤ 1048576 ∧ fs.length ≤ 1048576 := by
  have hb : Rows.uptoBulkAll ([d0, d1, .agg [.lit (.string mn.data.toList), .lit (.string mv.data.toList)]] ++ []) ≤ 1048576 := of_decide_eq_true hk
  have h3 : mn.data.toList.length = mn.size := by simp
  have h4 : mv.data.toList.length = mv.size := by simp
  have h5 : total [(⟨mn, mv⟩ : Fl)] = mn.size + mv.size := by simp [total]
  simp only [List.cons_append, List.nil_append, Rows.uptoBulkAll, Rows.uptoBulk, h3, h4] at hb
  rw [h5]
  rcases hd with ⟨_, rfl⟩ | ⟨spare, rfl⟩
  · simp only [total, List.map_nil, List.sum_nil, List.length_nil]; omega
  · have h6 := bulk_fl (H := H) fs
    simp only [Rows.uptoBulk] at hb
    omega
end
end Go.Proofs.YtohhdoibkopoiaaDoor.Msg
