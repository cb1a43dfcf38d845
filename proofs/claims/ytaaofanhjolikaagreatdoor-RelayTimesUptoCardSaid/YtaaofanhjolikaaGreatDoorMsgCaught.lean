/- The contracts of place in one, of caught, and of Check's deferred literal. -/
import Derived.Test.YtaaofanhjolikaaGreatDoorMsgPlace
import Derived.Recover
set_option linter.unusedVariables false
set_option linter.unusedSimpArgs false
namespace Go.Proofs.YtaaofanhjolikaaGreatDoor.Msg
open Go.RowKit Go.Proofs.YtaaofanhjolikaaGreatDoor.Mp

section
variable {w : World} {B p : Nat} {st : PSt} {mb : Nat} {hv fv : Value} {gs : List Gh}

theorem place_any (h : RdAt w B p st mb hv fv gs) (hsz : ∀ x ∈ st.ps, x.2.size ≤ 9223372036854775807) (hss : ∀ x ∈ st.hosts, x.size ≤ 9223372036854775807) :
    Calls Tryz.prog 78 #[.pointer (some ⟨p, 0, none⟩)] w (LinePost w B p mb hv fv gs (placeF st)) := by
  unfold placeF
  cases ha : pick st.ps baAuth with
  | some a =>
    have has : a.size ≤ 9223372036854775807 := hsz _ (pick_some ha)
    show Calls _ _ _ _ (LinePost w B p mb hv fv gs (if everyB authR a = false then .error 182 else if st.hosts.all (fun h => h.data.toList == a.data.toList) = true then .ok { st with a := a } else .error 182))
    by_cases ht : everyB authR a = false
    · rw [if_pos ht]; exact place_auth_no h a has ha ht
    · rw [if_neg ht]; exact place_auth_ok h a has ha (by simpa using ht) _ ⟨rfl⟩
  | none =>
    cases hh : st.hosts with
    | nil => exact place_none h ha hh
    | cons a rest =>
      have hl : 0 < st.hosts.length := by rw [hh]; simp
      have haE : a = st.hosts[0]'hl := by simp [hh]
      have has : a.size ≤ 9223372036854775807 := hss a (by rw [hh]; simp)
      rw [← hh]
      show Calls _ _ _ _ (LinePost w B p mb hv fv gs (match st.hosts.head? with | none => .error 183 | some a => if everyB authR a = false then .error 182 else if st.hosts.all (fun h => h.data.toList == a.data.toList) = true then .ok { st with a := a } else .error 182))
      rw [show st.hosts.head? = some a by rw [hh]; rfl]
      simp only []
      by_cases ht : everyB authR a = false
      · rw [if_pos ht]; exact place_host_no h hl a has haE ha ht
      · rw [if_neg ht]; exact place_host_ok h hl a has haE ha (by simpa using ht) _ ⟨rfl⟩

end

theorem caught_none (ea : Value) (w : World) :
    Calls Tryz.prog 73 #[.nilIface, ea] w fun e w' => e = .returned (.bool false) ∧ w = w' := by
  go_enter Tryz.func73, Tryz.ntmps73
  go_wp2
  go_ret
  exact ⟨rfl, rfl⟩

theorem assert_refused (v : Value) (w : World) : (Instr.typeAssert (.iface 171 v) 20 171 true).run Tryz.prog w = .ok (.tuple #[v, .bool true]) w := by kernel_rfl

set_option maxRecDepth 100000 in
theorem caught_some (c k : Int) (eb eo : Nat) (w : World) (hc : w.cell? ⟨eb, eo, none⟩ = some (.int .i64 k)) (hz : w.frozen? ⟨eb, eo, none⟩ = false) (hlt : eb < w.heap.size) :
    Calls Tryz.prog 73 #[.iface 171 (.agg #[.int .i64 c]), .pointer (some ⟨eb, eo, none⟩)] w fun e w' => e = .returned (.bool true) ∧ w' = (w.setCell ⟨eb, eo, none⟩ (.int .i64 c)).alloc (.cells #[.int .i64 c] 171) := by
  have has := assert_refused (.agg #[.int .i64 c])
  have hne : ¬ (w.heap.size = eb) := by omega
  have hne' : ¬ (eb = w.heap.size) := by omega
  go_enter Tryz.func73, Tryz.ntmps73
  go_wp2
  go_ret
  exact ⟨rfl, rfl⟩

end Go.Proofs.YtaaofanhjolikaaGreatDoor.Msg
