/- The law MessageClean: its statement where what it reads is of bulk at most 1048576, and its card. No condition but the form's own. -/
import Derived.Test.YtohhdoibkopoiaaDoorRowKit
import Derived.Test.YtohhdoibkopoiaaDoorLawClean
set_option linter.unusedVariables false
set_option linter.unusedSimpArgs false
namespace Go.Proofs.YtohhdoibkopoiaaDoor.Msg
open Go.ChangeShapes Go.WideShapes Go.ChangeAt Go.RowKit Go.Deep

theorem clean_contract (H : Type) (enc : TypeId × Value → H) (W : World) (base : Nat) (args : Array Value) (ds gs : List (DataW H)) (before : List MemPlace)
    (hval : ∀ (j : Nat) t v, Tryd.f4.params[j]? = some t → args[j]? = some v → Value.okWide Tryd.prog W .any base t v)
    (hW : DataW.Whole enc Tryd.prog Tryd.f4.params.toList Rows.messageCleanSpec.vars false W args.toList ds gs before) (hk : Rows.uptoSmall H (ds ++ gs) = true) :
    Calls Tryd.prog 4 args W fun e W' => ∃ v, e = .returned v ∧ Rows.messageCleanSpec.post enc Tryd.prog Tryd.f4 false true false false W args v W' := by
  have hW' := hW
  obtain ⟨p, q, hA, hV, hbef, hfz, hnd⟩ := hW
  obtain ⟨rfl, _⟩ := trodVars_none hV
  rw [Tryd.params4] at hA hval
  obtain ⟨v0, vs0, d0, ds0, p0, q0, hargs, rfl, rfl, h0, r0⟩ := trodAll_cons hA
  obtain ⟨rfl, rfl, rfl⟩ := trodAll_nil r0
  obtain rfl : args = #[v0] := by cases args; simp_all
  obtain ⟨A, cp, fs, rfl, hd, hcell, hsz⟩ := open_fields h0 (hval 0 22 v0 rfl rfl)
  have hlen := bulk_len (fs := fs) (l := _) (List.mem_append_left _ (List.mem_cons_self ..)) hd hk
  refine (MessageClean_any ⟨hcell, hlen⟩ hsz).mono fun e W' ⟨he, hb⟩ => ?_
  exact ⟨_, he, post_true hW' rfl (by rw [Tryd.params4]; decide) rfl rfl rfl rfl hb⟩

theorem clean_met (os : Os) : laidMet Tryd.prog Rows.messageCleanUptoRow.laid ((laidWorld os).forCall (fun _ _ => 0) ⟨#[], #[.slice none 0 0], []⟩).memory :=
  laidMet_of_run' 8 (by kernel_rfl) (by kernel_rfl)
theorem clean_reads (os : Os) {H : Type} (enc : TypeId × Value → H) : ∃ places, DataW.whole enc Tryd.prog ((laidWorld os).forCall (fun _ _ => 0) ⟨#[], #[.slice none 0 0], []⟩).memory Tryd.f4.params.toList Rows.messageCleanSpec.vars false #[Value.slice none 0 0].toList 8 = some ([.nil], [], places) :=
  ⟨[], by kernel_rfl⟩

set_option maxRecDepth 100000 in
theorem clean_lifted (os : Os) (started : os.Started) (H : Type) (enc : TypeId × Value → H) (F : Stop.Interp) :
    ReturnsInHanded {} Tryd.checked os 4 .any ((Rows.OpenSpec.upto Rows.messageCleanSpec).preRow enc Tryd.prog Tryd.f4 Rows.messageCleanUptoRow.domain false Rows.messageCleanUptoRow.laid) (((Rows.OpenSpec.upto Rows.messageCleanSpec).at F).post enc Tryd.prog Tryd.f4 false true false false) := by
  obtain ⟨places, hx⟩ := clean_reads os enc
  refine returnsInHanded_of_row (C := Tryd.checked) (s := Rows.OpenSpec.upto Rows.messageCleanSpec) ownK started (by kernel_rfl) Tryd.func4
    (witness_row_at (enc := enc) (C := Tryd.checked) false (laidWorld os) #[.slice none 0 0] rfl (by kernel_rfl) (by kernel_rfl) (by kernel_rfl)
      (OpenSpec.preRow_of_cond 8 hx (by kernel_rfl) (fun k hk => by cases hk; kernel_rfl) (by kernel_rfl) (clean_met os))) ?_
  intro W base args ds gs before hval hW _ hcond _ _ _ _
  exact clean_contract H enc W base args ds gs before hval hW (hcond _ rfl)

theorem clean_said : Rows.MessageCleanUptoSaid :=
  OpenClaim.holds_of_cond 4 Tryd.f4 rfl rfl rfl rfl rfl rfl rfl ⟨rfl, rfl, rfl, rfl, rfl⟩ rfl rfl rfl rfl rfl (by kernel_rfl) Tryd.func4 (by kernel_rfl)
    (of_decide_eq_true (by kernel_rfl)) (by unfold Func.isWrapper; first | (rw [if_pos (by decide +kernel)]; kernel_rfl) | (rw [if_neg (by decide +kernel)]; exact ⟨rfl, rfl⟩))
    (fun os started H enc _ F => by rw [OpenClaim.pre_eq_preRow]; exact clean_lifted os started H enc F)

theorem clean_plain (f : FuncId) (fn : Func) (hf : Tryd.pinned.checked.prog.funcNamed "turnpike/turnpikelaw18.MessageClean" = some f) (hfn : Tryd.pinned.checked.prog.funcs[f]? = some fn) :
    true = Tryd.pinned.checked.prog.looks [] ∧ ∀ (j : Nat) t, fn.params[j]? = some t → Tryd.pinned.checked.prog.wantsStandIn t = false := by
  obtain rfl : f = 4 := Option.some.inj ((show Tryd.prog.funcNamed "turnpike/turnpikelaw18.MessageClean" = some 4 by kernel_rfl).symm.trans hf) |>.symm
  obtain rfl : fn = Tryd.f4 := (Option.some.inj (Tryd.func4.symm.trans hfn)).symm
  refine ⟨by kernel_rfl, fun j t ht => ?_⟩
  rw [Tryd.params4] at ht
  have h : t = 22 := by simpa using Array.mem_of_getElem? ht
  subst h
  · exact (show Tryd.prog.wantsStandIn 22 = false by kernel_rfl)

theorem messageCleanUpto_card : Rows.MessageCleanUptoCardSaid :=
  Claim7.holds_tied_plain_at .later [] _ _ _ _ clean_said (fun _ h => by cases h) (by kernel_rfl) (fun _ h => by cases h) messageCleanUpto_row_tie rfl ⟨rfl, rfl⟩ (by kernel_rfl) rfl clean_plain (by kernel_rfl)

end Go.Proofs.YtohhdoibkopoiaaDoor.Msg
