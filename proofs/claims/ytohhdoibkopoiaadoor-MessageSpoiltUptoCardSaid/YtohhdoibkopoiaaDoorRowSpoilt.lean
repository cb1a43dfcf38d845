/- The law MessageSpoilt: its statement where what it reads is of bulk at most 1048576, and its card. No condition but the form's own. -/
import Derived.Test.YtohhdoibkopoiaaDoorRowKit2
import Derived.Test.YtohhdoibkopoiaaDoorLawSpoilt
set_option linter.unusedVariables false
set_option linter.unusedSimpArgs false
namespace Go.Proofs.YtohhdoibkopoiaaDoor.Msg
open Go.ChangeShapes Go.WideShapes Go.ChangeAt Go.RowKit Go.Deep

theorem spoilt_contract (H : Type) (enc : TypeId × Value → H) (W : World) (base : Nat) (args : Array Value) (ds gs : List (DataW H)) (before : List MemPlace)
    (hval : ∀ (j : Nat) t v, Tryd.f5.params[j]? = some t → args[j]? = some v → Value.okWide Tryd.prog W .any base t v)
    (hW : DataW.Whole enc Tryd.prog Tryd.f5.params.toList Rows.messageSpoiltSpec.vars false W args.toList ds gs before) (hk : Rows.uptoSmall H (ds ++ gs) = true) :
    Calls Tryd.prog 5 args W fun e W' => ∃ v, e = .returned v ∧ Rows.messageSpoiltSpec.post enc Tryd.prog Tryd.f5 false true false false W args v W' := by
  have hW' := hW
  obtain ⟨p, q, hA, hV, hbef, hfz, hnd⟩ := hW
  obtain ⟨rfl, _⟩ := trodVars_none hV
  rw [Tryd.params5] at hA hval
  obtain ⟨v0, vs0, d0, ds0, p0, q0, hargs, rfl, rfl, h0, r0⟩ := trodAll_cons hA
  obtain ⟨v1, vs1, d1, ds1, p1, q1, rfl, rfl, rfl, h1, r1⟩ := trodAll_cons r0
  obtain ⟨v2, vs2, d2, ds2, p2, q2, rfl, rfl, rfl, h2, r2⟩ := trodAll_cons r1
  obtain ⟨rfl, rfl, rfl⟩ := trodAll_nil r2
  obtain rfl : args = #[v0, v1, v2] := by cases args; simp_all
  obtain ⟨A, cp, fs, rfl, hd, hcell, hsz⟩ := open_fields h0 (hval 0 22 v0 rfl rfl)
  obtain ⟨at_, rfl, rfl, rfl, hat⟩ := open_int Tryd.underlying3 (hval 1 3 v1 rfl rfl) h1
  obtain ⟨c0, c1, y0, y1, n, rfl, rfl, _, t0, t1⟩ := Go.Joins.open_agg2 Tryd.underlying37 (by kernel_rfl) (by kernel_rfl) (hval 2 37 v2 rfl rfl) h2
  obtain ⟨mn, e0, rfl, zn⟩ := DataW.trod_string Tryd.underlying9 t0
  obtain ⟨mv, e1, rfl, zv⟩ := DataW.trod_string Tryd.underlying9 t1
  simp only [List.cons.injEq, and_true] at e0 e1
  subst e0 e1
  have hlen := bulk_len (fs := fs) (l := _) (List.mem_append_left _ (List.mem_cons_self ..)) hd hk
  have hbs := bulk_spoilt (mn := mn) (mv := mv) hd hk
  refine (MessageSpoilt_any ⟨hcell, hlen⟩ hsz at_ (int_range hat) mn mv (max_size zn) (max_size zv) hbs.1 hbs.2).mono fun e W' ⟨he, hb⟩ => ?_
  exact ⟨_, he, post_true hW' rfl (by rw [Tryd.params5]; decide) rfl rfl rfl rfl hb⟩

theorem spoilt_met (os : Os) : laidMet Tryd.prog Rows.messageSpoiltUptoRow.laid ((laidWorld os).forCall (fun _ _ => 0) ⟨#[], #[.slice none 0 0, .int .i64 0, .agg #[.string ⟨#[]⟩, .string ⟨#[]⟩]], []⟩).memory :=
  laidMet_of_run' 8 (by kernel_rfl) (by kernel_rfl)
theorem spoilt_reads (os : Os) {H : Type} (enc : TypeId × Value → H) : ∃ places, DataW.whole enc Tryd.prog ((laidWorld os).forCall (fun _ _ => 0) ⟨#[], #[.slice none 0 0, .int .i64 0, .agg #[.string ⟨#[]⟩, .string ⟨#[]⟩]], []⟩).memory Tryd.f5.params.toList Rows.messageSpoiltSpec.vars false #[Value.slice none 0 0, .int .i64 0, .agg #[.string ⟨#[]⟩, .string ⟨#[]⟩]].toList 8 = some ([.nil, .lit (.int .i64 0), .agg [.lit (.string []), .lit (.string [])]], [], places) :=
  ⟨[], by kernel_rfl⟩

set_option maxRecDepth 100000 in
theorem spoilt_lifted (os : Os) (started : os.Started) (H : Type) (enc : TypeId × Value → H) (F : Stop.Interp) :
    ReturnsInHanded {} Tryd.checked os 5 .any ((Rows.OpenSpec.upto Rows.messageSpoiltSpec).preRow enc Tryd.prog Tryd.f5 Rows.messageSpoiltUptoRow.domain false Rows.messageSpoiltUptoRow.laid) (((Rows.OpenSpec.upto Rows.messageSpoiltSpec).at F).post enc Tryd.prog Tryd.f5 false true false false) := by
  obtain ⟨places, hx⟩ := spoilt_reads os enc
  refine returnsInHanded_of_row (C := Tryd.checked) (s := Rows.OpenSpec.upto Rows.messageSpoiltSpec) ownK started (by kernel_rfl) Tryd.func5
    (witness_row_at (enc := enc) (C := Tryd.checked) false (laidWorld os) #[.slice none 0 0, .int .i64 0, .agg #[.string ⟨#[]⟩, .string ⟨#[]⟩]] rfl (by kernel_rfl) (by kernel_rfl) (by kernel_rfl)
      (OpenSpec.preRow_of_cond 8 hx (by kernel_rfl) (fun k hk => by cases hk; kernel_rfl) (by kernel_rfl) (spoilt_met os))) ?_
  intro W base args ds gs before hval hW _ hcond _ _ _ _
  exact spoilt_contract H enc W base args ds gs before hval hW (hcond _ rfl)

theorem spoilt_said : Rows.MessageSpoiltUptoSaid :=
  OpenClaim.holds_of_cond 5 Tryd.f5 rfl rfl rfl rfl rfl rfl rfl ⟨rfl, rfl, rfl, rfl, rfl⟩ rfl rfl rfl rfl rfl (by kernel_rfl) Tryd.func5 (by kernel_rfl)
    (of_decide_eq_true (by kernel_rfl)) (by unfold Func.isWrapper; first | (rw [if_pos (by decide +kernel)]; kernel_rfl) | (rw [if_neg (by decide +kernel)]; exact ⟨rfl, rfl⟩))
    (fun os started H enc _ F => by rw [OpenClaim.pre_eq_preRow]; exact spoilt_lifted os started H enc F)

theorem spoilt_plain (f : FuncId) (fn : Func) (hf : Tryd.pinned.checked.prog.funcNamed "turnpike/turnpikelaw18.MessageSpoilt" = some f) (hfn : Tryd.pinned.checked.prog.funcs[f]? = some fn) :
    true = Tryd.pinned.checked.prog.looks [] ∧ ∀ (j : Nat) t, fn.params[j]? = some t → Tryd.pinned.checked.prog.wantsStandIn t = false := by
  obtain rfl : f = 5 := Option.some.inj ((show Tryd.prog.funcNamed "turnpike/turnpikelaw18.MessageSpoilt" = some 5 by kernel_rfl).symm.trans hf) |>.symm
  obtain rfl : fn = Tryd.f5 := (Option.some.inj (Tryd.func5.symm.trans hfn)).symm
  refine ⟨by kernel_rfl, fun j t ht => ?_⟩
  rw [Tryd.params5] at ht
  have h : t = 22 ∨ t = 3 ∨ t = 37 := by simpa using Array.mem_of_getElem? ht
  rcases h with rfl | rfl | rfl
  · exact (show Tryd.prog.wantsStandIn 22 = false by kernel_rfl)
  · exact (show Tryd.prog.wantsStandIn 3 = false by kernel_rfl)
  · exact (show Tryd.prog.wantsStandIn 37 = false by kernel_rfl)

theorem messageSpoiltUpto_card : Rows.MessageSpoiltUptoCardSaid :=
  Claim7.holds_tied_plain_at .later [] _ _ _ _ spoilt_said (fun _ h => by cases h) (by kernel_rfl) (fun _ h => by cases h) messageSpoiltUpto_row_tie rfl ⟨rfl, rfl⟩ (by kernel_rfl) rfl spoilt_plain (by kernel_rfl)

end Go.Proofs.YtohhdoibkopoiaaDoor.Msg
