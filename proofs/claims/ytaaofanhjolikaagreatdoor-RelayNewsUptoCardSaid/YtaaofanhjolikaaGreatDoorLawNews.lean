/- The law RelayNews, walked whole by the machine of names: at every config it returns true, and what stood before stands. Condition: each number of the config is an int. -/
import Derived.Test.YtaaofanhjolikaaGreatDoorSxNews2
set_option autoImplicit false
set_option relaxedAutoImplicit false
set_option linter.unusedVariables false
namespace Go.Proofs.YtaaofanhjolikaaGreatDoor.Sx
open Go Go.RowKit

def opOf (l : List Int) : Nat → Value := fun i => .int .i64 (l.getD i 0)
theorem dlin {l : List Int} {i : Nat} {lo hi n : Int} (hn : l.getD i 0 = n) (h1 : lo ≤ n) (h2 : n ≤ hi) : den (v0 Gn (opOf l)) (.lin 0 i lo hi) = some (.int .i64 n) := by
  have : (v0 Gn (opOf l)).op i = .int .i64 n := by rw [← hn]; rfl
  simp only [den, this]
  rw [linD_mk h1 h2, Int.add_zero]
theorem dopq {l : List Int} {i : Nat} {n : Int} (hn : l.getD i 0 = n) : den (v0 Gn (opOf l)) (.opq i) = some (.int .i64 n) := by
  rw [← hn]; rfl

theorem news_of {cs : List V} (hr : news cs = true) {l : List Int} (hd : denL (v0 Gn (opOf l)) cs = some (l.map (Value.int .i64))) (w : World) :
    Calls Tryz.prog 5 #[.agg (l.map (Value.int .i64)).toArray] w fun e w' => e = .returned (.bool true) ∧ Below w.heap.size w w' := by
  obtain ⟨h', nx', he⟩ := isT_some hr
  obtain ⟨_, _, hs⟩ := runsN 1000 60 _ _ _ _ _ _ _ he
  have ha : denL (v0 Gn (opOf l)) [.agg cs] = some [.agg (l.map (Value.int .i64)).toArray] := by
    refine denL_mk ?_ rfl
    simp only [den, hd]
  refine Calls.mono (hs _ w _ conc_none (v0_ok fun _ => rfl) ha (fun n hn => ?_)) ?_
  · have := Gn_le
    have h9 : ¬ n < Gn := by omega
    simp [v0, h9]
  · rintro e w' ⟨v', y, rfl, hy, _, hext, _, _⟩
    simp only [den] at hy; injection hy with hy; subst hy
    exact ⟨rfl, below_of_ext hext (Nat.le_refl _) (fun n C b hC => by simp [T.get] at hC)⟩

theorem RelayNews_any (b l q i f d lc ls rt bu ti he ex : Int) (hr : ∀ n ∈ [b, l, q, i, f, d, lc, ls, rt, bu, ti, he, ex], -9223372036854775808 ≤ n ∧ n ≤ 9223372036854775807) (w : World) :
    Calls Tryz.prog 5 #[.agg #[.int .i64 b, .int .i64 l, .int .i64 q, .int .i64 i, .int .i64 f, .int .i64 d, .int .i64 lc, .int .i64 ls, .int .i64 rt, .int .i64 bu, .int .i64 ti, .int .i64 he, .int .i64 ex]] w
      fun e w' => e = .returned (.bool true) ∧ Below w.heap.size w w' := by
  simp only [List.forall_mem_cons] at hr
  obtain ⟨r0, r1, r2, r3, r4, r5, r6, r7, r8, r9, r10, r11, r12, -⟩ := hr
  have main : ∀ cs, news cs = true → denL (v0 Gn (opOf [b, l, q, i, f, d, lc, ls, rt, bu, ti, he, ex])) cs = some ([b, l, q, i, f, d, lc, ls, rt, bu, ti, he, ex].map (Value.int .i64)) → _ := fun cs h1 h2 => news_of h1 h2 w
  have pool : ∀ cs, cs ∈ badPool → denL (v0 Gn (opOf [b, l, q, i, f, d, lc, ls, rt, bu, ti, he, ex])) cs = some ([b, l, q, i, f, d, lc, ls, rt, bu, ti, he, ex].map (Value.int .i64)) → _ := fun cs h1 h2 => main cs (List.all_eq_true.1 badPool_all cs h1) h2
  by_cases hh : b < 1
  · refine pool (loAt 0) (by simp [badPool]) ?_
    refine denL_mk ?_ (denL_mk ?_ (denL_mk ?_ (denL_mk ?_ (denL_mk ?_ (denL_mk ?_ (denL_mk ?_ (denL_mk ?_ (denL_mk ?_ (denL_mk ?_ (denL_mk ?_ (denL_mk ?_ (denL_mk ?_ rfl))))))))))))
    all_goals first | exact dopq rfl | exact dlin rfl (by first | omega | (simp only [small]; omega)) (by first | omega | (simp only [big]; omega)) | rfl
  by_cases hh : 16 < b
  · refine pool (hiAt 0) (by simp [badPool]) ?_
    refine denL_mk ?_ (denL_mk ?_ (denL_mk ?_ (denL_mk ?_ (denL_mk ?_ (denL_mk ?_ (denL_mk ?_ (denL_mk ?_ (denL_mk ?_ (denL_mk ?_ (denL_mk ?_ (denL_mk ?_ (denL_mk ?_ rfl))))))))))))
    all_goals first | exact dopq rfl | exact dlin rfl (by first | omega | (simp only [small]; omega)) (by first | omega | (simp only [big]; omega)) | rfl
  by_cases hh : l < 1
  · refine pool (loAt 1) (by simp [badPool]) ?_
    refine denL_mk ?_ (denL_mk ?_ (denL_mk ?_ (denL_mk ?_ (denL_mk ?_ (denL_mk ?_ (denL_mk ?_ (denL_mk ?_ (denL_mk ?_ (denL_mk ?_ (denL_mk ?_ (denL_mk ?_ (denL_mk ?_ rfl))))))))))))
    all_goals first | exact dopq rfl | exact dlin rfl (by first | omega | (simp only [small]; omega)) (by first | omega | (simp only [big]; omega)) | rfl
  by_cases hh : 16 < l
  · refine pool (hiAt 1) (by simp [badPool]) ?_
    refine denL_mk ?_ (denL_mk ?_ (denL_mk ?_ (denL_mk ?_ (denL_mk ?_ (denL_mk ?_ (denL_mk ?_ (denL_mk ?_ (denL_mk ?_ (denL_mk ?_ (denL_mk ?_ (denL_mk ?_ (denL_mk ?_ rfl))))))))))))
    all_goals first | exact dopq rfl | exact dlin rfl (by first | omega | (simp only [small]; omega)) (by first | omega | (simp only [big]; omega)) | rfl
  by_cases hh : q < 0
  · refine pool (loAt 2) (by simp [badPool]) ?_
    refine denL_mk ?_ (denL_mk ?_ (denL_mk ?_ (denL_mk ?_ (denL_mk ?_ (denL_mk ?_ (denL_mk ?_ (denL_mk ?_ (denL_mk ?_ (denL_mk ?_ (denL_mk ?_ (denL_mk ?_ (denL_mk ?_ rfl))))))))))))
    all_goals first | exact dopq rfl | exact dlin rfl (by first | omega | (simp only [small]; omega)) (by first | omega | (simp only [big]; omega)) | rfl
  by_cases hh : 256 < q
  · refine pool (hiAt 2) (by simp [badPool]) ?_
    refine denL_mk ?_ (denL_mk ?_ (denL_mk ?_ (denL_mk ?_ (denL_mk ?_ (denL_mk ?_ (denL_mk ?_ (denL_mk ?_ (denL_mk ?_ (denL_mk ?_ (denL_mk ?_ (denL_mk ?_ (denL_mk ?_ rfl))))))))))))
    all_goals first | exact dopq rfl | exact dlin rfl (by first | omega | (simp only [small]; omega)) (by first | omega | (simp only [big]; omega)) | rfl
  by_cases hh : i < 1
  · refine pool (loAt 3) (by simp [badPool]) ?_
    refine denL_mk ?_ (denL_mk ?_ (denL_mk ?_ (denL_mk ?_ (denL_mk ?_ (denL_mk ?_ (denL_mk ?_ (denL_mk ?_ (denL_mk ?_ (denL_mk ?_ (denL_mk ?_ (denL_mk ?_ (denL_mk ?_ rfl))))))))))))
    all_goals first | exact dopq rfl | exact dlin rfl (by first | omega | (simp only [small]; omega)) (by first | omega | (simp only [big]; omega)) | rfl
  by_cases hh : 1048576 < i
  · refine pool (hiAt 3) (by simp [badPool]) ?_
    refine denL_mk ?_ (denL_mk ?_ (denL_mk ?_ (denL_mk ?_ (denL_mk ?_ (denL_mk ?_ (denL_mk ?_ (denL_mk ?_ (denL_mk ?_ (denL_mk ?_ (denL_mk ?_ (denL_mk ?_ (denL_mk ?_ rfl))))))))))))
    all_goals first | exact dopq rfl | exact dlin rfl (by first | omega | (simp only [small]; omega)) (by first | omega | (simp only [big]; omega)) | rfl
  by_cases hh : d < 1 ∧ f < 1
  · refine pool (fd (.lin 0 4 small 0) (.lin 0 5 small 0)) (by simp [badPool]) ?_
    refine denL_mk ?_ (denL_mk ?_ (denL_mk ?_ (denL_mk ?_ (denL_mk ?_ (denL_mk ?_ (denL_mk ?_ (denL_mk ?_ (denL_mk ?_ (denL_mk ?_ (denL_mk ?_ (denL_mk ?_ (denL_mk ?_ rfl))))))))))))
    all_goals first | exact dopq rfl | exact dlin rfl (by first | omega | (simp only [small]; omega)) (by first | omega | (simp only [big]; omega)) | rfl
  by_cases hh : d < 1 ∧ 100 < f
  · refine pool (fd (.lin 0 4 101 big) (.lin 0 5 small 0)) (by simp [badPool]) ?_
    refine denL_mk ?_ (denL_mk ?_ (denL_mk ?_ (denL_mk ?_ (denL_mk ?_ (denL_mk ?_ (denL_mk ?_ (denL_mk ?_ (denL_mk ?_ (denL_mk ?_ (denL_mk ?_ (denL_mk ?_ (denL_mk ?_ rfl))))))))))))
    all_goals first | exact dopq rfl | exact dlin rfl (by first | omega | (simp only [small]; omega)) (by first | omega | (simp only [big]; omega)) | rfl
  by_cases hh : d < 1
  · refine pool (fd (.lin 0 4 1 100) (.lin 0 5 small 0)) (by simp [badPool]) ?_
    refine denL_mk ?_ (denL_mk ?_ (denL_mk ?_ (denL_mk ?_ (denL_mk ?_ (denL_mk ?_ (denL_mk ?_ (denL_mk ?_ (denL_mk ?_ (denL_mk ?_ (denL_mk ?_ (denL_mk ?_ (denL_mk ?_ rfl))))))))))))
    all_goals first | exact dopq rfl | exact dlin rfl (by first | omega | (simp only [small]; omega)) (by first | omega | (simp only [big]; omega)) | rfl
  by_cases hh : 1048576 < d ∧ f < 1
  · refine pool (fd (.lin 0 4 small 0) (.lin 0 5 1048577 big)) (by simp [badPool]) ?_
    refine denL_mk ?_ (denL_mk ?_ (denL_mk ?_ (denL_mk ?_ (denL_mk ?_ (denL_mk ?_ (denL_mk ?_ (denL_mk ?_ (denL_mk ?_ (denL_mk ?_ (denL_mk ?_ (denL_mk ?_ (denL_mk ?_ rfl))))))))))))
    all_goals first | exact dopq rfl | exact dlin rfl (by first | omega | (simp only [small]; omega)) (by first | omega | (simp only [big]; omega)) | rfl
  by_cases hh : 1048576 < d ∧ 100 < f
  · refine pool (fd (.lin 0 4 101 big) (.lin 0 5 1048577 big)) (by simp [badPool]) ?_
    refine denL_mk ?_ (denL_mk ?_ (denL_mk ?_ (denL_mk ?_ (denL_mk ?_ (denL_mk ?_ (denL_mk ?_ (denL_mk ?_ (denL_mk ?_ (denL_mk ?_ (denL_mk ?_ (denL_mk ?_ (denL_mk ?_ rfl))))))))))))
    all_goals first | exact dopq rfl | exact dlin rfl (by first | omega | (simp only [small]; omega)) (by first | omega | (simp only [big]; omega)) | rfl
  by_cases hh : 1048576 < d
  · refine pool (fd (.lin 0 4 1 100) (.lin 0 5 1048577 big)) (by simp [badPool]) ?_
    refine denL_mk ?_ (denL_mk ?_ (denL_mk ?_ (denL_mk ?_ (denL_mk ?_ (denL_mk ?_ (denL_mk ?_ (denL_mk ?_ (denL_mk ?_ (denL_mk ?_ (denL_mk ?_ (denL_mk ?_ (denL_mk ?_ rfl))))))))))))
    all_goals first | exact dopq rfl | exact dlin rfl (by first | omega | (simp only [small]; omega)) (by first | omega | (simp only [big]; omega)) | rfl
  by_cases hh : f < 1
  · refine pool (fd (.lin 0 4 small 0) (.lin 0 5 1 1048576)) (by simp [badPool]) ?_
    refine denL_mk ?_ (denL_mk ?_ (denL_mk ?_ (denL_mk ?_ (denL_mk ?_ (denL_mk ?_ (denL_mk ?_ (denL_mk ?_ (denL_mk ?_ (denL_mk ?_ (denL_mk ?_ (denL_mk ?_ (denL_mk ?_ rfl))))))))))))
    all_goals first | exact dopq rfl | exact dlin rfl (by first | omega | (simp only [small]; omega)) (by first | omega | (simp only [big]; omega)) | rfl
  by_cases hh : 100 < f
  · refine pool (fd (.lin 0 4 101 big) (.lin 0 5 1 1048576)) (by simp [badPool]) ?_
    refine denL_mk ?_ (denL_mk ?_ (denL_mk ?_ (denL_mk ?_ (denL_mk ?_ (denL_mk ?_ (denL_mk ?_ (denL_mk ?_ (denL_mk ?_ (denL_mk ?_ (denL_mk ?_ (denL_mk ?_ (denL_mk ?_ rfl))))))))))))
    all_goals first | exact dopq rfl | exact dlin rfl (by first | omega | (simp only [small]; omega)) (by first | omega | (simp only [big]; omega)) | rfl
  have rest : ∀ cs, cs ∈ [okF, loAt 8, hiAt 8, loAt 9, hiAt 9, loAt 10, hiAt 10, loAt 11, hiAt 11, loAt 12, hiAt 12] → denL (v0 Gn (opOf [b, l, q, i, f, d, lc, ls, rt, bu, ti, he, ex])) (withB b cs) = some ([b, l, q, i, f, d, lc, ls, rt, bu, ti, he, ex].map (Value.int .i64)) → _ :=
    fun cs h1 h2 => main (withB b cs) (List.all_eq_true.1 (news_b b (by omega) (by omega)) _ (List.mem_map_of_mem h1)) h2
  by_cases hh : rt < 0
  · refine rest (loAt 8) (by simp) ?_
    refine denL_mk ?_ (denL_mk ?_ (denL_mk ?_ (denL_mk ?_ (denL_mk ?_ (denL_mk ?_ (denL_mk ?_ (denL_mk ?_ (denL_mk ?_ (denL_mk ?_ (denL_mk ?_ (denL_mk ?_ (denL_mk ?_ rfl))))))))))))
    all_goals first | exact dopq rfl | exact dlin rfl (by first | omega | (simp only [small]; omega)) (by first | omega | (simp only [big]; omega)) | rfl
  by_cases hh : 5 < rt
  · refine rest (hiAt 8) (by simp) ?_
    refine denL_mk ?_ (denL_mk ?_ (denL_mk ?_ (denL_mk ?_ (denL_mk ?_ (denL_mk ?_ (denL_mk ?_ (denL_mk ?_ (denL_mk ?_ (denL_mk ?_ (denL_mk ?_ (denL_mk ?_ (denL_mk ?_ rfl))))))))))))
    all_goals first | exact dopq rfl | exact dlin rfl (by first | omega | (simp only [small]; omega)) (by first | omega | (simp only [big]; omega)) | rfl
  by_cases hh : bu < 64
  · refine rest (loAt 9) (by simp) ?_
    refine denL_mk ?_ (denL_mk ?_ (denL_mk ?_ (denL_mk ?_ (denL_mk ?_ (denL_mk ?_ (denL_mk ?_ (denL_mk ?_ (denL_mk ?_ (denL_mk ?_ (denL_mk ?_ (denL_mk ?_ (denL_mk ?_ rfl))))))))))))
    all_goals first | exact dopq rfl | exact dlin rfl (by first | omega | (simp only [small]; omega)) (by first | omega | (simp only [big]; omega)) | rfl
  by_cases hh : 65536 < bu
  · refine rest (hiAt 9) (by simp) ?_
    refine denL_mk ?_ (denL_mk ?_ (denL_mk ?_ (denL_mk ?_ (denL_mk ?_ (denL_mk ?_ (denL_mk ?_ (denL_mk ?_ (denL_mk ?_ (denL_mk ?_ (denL_mk ?_ (denL_mk ?_ (denL_mk ?_ rfl))))))))))))
    all_goals first | exact dopq rfl | exact dlin rfl (by first | omega | (simp only [small]; omega)) (by first | omega | (simp only [big]; omega)) | rfl
  by_cases hh : ti < 1
  · refine rest (loAt 10) (by simp) ?_
    refine denL_mk ?_ (denL_mk ?_ (denL_mk ?_ (denL_mk ?_ (denL_mk ?_ (denL_mk ?_ (denL_mk ?_ (denL_mk ?_ (denL_mk ?_ (denL_mk ?_ (denL_mk ?_ (denL_mk ?_ (denL_mk ?_ rfl))))))))))))
    all_goals first | exact dopq rfl | exact dlin rfl (by first | omega | (simp only [small]; omega)) (by first | omega | (simp only [big]; omega)) | rfl
  by_cases hh : 1048576 < ti
  · refine rest (hiAt 10) (by simp) ?_
    refine denL_mk ?_ (denL_mk ?_ (denL_mk ?_ (denL_mk ?_ (denL_mk ?_ (denL_mk ?_ (denL_mk ?_ (denL_mk ?_ (denL_mk ?_ (denL_mk ?_ (denL_mk ?_ (denL_mk ?_ (denL_mk ?_ rfl))))))))))))
    all_goals first | exact dopq rfl | exact dlin rfl (by first | omega | (simp only [small]; omega)) (by first | omega | (simp only [big]; omega)) | rfl
  by_cases hh : he < 64
  · refine rest (loAt 11) (by simp) ?_
    refine denL_mk ?_ (denL_mk ?_ (denL_mk ?_ (denL_mk ?_ (denL_mk ?_ (denL_mk ?_ (denL_mk ?_ (denL_mk ?_ (denL_mk ?_ (denL_mk ?_ (denL_mk ?_ (denL_mk ?_ (denL_mk ?_ rfl))))))))))))
    all_goals first | exact dopq rfl | exact dlin rfl (by first | omega | (simp only [small]; omega)) (by first | omega | (simp only [big]; omega)) | rfl
  by_cases hh : 65536 < he
  · refine rest (hiAt 11) (by simp) ?_
    refine denL_mk ?_ (denL_mk ?_ (denL_mk ?_ (denL_mk ?_ (denL_mk ?_ (denL_mk ?_ (denL_mk ?_ (denL_mk ?_ (denL_mk ?_ (denL_mk ?_ (denL_mk ?_ (denL_mk ?_ (denL_mk ?_ rfl))))))))))))
    all_goals first | exact dopq rfl | exact dlin rfl (by first | omega | (simp only [small]; omega)) (by first | omega | (simp only [big]; omega)) | rfl
  by_cases hh : ex < 1
  · refine rest (loAt 12) (by simp) ?_
    refine denL_mk ?_ (denL_mk ?_ (denL_mk ?_ (denL_mk ?_ (denL_mk ?_ (denL_mk ?_ (denL_mk ?_ (denL_mk ?_ (denL_mk ?_ (denL_mk ?_ (denL_mk ?_ (denL_mk ?_ (denL_mk ?_ rfl))))))))))))
    all_goals first | exact dopq rfl | exact dlin rfl (by first | omega | (simp only [small]; omega)) (by first | omega | (simp only [big]; omega)) | rfl
  by_cases hh : 256 < ex
  · refine rest (hiAt 12) (by simp) ?_
    refine denL_mk ?_ (denL_mk ?_ (denL_mk ?_ (denL_mk ?_ (denL_mk ?_ (denL_mk ?_ (denL_mk ?_ (denL_mk ?_ (denL_mk ?_ (denL_mk ?_ (denL_mk ?_ (denL_mk ?_ (denL_mk ?_ rfl))))))))))))
    all_goals first | exact dopq rfl | exact dlin rfl (by first | omega | (simp only [small]; omega)) (by first | omega | (simp only [big]; omega)) | rfl
  refine rest okF (by simp) ?_
  refine denL_mk ?_ (denL_mk ?_ (denL_mk ?_ (denL_mk ?_ (denL_mk ?_ (denL_mk ?_ (denL_mk ?_ (denL_mk ?_ (denL_mk ?_ (denL_mk ?_ (denL_mk ?_ (denL_mk ?_ (denL_mk ?_ rfl))))))))))))
  all_goals first | exact dopq rfl | exact dlin rfl (by first | omega | (simp only [small]; omega)) (by first | omega | (simp only [big]; omega)) | rfl
end Go.Proofs.YtaaofanhjolikaaGreatDoor.Sx
