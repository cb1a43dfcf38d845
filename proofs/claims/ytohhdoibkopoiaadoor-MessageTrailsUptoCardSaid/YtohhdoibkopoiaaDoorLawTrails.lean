/- The law MessageTrails, walked. -/
import Derived.Test.YtohhdoibkopoiaaDoorMsgTrail
import Derived.Test.YtohhdoibkopoiaaDoorMsgAwake
set_option linter.unusedVariables false
set_option linter.unusedSimpArgs false
namespace Go.Proofs.YtohhdoibkopoiaaDoor.Msg
open Go.RowKit Go.Proofs.YtohhdoibkopoiaaDoor.Mp

set_option maxRecDepth 100000 in
theorem MessageTrails_any {w : World} {A : Option Addr} {fs : List Fl} {cp : Nat} (h : FsAt w A fs) (hsz : ∀ f ∈ fs, f.n.size ≤ 9223372036854775807 ∧ f.v.size ≤ 9223372036854775807) (c s : Int) :
    Calls Tryd.prog 7 #[.slice A fs.length cp, .agg #[.int .i64 c, .int .i64 s]] w fun e w' => e = .returned (.bool true) ∧ Below w.heap.size w w' := by
  have H := Kp.mk h
  have HZ := Kp.mk hsz
  have HB1 := Kp.mk ((Below.refl w.heap.size w).alloc (Nat.le_refl _) (.cells #[.int .i64 c, .int .i64 s] 24))
  have HX := Kp.mk (heap_alloc_new w (.cells #[.int .i64 c, .int .i64 s] 24))
  have x0 : (w.alloc (.cells #[.int .i64 c, .int .i64 s] 24)).cell? ⟨w.heap.size, 0, none⟩ = some (.int .i64 c) := by rw [cell_of_blk HX.out]; rfl
  have x1 : (w.alloc (.cells #[.int .i64 c, .int .i64 s] 24)).cell? ⟨w.heap.size, 1, none⟩ = some (.int .i64 s) := by rw [cell_of_blk HX.out]; rfl
  clear h hsz
  go_enter Tryd.func7, Tryd.ntmps7
  go_wp2_with fail
  generalize hW : w.alloc (.cells #[.int .i64 c, .int .i64 s] 24) = W at HB1 HX x0 x1 ⊢
  have hlt : w.heap.size < W.heap.size := lt_of_heap HX.out
  refine Reg.region_held (fun W => W.cell? ⟨w.heap.size, 0, none⟩ = some (.int .i64 c) ∧ W.cell? ⟨w.heap.size, 1, none⟩ = some (.int .i64 s)) []
    [(0, .slice A fs.length cp), (2, .agg #[.int .i64 c, .int .i64 s]), (4, .slice A fs.length cp), (5, .pointer (some ⟨w.heap.size, 0, none⟩)), (6, .int .i64 c), (7, .pointer (some ⟨w.heap.size, 1, none⟩)), (8, .int .i64 s)] [1, 3, 9, 10, 11, 12, 13, 14] (by kernel_rfl) (by kernel_rfl) ⟨x0, x1⟩ ?_
  repeat (refine Reg.headS_cons rfl rfl (by kernel_rfl) (by simp only [Act.put, List.setIfInBounds_toArray, List.set_cons_zero, List.set_cons_succ]; rfl) (fun W hS D hD => ?_) ?_; (obtain ⟨s0, s1⟩ := hS; go_wp2; exact hD))
  refine Reg.headS_nil ?_
  refine Reg.tailS_cons rfl (fun K hK => ?_)
  go_wp2_with fail
  have HD := Kp.mk ((Below.refl W.heap.size W).drew)
  refine (copy_any (H.out.below (HB1.out.trans (HD.out.mono HB1.out.size)))).mono ?_
  rintro e w2 ⟨rfl, hrow, hb⟩
  have hb' : Below W.heap.size W w2 := HD.out.trans hb
  have HFC := Kp.mk (FsAt.of_row hrow H.out.len)
  have HB2 := Kp.mk (HB1.out.trans (hb'.mono HB1.out.size))
  go_wp2_with fail
  refine hK _ _ ⟨(hb'.cell (p := ⟨w.heap.size, 0, none⟩) hlt).trans x0, (hb'.cell (p := ⟨w.heap.size, 1, none⟩) hlt).trans x1⟩ ?_
  have y0 := (hb'.cell (p := ⟨w.heap.size, 0, none⟩) hlt).trans x0
  have y1 := (hb'.cell (p := ⟨w.heap.size, 1, none⟩) hlt).trans x1
  have hlt2 := Nat.lt_of_lt_of_le hlt hb'.size
  clear hK K hrow hb hb' x0 x1
  refine Reg.tailS_cons rfl (fun K hK => ?_)
  go_wp2_with fail
  refine (trailers_any HFC.out HZ.out c s).mono ?_
  rintro e w3 ⟨rfl, hb⟩
  have HB3 := Kp.mk (HB2.out.trans (hb.mono HB2.out.size))
  have z0 := (hb.cell (p := ⟨w.heap.size, 0, none⟩) hlt2).trans y0
  have z1 := (hb.cell (p := ⟨w.heap.size, 1, none⟩) hlt2).trans y1
  have hlt3 := Nat.lt_of_lt_of_le hlt2 hb.size
  go_wp2_with fail
  refine hK _ _ ⟨z0, z1⟩ ?_
  clear hK K hb y0 y1
  refine Reg.tailS_cons rfl (fun K hK => ?_)
  go_wp2_with fail
  refine (Trailers_any (H.out.below HB3.out) HZ.out c s).mono ?_
  rintro e w4 ⟨rfl, hb⟩
  have HB4 := Kp.mk (HB3.out.trans (hb.mono HB3.out.size))
  have u0 := (hb.cell (p := ⟨w.heap.size, 0, none⟩) hlt3).trans z0
  have u1 := (hb.cell (p := ⟨w.heap.size, 1, none⟩) hlt3).trans z1
  have hlt4 := Nat.lt_of_lt_of_le hlt3 hb.size
  go_wp2_with fail
  refine hK _ _ ⟨u0, u1⟩ ?_
  clear hK K hb z0 z1
  refine Reg.tailS_cons rfl (fun K hK => ?_)
  go_wp2_with fail
  refine hK _ _ ⟨u0, u1⟩ ?_
  clear hK K
  refine Reg.tailS_cons rfl (fun K hK => ?_)
  go_wp2_with fail
  refine hK _ _ ⟨u0, u1⟩ ?_
  clear hK K
  refine Reg.tailS_cons rfl (fun K hK => ?_)
  go_wp2_with fail
  refine (awake_any _).mono ?_
  rintro e w5 ⟨rfl, hb⟩
  have HB5 := Kp.mk (HB4.out.trans (hb.mono HB4.out.size))
  have v0 := (hb.cell (p := ⟨w.heap.size, 0, none⟩) hlt4).trans u0
  have v1 := (hb.cell (p := ⟨w.heap.size, 1, none⟩) hlt4).trans u1
  go_wp2_with fail
  refine hK _ _ ⟨v0, v1⟩ ?_
  clear hK K hb u0 u1
  refine Reg.tailS_cons rfl (fun K hK => ?_)
  go_wp2_with fail
  refine hK _ _ ⟨v0, v1⟩ ?_
  clear hK K
  refine Reg.tailS_cons rfl (fun K hK => ?_)
  go_wp2_with fail
  refine hK _ _ ⟨v0, v1⟩ ?_
  clear hK K
  refine Reg.tailS_nil ?_
  go_wp2_with fail
  go_ret
  exact ⟨rfl, HB5.out⟩

end Go.Proofs.YtohhdoibkopoiaaDoor.Msg
