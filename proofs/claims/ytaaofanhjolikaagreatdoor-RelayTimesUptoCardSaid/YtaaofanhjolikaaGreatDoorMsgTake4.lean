/- The contract of (*reading).take: a host field, and fields that are kept. -/
import Derived.Test.YtaaofanhjolikaaGreatDoorMsgTake3
set_option linter.unusedVariables false
set_option linter.unusedSimpArgs false
namespace Go.Proofs.YtaaofanhjolikaaGreatDoor.Msg
open Go.RowKit Go.Proofs.YtaaofanhjolikaaGreatDoor.Mp

section
variable {w : World} {B p : Nat} {st : PSt} {mb : Nat} {hv fv : Value} {gs : List Gh}

theorem row_set {w1 : World} {B p i : Nat} {v : Value} {cs : Array Value} (hp : w1.heap[p]? = some (.cells cs 136 (0, 0))) {e size n : Nat} {u : Value} {xs : List Value} (hne : e ≠ 136) (ho : w1.ownsRow B e size u n xs) :
    (w1.setCell ⟨p, i, none⟩ v).ownsRow B e size u n xs := by
  obtain ⟨o1, o2⟩ := ho
  refine ⟨o1, ?_⟩
  rcases o2 with o2 | ⟨g, cap, cur, hu, hgB, hh, r⟩
  · exact Or.inl o2
  · refine Or.inr ⟨g, cap, cur, hu, hgB, ?_, r⟩
    rw [Below.heap_setCell w1 ⟨p, i, none⟩ v g ?_]
    · exact hh
    · intro e1
      rw [show g = p from e1, hp] at hh
      injection hh with hh
      injection hh with _ ht
      exact hne ht.symm

/-- a row has grown, and its new head is stored into the reading -/
theorem rd_rows {W w1 : World} (h : RdAt W B p st mb hv fv gs) (row : Option Nat) (hg : W.grownBy w1 row) (hp : row ≠ some p) (hm : row ≠ some mb) (hgs : ∀ g ∈ gs, row ≠ some g.b) {hv' fv' : Value} {st' : PSt} (hps : st'.ps = st.ps)
    (h1 : w1.ownsRow B 9 1 hv' st'.hosts.length (st'.hosts.map Value.string)) (h2 : w1.ownsRow B 32 2 fv' st'.fields.length (flCells st'.fields)) (hne : ∀ g ∈ gs, hv'.ownBlock ≠ some g.b)
    (i : Nat) (v : Value) (hc : (rdCells mb hv fv st).setIfInBounds i v = rdCells mb hv' fv' st') (hfn : st'.fields = [] → fv' = .slice none 0 0) : RdAt (w1.setCell ⟨p, i, none⟩ v) B p st' mb hv' fv' gs := by
  have hother : ∀ k, k ≠ p → (w1.setCell ⟨p, i, none⟩ v).heap[k]? = w1.heap[k]? := fun k hk => Below.heap_setCell w1 ⟨p, i, none⟩ v k hk
  have kp : w1.heap[p]? = some (.cells (rdCells mb hv fv st) 136 (0, 0)) := by
    rw [hg.block p (lt_of_heap h.blk) (fun e => hp e.symm)]; exact h.blk
  have hmp : mb ≠ p := by
    intro e
    obtain ⟨es, clock, hb, _⟩ := h.map
    rw [e, h.blk] at hb
    cases hb
  refine ⟨?_, h.pB, h.mB, (h.map.of_block (hg.block mb h.map.lt (fun e => hm e.symm))).of_block (hother mb hmp), by rw [hps]; exact h.ps, fun g hgm => ?_, row_set kp (by decide) h1, row_set kp (by decide) h2, hfn⟩
  · simp only [World.setCell, Array.getElem?_modify]
    simp only [if_true]
    rw [kp]
    simp [hc]
  · obtain ⟨v1, v2, v3⟩ := h.vals g hgm
    have hgp : g.b ≠ p := by
      intro e
      rw [e, h.blk] at v2
      injection v2 with v2
      injection v2 with _ ht
      cases ht
    exact ⟨v1, by rw [hother g.b hgp, hg.block g.b (lt_of_heap v2) (fun e => hgs g hgm e.symm)]; exact v2, hne g hgm⟩

theorem own_not {W : World} {e size n : Nat} {u : Value} {xs : List Value} (ho : W.ownsRow B e size u n xs) {k : Nat} {o : Obj} (hk : W.heap[k]? = some o) (hne : ∀ cs, o ≠ .cells cs e (0, 0)) : u.ownBlock ≠ some k := by
  intro e1
  obtain ⟨_, cs, hcs⟩ := own_block_lt ho e1
  rw [hk] at hcs
  injection hcs with hcs
  exact hne cs hcs

theorem own_type_ne {w : World} {b b' : Nat} {e e' : TypeId} {s s' n n' : Nat} {v v' : Value} {xs xs' : List Value} (h : w.ownsRow b e s v n xs) (h' : w.ownsRow b' e' s' v' n' xs') (hne : e ≠ e') : v.ownBlock = none ∨ v.ownBlock ≠ v'.ownBlock := by
  rcases h.2 with ⟨rfl, _⟩ | ⟨g, cap, cur, rfl, _, hh, _⟩
  · exact .inl rfl
  · refine .inr fun hk => ?_
    rcases h'.2 with ⟨rfl, _⟩ | ⟨g', cap', cur', rfl, _, hh', _⟩
    · simp [Value.ownBlock] at hk
    · have : g = g' := by simpa [Value.ownBlock] using hk
      subst this
      rw [hh] at hh'
      injection hh' with hh'
      injection hh' with _ ht
      exact hne ht
theorem own_ge {w : World} {b e size n : Nat} {v : Value} {xs : List Value} (h : w.ownsRow b e size v n xs) {k : Nat} (hk : v.ownBlock = some k) : b ≤ k := by
  rcases h.2 with ⟨rfl, _⟩ | ⟨g, cap, cur, rfl, hb, _⟩
  · simp [Value.ownBlock] at hk
  · have : g = k := by simpa [Value.ownBlock] using hk
    omega

theorem infoS : (Tryz.prog.info? 9).map (fun i => (i.zero, i.size, i.bytes)) = some (some (.string ⟨#[]⟩), 1, 16) := by kernel_rfl
theorem infoF : (Tryz.prog.info? 32).map (fun i => (i.zero, i.size, i.bytes)) = some (some (.agg #[.string ⟨#[]⟩, .string ⟨#[]⟩]), 2, 32) := by kernel_rfl

set_option maxHeartbeats 800000 in
set_option maxRecDepth 100000 in
theorem take_host (h : RdAt w B p st mb hv fv gs) (n v : ByteArray) (hns : n.size ≤ 9223372036854775807) (hvs : v.size ≤ 9223372036854775807) (h0 : Lib.hasPrefix n.data.toList [58] = false) (hok : okField n v)
    (hn1 : (n.toList == [99, 111, 110, 116, 101, 110, 116, 45, 108, 101, 110, 103, 116, 104]) = false) (hn2 : (n.toList == [104, 111, 115, 116]) = true) (hlen : (st.hosts.length + 1) * 16 ≤ 140737488355328) :
    Calls Tryz.prog 76 #[.pointer (some ⟨p, 0, none⟩), .agg #[.string n, .string v]] w fun e w' => e = .returned (.tuple #[]) ∧
      (∃ hv', RdAt w' B p { st with reg := true, hosts := st.hosts ++ [v] } mb hv' fv gs) ∧ Below B w w' := by
  have HP := Kp.mk (Tryz.strings_HasPrefix n ⟨#[58]⟩)
  have H0 := Kp.mk h0
  clear h0
  have hplt := lt_of_heap h.blk
  have hc2 : w.cell? ⟨p, 2, none⟩ = some (.bool st.reg) := by rw [cell_of_blk h.blk]; rfl
  have hz2 : w.frozen? ⟨p, 2, none⟩ = false := free_of_blk h.blk 2
  have hBp := h.pB
  have HX := Kp.mk (first_box hplt n v)
  have HY := Kp.mk (first_rd h n v).blk
  have HR := Kp.mk (first_rd h n v)
  clear h
  obtain ⟨h1, h2, h3⟩ := hok
  have HN := Kp.mk h1
  have HV := Kp.mk h2
  have HH := Kp.mk h3
  clear h1 h2 h3
  go_enter Tryz.func76, Tryz.ntmps76
  go_wp2_with (first | (go_at_call 82; refine (HP.out _).mono ?_; rintro e w' ⟨rfl, rfl⟩; rw [H0.out]) | (go_at_call 83; refine (rightName_any _ hns _).mono ?_; rintro e w2 ⟨rfl, hb⟩; rw [HN.out]; obtain ⟨HX, HY, x0, x1, y1, y7, y8, z1, z7, z8, lp, lf⟩ := facts hb HX.out HY.out; have HB := Kp.mk hb; clear hb) | (go_at_call 84; refine (rightValue_any _ hvs _).mono ?_; rintro e w3 ⟨rfl, hb⟩; rw [HV.out]; obtain ⟨HX, HY, x0, x1, y1, y7, y8, z1, z7, z8, lp, lf⟩ := facts hb HX.out HY.out; have HB3 := Kp.mk hb; clear hb) | (go_at_call 85; refine (hop_any _ _ _).mono ?_; rintro e w4 ⟨rfl, hb⟩; rw [HH.out]; obtain ⟨HX, HY, x0, x1, y1, y7, y8, z1, z7, z8, lp, lf⟩ := facts hb HX.out HY.out; have HB4 := Kp.mk hb; clear hb) | (go_at_call 74; (with_reducible refine (must_ok _ _).mono ?_); rintro e w' ⟨rfl, rfl⟩))
  have hb : Below B w w4 := by
    have hsz := HB.out.size
    have hsz3 := HB3.out.size
    simp at hsz
    exact (((first_below hBp hplt n v).trans (HB.out.mono (by simp; omega))).trans (HB3.out.mono (by omega))).trans (HB4.out.mono (by omega))
  have hR : RdAt w4 B p { st with reg := true } mb hv fv gs := rd_kept (rd_kept (rd_kept HR.out HB.out) HB3.out) HB4.out
  obtain ⟨i0, hi, hzz⟩ := Option.map_eq_some_iff.1 infoS
  simp only [Prod.mk.injEq] at hzz
  obtain ⟨hz0, hz1, hz2⟩ := hzz
  have HI := Kp.mk (And.intro hi (And.intro hz0 (And.intro hz1 hz2)))
  have HBB := Kp.mk hb
  have HRR := Kp.mk hR
  clear hi hz0 hz1 hz2 hb hR hc2
  refine Reg.region_held (fun W => W.cell? ⟨p, 1, none⟩ = some hv ∧ W.cell? ⟨w.heap.size, 1, none⟩ = some (.string v)) [9, 10, 11]
    [(0, .pointer (some ⟨p, 0, none⟩)), (1, .pointer (some ⟨p, 0, none⟩)), (2, .pointer (some ⟨p, 0, none⟩)), (3, .pointer (some ⟨p, 1, none⟩)), (4, hv), (5, .pointer (some ⟨w.heap.size, 1, none⟩)), (6, .string v)] [7, 8, 9, 10, 11] (by kernel_rfl) (by kernel_rfl) ⟨y1, x1⟩ ?_
  repeat (refine Reg.headS_cons rfl rfl (by kernel_rfl) (by simp only [Act.put, List.setIfInBounds_toArray, List.set_cons_zero, List.set_cons_succ]; rfl) (fun W hS D hD => ?_) ?_; (obtain ⟨s0, s1⟩ := hS; go_wp2; exact hD))
  refine Reg.headS_nil ?_
  refine Reg.tailS_cons rfl (fun K hK => ?_)
  go_wp2
  have hbn : Below w4.heap.size w4 ((w4.alloc (.cells #[.string v] 9)).drew) := ((Below.refl _ _).alloc (Nat.le_refl _) _).drew
  refine hK _ _ ⟨(hbn.cell (p := ⟨p, 1, none⟩) lp).trans y1, (hbn.cell (p := ⟨w.heap.size, 1, none⟩) lf).trans x1⟩ ?_
  clear hK K
  have HBN := Kp.mk hbn
  clear hbn
  refine Reg.tailS_cons rfl (fun K hK => ?_)
  have HK := Kp.mk hK
  clear hK
  obtain ⟨hi, hz0, hz1, hz2⟩ := HI.out
  refine wpList_append_own_at _ rfl (.tmp 101) (.tmp 104) 134 rfl B 9 i0 (.string ⟨#[]⟩) 1 16 Tryz.underlying134 hi hz0 hz1 hz2 rfl (by decide) hv st.hosts.length _ rfl (rd_kept HRR.out HBN.out).hosts
    ⟨w4.heap.size, 0, none⟩ 1 1 [.string v] rfl rfl (cell_one_new w4 _ _) (by intro u hu; simp at hu; subst hu; rfl) (by unfold maxLen; omega) hlen (by simp; omega) ?_
  intro v1 w1 hown hg _ hat
  obtain ⟨gb, cap', rfl⟩ : ∃ gb cap', v1 = .slice (some ⟨gb, 0, none⟩) (st.hosts.length + 1) cap' := by
    rcases hown.2 with ⟨_, h⟩ | ⟨gb, cap', _, h, _⟩
    · omega
    · exact ⟨gb, cap', h⟩
  have hrp : hv.ownBlock ≠ some p := own_not HRR.out.hosts HRR.out.blk (by intro cs e; injection e with _ e; cases e)
  have hrb : hv.ownBlock ≠ some w.heap.size := own_not HRR.out.hosts HX.out (by intro cs e; injection e with _ e; cases e)
  have hrm : hv.ownBlock ≠ some mb := by
    obtain ⟨es, clock, hbm, _⟩ := HRR.out.map
    exact own_not HRR.out.hosts hbm (by intro cs e; cases e)
  have hrg : ∀ g ∈ gs, hv.ownBlock ≠ some g.b := fun g hgm => (HRR.out.vals g hgm).2.2
  have HHG := Kp.mk hg
  have e1 : w1.cell? ⟨p, 1, none⟩ = some hv := (hg.cell_far ⟨p, 1, none⟩ (by simp; omega) (fun e => hrp e.symm)).trans ((HBN.out.cell (p := ⟨p, 1, none⟩) lp).trans y1)
  have e2 : w1.cell? ⟨w.heap.size, 1, none⟩ = some (.string v) := (hg.cell_far ⟨w.heap.size, 1, none⟩ (by simp; omega) (fun e => hrb e.symm)).trans ((HBN.out.cell (p := ⟨w.heap.size, 1, none⟩) lf).trans x1)
  have e3 : w1.frozen? ⟨p, 1, none⟩ = false := (hg.frozen_far ⟨p, 1, none⟩ (by simp; omega) (fun e => hrp e.symm)).trans ((HBN.out.frozen (p := ⟨p, 1, none⟩) lp).trans z1)
  refine ⟨rfl, HK.out _ _ ⟨e1, e2⟩ ?_⟩
  clear HK K hg
  simp only [Act.put, List.setIfInBounds_toArray, List.set_cons_zero, List.set_cons_succ]
  have HOW := Kp.mk hown
  have HAT := Kp.mk hat
  clear hown hat hrb
  refine Reg.tailS_last rfl rfl (fun K hK => ?_)
  go_wp2
  refine Reg.tailS_last rfl rfl (fun K hK => ?_)
  go_wp2
  refine Reg.tailS_last rfl rfl (fun K hK => ?_)
  go_wp2
  refine Reg.tailS_nil ?_
  go_wp2
  first | go_end0 | refine bodyPost_ret (results_none rfl _ _ _) rfl ?_
  have hnew : ∀ g ∈ gs, (Value.slice (some ⟨gb, 0, none⟩) (st.hosts.length + 1) cap').ownBlock ≠ some g.b := by
    intro g hgm e
    rcases HAT.out with h1 | h1
    · rw [h1] at e; exact hrg g hgm e
    · rw [h1] at e
      have h2 := lt_of_heap (HRR.out.vals g hgm).2.1
      simp at e; omega
  have hfin := rd_rows (rd_kept HRR.out HBN.out) _ HHG.out hrp hrm hrg (hv' := .slice (some ⟨gb, 0, none⟩) (st.hosts.length + 1) cap') (fv' := fv) (st' := { st with reg := true, hosts := st.hosts ++ [v] }) rfl (by simpa using HOW.out)
    ((rd_kept HRR.out HBN.out).flds.kept HHG.out (own_type_ne (rd_kept HRR.out HBN.out).flds (rd_kept HRR.out HBN.out).hosts (by decide))) hnew 1 (.slice (some ⟨gb, 0, none⟩) (st.hosts.length + 1) cap') (by simp [rdCells]) HRR.out.fnil
  exact ⟨rfl, ⟨_, hfin⟩, ((HBB.out.trans (HBN.out.mono (Nat.le_of_lt (Nat.lt_of_le_of_lt hBp lp)))).grown HHG.out (by simp; omega) (fun k hk => own_ge HRR.out.hosts hk)).setCell (p := ⟨p, 1, none⟩) hBp _⟩

end

end Go.Proofs.YtaaofanhjolikaaGreatDoor.Msg
