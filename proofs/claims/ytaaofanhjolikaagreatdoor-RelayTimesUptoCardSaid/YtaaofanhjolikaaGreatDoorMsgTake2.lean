/- The contract of (*reading).take: a pseudo field that is taken. -/
import Derived.Test.YtaaofanhjolikaaGreatDoorMsgTake
set_option linter.unusedVariables false
set_option linter.unusedSimpArgs false
namespace Go.Proofs.YtaaofanhjolikaaGreatDoor.Msg
open Go.RowKit Go.Proofs.YtaaofanhjolikaaGreatDoor.Mp

section
variable {w : World} {B p : Nat} {st : PSt} {mb : Nat} {hv fv : Value} {gs : List Gh}

theorem own_block_lt {w : World} {B : Nat} {e : TypeId} {size n : Nat} {v : Value} {xs : List Value} (h : w.ownsRow B e size v n xs) {k : Nat} (hk : v.ownBlock = some k) : k < w.heap.size ∧ ∃ cs, w.heap[k]? = some (.cells cs e (0, 0)) := by
  rcases h.2 with ⟨rfl, _⟩ | ⟨g, cap, cur, rfl, _, hh, _⟩
  · simp [Value.ownBlock] at hk
  · have : g = k := by simpa [Value.ownBlock] using hk
    subst this
    exact ⟨lt_of_heap hh, cur, hh⟩

/-- a new pseudo field: its value's block is new, the map has one entry more -/
theorem rd_put {W : World} (h : RdAt W B p st mb hv fv gs) (n v : ByteArray) (o : Obj)
    (hm : MapAt .string (setMap ((W.alloc (.cells #[.string v] 9)).drew) mb o) mb (ghEntries gs ++ [(.string n, .slice (some ⟨W.heap.size, 0, none⟩) 1 1)])) :
    RdAt (setMap ((W.alloc (.cells #[.string v] 9)).drew) mb o) B p { st with ps := st.ps ++ [(n, v)] } mb hv fv (gs ++ [⟨n, v, W.heap.size⟩]) := by
  have hB : B ≤ W.heap.size := Nat.le_trans h.pB (Nat.le_of_lt (lt_of_heap h.blk))
  have hb1 : Below W.heap.size W ((W.alloc (.cells #[.string v] 9)).drew) := ((Below.refl _ _).alloc (Nat.le_refl _) _).drew
  have h1 := rd_kept h hb1
  have hmp : ∀ k, (∃ cs t fr, ((W.alloc (.cells #[.string v] 9)).drew).heap[k]? = some (.cells cs t fr)) → k ≠ mb := by
    rintro k ⟨cs, t, fr, hk⟩ e
    obtain ⟨es, clock, hb, _⟩ := h1.map
    rw [e, hb] at hk
    cases hk
  have hother : ∀ k, k ≠ mb → (setMap ((W.alloc (.cells #[.string v] 9)).drew) mb o).heap[k]? = ((W.alloc (.cells #[.string v] 9)).drew).heap[k]? := fun k hk => setMap_heap o hk
  have hrow : ∀ {e size n : Nat} {u : Value} {xs : List Value}, ((W.alloc (.cells #[.string v] 9)).drew).ownsRow B e size u n xs → (setMap ((W.alloc (.cells #[.string v] 9)).drew) mb o).ownsRow B e size u n xs := by
    intro e size n u xs ho
    obtain ⟨o1, o2⟩ := ho
    refine ⟨o1, ?_⟩
    rcases o2 with o2 | ⟨g, cap, cur, hu, hgB, hh, r⟩
    · exact Or.inl o2
    · exact Or.inr ⟨g, cap, cur, hu, hgB, by rw [hother g (hmp g ⟨_, _, _, hh⟩)]; exact hh, r⟩
  have hnew : ((W.alloc (.cells #[.string v] 9)).drew).heap[W.heap.size]? = some (.cells #[.string v] 9 (0, 0)) := by
    show (W.heap.push _)[W.heap.size]? = _
    simp
  refine ⟨by rw [hother p (hmp p ⟨_, _, _, h1.blk⟩)]; exact h1.blk, h.pB, h.mB, ?_, by simp [h.ps], ?_, hrow h1.hosts, hrow h1.flds, h1.fnil⟩
  · rw [show ghEntries (gs ++ [⟨n, v, W.heap.size⟩]) = ghEntries gs ++ [(.string n, .slice (some ⟨W.heap.size, 0, none⟩) 1 1)] by simp [ghEntries]]
    exact hm
  · intro g hg
    rcases List.mem_append.1 hg with hg | hg
    · obtain ⟨v1, v2, v3⟩ := h1.vals g hg
      exact ⟨v1, by rw [hother _ (hmp _ ⟨_, _, _, v2⟩)]; exact v2, v3⟩
    · simp only [List.mem_singleton] at hg
      subst hg
      refine ⟨hB, by rw [hother _ (hmp _ ⟨_, _, _, hnew⟩)]; exact hnew, fun e => ?_⟩
      have h9 : W.heap.size < W.heap.size := (own_block_lt h.hosts e).1
      omega

set_option maxHeartbeats 800000 in
set_option maxRecDepth 100000 in
theorem take_ps (h : RdAt w B p st mb hv fv gs) (n v : ByteArray) (hvs : v.size ≤ 9223372036854775807) (h0 : Lib.hasPrefix n.data.toList [58] = true) (hn : isPs n.toList = true) (hr : st.reg = false) (hk : pick st.ps n = none) (hv0 : valueB v = true) :
    Calls Tryz.prog 76 #[.pointer (some ⟨p, 0, none⟩), .agg #[.string n, .string v]] w fun e w' => e = .returned (.tuple #[]) ∧
      (∃ gs', RdAt w' B p { st with ps := st.ps ++ [(n, v)] } mb hv fv gs') ∧ Below B w w' := by
  have HP := Kp.mk (Tryz.strings_HasPrefix n ⟨#[58]⟩)
  have H0 := Kp.mk h0
  have HV := Kp.mk hv0
  clear h0 hv0
  have hplt := lt_of_heap h.blk
  have hc0 : w.cell? ⟨p, 0, none⟩ = some (.map (some mb)) := by rw [cell_of_blk h.blk]; rfl
  have hc2 : w.cell? ⟨p, 2, none⟩ = some (.bool false) := by rw [cell_of_blk h.blk, ← hr]; rfl
  have hlk : (Instr.lookup 133 (.map (some mb)) (.string n) false).run Tryz.prog ((w.alloc (.cells #[.string n, .string v] 32)).drew) = .ok (.slice none 0 0) ((w.alloc (.cells #[.string n, .string v] 32)).drew) := by
    have h2 : RdAt ((w.alloc (.cells #[.string n, .string v] 32)).drew) B p st mb hv fv gs := rd_kept h (((Below.refl _ _).alloc (Nat.le_refl _) _).drew)
    rcases look_pseudo h2 n with ⟨_, e⟩ | ⟨g, _, _, e, _⟩
    · exact e
    · rw [hk] at e; cases e
  have hq := qnil
  have H := Kp.mk h
  have HK := Kp.mk hk
  rcases isPs_cases hn with e1 | ⟨e1, e2⟩ | ⟨e1, e2, e3⟩ | ⟨e1, e2, e3, e4⟩
  all_goals
    clear hn hr h hk
    go_enter Tryz.func76, Tryz.ntmps76
    go_wp2_with (first | (go_at_call 82; refine (HP.out _).mono ?_; rintro e w' ⟨rfl, rfl⟩; rw [H0.out]))
    refine Reg.region_head 15 (by kernel_rfl) (by kernel_rfl) ?_
    simp only [List.take_succ_cons, List.take_zero, List.drop_succ_cons, List.drop_zero]
    repeat (refine Reg.headWp_cons (fun D hD => ?_); go_wp2)
    refine Reg.headWp_nil ?_
    go_wp2_with (first | (go_at_call 74; (with_reducible refine (must_ok _ _).mono ?_); rintro e w' ⟨rfl, rfl⟩) | (go_at_call 74; (with_reducible refine (must_no _ _).mono ?_); rintro e w' ⟨rfl, rfl⟩) | (go_at_call 84; refine (rightValue_any _ hvs _).mono ?_; rintro e w2 ⟨rfl, hb⟩; rw [HV.out]; have HB := Kp.mk hb; clear hb))
    have hb0 : Below w.heap.size w w2 := (((Below.refl _ _).alloc (Nat.le_refl _) _).drew).trans (HB.out.mono (by simp))
    have hR := rd_kept H.out hb0
    have hbox : w2.heap[w.heap.size]? = some (.cells #[.string n, .string v] 32 (0, 0)) := by
      refine heap_kept HB.out ?_
      show (w.heap.push _)[w.heap.size]? = _
      simp
    have hf0 : w2.cell? ⟨w.heap.size, 0, none⟩ = some (.string n) := by rw [cell_of_blk hbox]; rfl
    have hf1 : w2.cell? ⟨w.heap.size, 1, none⟩ = some (.string v) := by rw [cell_of_blk hbox]; rfl
    have hp0 : w2.cell? ⟨p, 0, none⟩ = some (.map (some mb)) := by rw [cell_of_blk hR.blk]; rfl
    have hplt2 := lt_of_heap hR.blk
    have hflt2 := lt_of_heap hbox
    obtain ⟨o, hmu, hma⟩ := store_new (P := Tryz.prog) (t := 133) Tryz.underlying133 Tryz.underlying9 ((hR.map.of_block (w' := (w2.alloc (.cells #[.string v] 9)).drew) (by
      show (w2.heap.push _)[mb]? = _
      rw [Array.getElem?_push, if_neg (by have := hR.map.lt; omega)])) ) (key := .string n) (v := .slice (some ⟨w2.heap.size, 0, none⟩) 1 1) trivial (by
      intro q hq2 e
      obtain ⟨g, hg, rfl⟩ := List.mem_map.1 hq2
      simp only [Value.string.injEq] at e
      exact pick_none HK.out (g.n, g.v) (by rw [hR.ps]; exact List.mem_map.2 ⟨g, hg, rfl⟩) e)
    have HR := Kp.mk hR
    have HM := Kp.mk hma
    have HB0 := Kp.mk hb0
    clear hma hb0 hR hbox hlk hq hc0 hc2
    refine Reg.region_held (fun W => W.cell? ⟨p, 0, none⟩ = some (.map (some mb)) ∧ W.cell? ⟨w.heap.size, 0, none⟩ = some (.string n) ∧ W.cell? ⟨w.heap.size, 1, none⟩ = some (.string v)) [9]
      [(0, .pointer (some ⟨p, 0, none⟩)), (1, .pointer (some ⟨p, 0, none⟩)), (2, .pointer (some ⟨p, 0, none⟩)), (3, .map (some mb)), (4, .pointer (some ⟨w.heap.size, 0, none⟩)), (5, .string n), (6, .pointer (some ⟨w.heap.size, 1, none⟩)), (7, .string v)] [8, 9] (by kernel_rfl) (by kernel_rfl) ⟨hp0, hf0, hf1⟩ ?_
    repeat (refine Reg.headS_cons rfl rfl (by kernel_rfl) (by simp only [Act.put, List.setIfInBounds_toArray, List.set_cons_zero, List.set_cons_succ]; rfl) (fun W hS D hD => ?_) ?_; (obtain ⟨s0, s1, s2⟩ := hS; go_wp2; exact hD))
    refine Reg.headS_nil ?_
    refine Reg.tailS_cons rfl (fun K hK => ?_)
    go_wp2
    have hbn : Below w2.heap.size w2 ((w2.alloc (.cells #[.string v] 9)).drew) := ((Below.refl _ _).alloc (Nat.le_refl _) _).drew
    refine hK _ _ ⟨(hbn.cell (p := ⟨p, 0, none⟩) hplt2).trans hp0, (hbn.cell (p := ⟨w.heap.size, 0, none⟩) hflt2).trans hf0, (hbn.cell (p := ⟨w.heap.size, 1, none⟩) hflt2).trans hf1⟩ ?_
    clear hK K hbn
    refine Reg.tailS_last rfl rfl (fun K hK => ?_)
    go_wp2
    refine Reg.tailS_nil ?_
    go_wp2
    first | go_end0 | refine bodyPost_ret (results_none rfl _ _ _) rfl ?_
    exact ⟨rfl, ⟨_, rd_put HR.out n v o HM.out⟩, below_setMap ((HB0.out.mono (Nat.le_of_lt (Nat.lt_of_le_of_lt H.out.pB hplt))).trans (((Below.refl _ _).alloc (Nat.le_trans H.out.pB (Nat.le_of_lt hplt2)) _).drew)) H.out.mB o⟩

end

end Go.Proofs.YtaaofanhjolikaaGreatDoor.Msg
