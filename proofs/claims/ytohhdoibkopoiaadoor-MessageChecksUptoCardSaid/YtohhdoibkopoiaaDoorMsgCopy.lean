/- The contract of turnpikeref16.Copy. -/
import Derived.Test.YtohhdoibkopoiaaDoorMsgChk
import Derived.Laws.CopyRow
import Derived.Laws.MakeOwn
import Derived.OwnWalk
set_option linter.unusedVariables false
set_option linter.unusedSimpArgs false
namespace Go.Proofs.YtohhdoibkopoiaaDoor.Msg
open Go.RowKit Go.Proofs.YtohhdoibkopoiaaDoor.Mp

/-- copy over elements of several cells -/
theorem run_copy_wide {P : Program} (w : World) (dT sT ty elem : TypeId) (g o dLen dCap : Nat) (a : Addr) (sLen sCap N : Nat) (cur : Array Value) (t : TypeId) (cs : List Value)
    (hu : P.underlying dT = some (.slice elem)) (hs : (P.info? elem).map (·.size) = some N)
    (hg : w.heap[g]? = some (.cells cur t (0, 0))) (hn : cs.length = Nat.min sLen dLen * N)
    (hsrc : ∀ j v, cs[j]? = some v → w.cell? (a.add j) = some v) (hfit : o + cs.length ≤ cur.size) (h1 : ∀ v ∈ cs, v.oneCell' = true) :
    (Builtin.copy_ #[dT, sT] ty #[.slice (some ⟨g, o, none⟩) dLen dCap, .slice (some a) sLen sCap]).run P w =
      .ok (goInt (Nat.min sLen dLen)) (w.setRow g (cur.toList.take o ++ cs ++ cur.toList.drop (o + cs.length)).toArray) := by
  have hl := run_loadCells_list (P := P) w a cs hsrc
  have hst := run_storeCells_at P g o t cs 0 cur w hg (by simpa using hfit) h1
  cases hq : P.info? elem with
  | none => simp [hq] at hs
  | some i =>
    have hi : i.size = N := by simpa [hq] using hs
    simp [Builtin.copy_, run_underlying hu, Builtin.lenOf, Builtin.firstCells, sizeOf, typeInfo, hq, hi, ← hn, hl, hst]

theorem run_copy_zero {P : Program} (w : World) (dT sT ty elem : TypeId) (d : Option Addr) (sp : Option Addr) (dLen dCap sLen sCap N : Nat) (hu : P.underlying dT = some (.slice elem)) (hs : (P.info? elem).map (·.size) = some N) (hn : Nat.min sLen dLen = 0) :
    (Builtin.copy_ #[dT, sT] ty #[.slice d dLen dCap, .slice sp sLen sCap]).run P w = .ok (goInt 0) w := by
  cases hq : P.info? elem with
  | none => simp [hq] at hs
  | some i =>
    have hl : ∀ (x : Addr), (loadCells x 0).run P w = .ok #[] w := fun x => by simpa using run_loadCells_list (P := P) w x [] (by simp)
    cases d <;> cases sp <;> simp [Builtin.copy_, run_underlying hu, Builtin.lenOf, Builtin.firstCells, sizeOf, typeInfo, hq, hn, storeCells, hl]

theorem add_next (ad : Addr) (m : Nat) : ad.add (m + 1) = ⟨(ad.add m).block, (ad.add m).off + 1, none⟩ := by
  unfold Addr.add
  split <;> split <;> simp_all <;> omega

theorem flCells_length (fs : List Fl) : (flCells fs).length = fs.length * 2 := by
  induction fs with
  | nil => rfl
  | cons f fs ih =>
    have : flCells (f :: fs) = .string f.n :: .string f.v :: flCells fs := rfl
    rw [this]; simp only [List.length_cons, ih]; omega

theorem flCells_get (fs : List Fl) : ∀ k (hk : k < fs.length), (flCells fs)[k * 2]? = some (.string (fs[k]'hk).n) ∧ (flCells fs)[k * 2 + 1]? = some (.string (fs[k]'hk).v) := by
  induction fs with
  | nil => intro k hk; exact absurd hk (by simp)
  | cons f fs ih =>
    intro k hk
    have : flCells (f :: fs) = .string f.n :: .string f.v :: flCells fs := rfl
    rw [this]
    cases k with
    | zero => exact ⟨rfl, rfl⟩
    | succ k =>
      have h := ih k (by simpa using hk)
      rw [show (k + 1) * 2 = k * 2 + 1 + 1 by omega]
      simp only [List.getElem?_cons_succ, List.getElem_cons_succ]
      exact h

theorem flCells_one (fs : List Fl) : ∀ v ∈ flCells fs, v.oneCell' = true := by
  intro v hv
  unfold flCells at hv
  rw [List.mem_flatMap] at hv
  obtain ⟨f, _, hf⟩ := hv
  simp only [List.mem_cons, List.not_mem_nil, or_false] at hf
  rcases hf with rfl | rfl <;> rfl

/-- a list that can be read, by its cells -/
theorem FsAt.cells {w : World} {A : Addr} {fs : List Fl} (h : FsAt w (some A) fs) : ∀ j v, (flCells fs)[j]? = some v → w.cell? (A.add j) = some v := by
  intro j v hv
  have hj : j < fs.length * 2 := by
    rw [← flCells_length]; exact (List.getElem?_eq_some_iff.1 hv).1
  have hk : j / 2 < fs.length := by omega
  obtain ⟨ad, ha, h1, h2⟩ := h.at_ (j / 2) hk
  obtain rfl := Option.some.inj ha
  obtain ⟨g1, g2⟩ := flCells_get fs (j / 2) hk
  rcases Nat.mod_two_eq_zero_or_one j with hm | hm
  · rw [show j / 2 * 2 = j by omega] at h1 g1
    rw [h1, ← hv, g1]
  · rw [show j / 2 * 2 + 1 = j by omega] at g2
    rw [← hv, g2, ← h2]
    congr 1
    rw [show j = j / 2 * 2 + 1 by omega, add_next _ _]
    simp only [show (j / 2 * 2 + 1) / 2 = j / 2 by omega]

theorem FsAt.of_row {w : World} {base : Nat} {fs : List Fl} {A : Option Addr} {cp : Nat} (h : w.ownsRow base 37 2 (.slice A fs.length cp) fs.length (flCells fs)) (hlen : (fs.length + 1) * 32 ≤ 140737488355328) : FsAt w A fs := by
  refine ⟨fun k hk => ?_, hlen⟩
  obtain ⟨h1, ⟨h2, h3⟩ | ⟨g, cap, cur, hv, hB, hh, hn, hc, hs, ht⟩⟩ := h
  · exact absurd hk (by omega)
  · simp only [Value.slice.injEq] at hv
    obtain ⟨rfl, -, rfl⟩ := hv
    obtain ⟨g1, g2⟩ := flCells_get fs k hk
    have hcell : ∀ j v, j < fs.length * 2 → (flCells fs)[j]? = some v → w.cell? ⟨g, j, none⟩ = some v := by
      intro j v hj hv
      rw [cell_of_blk hh, ← hv, ← ht, List.getElem?_take_of_lt hj]
      simp
    have ha : ∀ j, (⟨g, 0, none⟩ : Addr).add j = ⟨g, j, none⟩ := fun j => by unfold Addr.add; split <;> simp_all
    refine ⟨_, rfl, ?_, ?_⟩
    · rw [ha]; exact hcell _ _ (by omega) g1
    · rw [ha]; exact hcell (k * 2 + 1) _ (by omega) g2

theorem copy_any {w : World} {A : Option Addr} {fs : List Fl} {cp : Nat} (h : FsAt w A fs) :
    Calls Tryd.prog 8 #[.slice A fs.length cp] w fun e w' => e = .returned (.slice (some ⟨w.heap.size, 0, none⟩) fs.length fs.length) ∧
      w'.ownsRow w.heap.size 37 2 (.slice (some ⟨w.heap.size, 0, none⟩) fs.length fs.length) fs.length (flCells fs) ∧ Below w.heap.size w w' := by
  have hlen := h.len
  have hinfo : (Tryd.prog.info? 37).map (fun i => (i.zero, i.size, i.bytes)) = some (some (.agg #[.string ⟨#[]⟩, .string ⟨#[]⟩]), 2, 32) := by kernel_rfl
  obtain ⟨i, hi, hz0, hz1, hz2⟩ := info_parts hinfo
  have hmk := run_make (P := Tryd.prog) w 22 37 i _ Tryd.underlying22 hi hz0 .i64 .i64 fs.length fs.length (by omega) (by omega) (by rw [hz2]; omega) (by omega)
  rw [hz1, Int.toNat_natCast] at hmk
  have hsz : (Tryd.prog.info? 37).map (·.size) = some 2 := by rw [hi]; simp [hz1]
  have hms := size_madeCells (Value.agg #[.string ⟨#[]⟩, .string ⟨#[]⟩]).cells (fs.length * 2)
  have hnew := heap_alloc_new w (.cells (madeCells (Value.agg #[.string ⟨#[]⟩, .string ⟨#[]⟩]).cells (fs.length * 2)) 37)
  have hB1 := (Below.refl w.heap.size w).alloc (Nat.le_refl _) (.cells (madeCells (Value.agg #[.string ⟨#[]⟩, .string ⟨#[]⟩]).cells (fs.length * 2)) 37)
  have H1 := h.below hB1
  generalize hW : w.alloc (.cells (madeCells (Value.agg #[.string ⟨#[]⟩, .string ⟨#[]⟩]).cells (fs.length * 2)) 37) = W at hmk hnew hB1 H1
  have hmax : fs.length ≤ maxLen := by unfold maxLen; omega
  have hmin : Nat.min fs.length fs.length = fs.length := Nat.min_self _
  have hcp : ∃ W2, (∀ ty, (Builtin.copy_ #[22, 22] ty #[.slice (some ⟨w.heap.size, 0, none⟩) fs.length fs.length, .slice A fs.length cp]).run Tryd.prog W = .ok (goInt fs.length) W2) ∧
      W2.heap[w.heap.size]? = some (.cells (flCells fs).toArray 37 (0, 0)) ∧ Below w.heap.size w W2 := by
    by_cases h0 : fs.length = 0
    · refine ⟨W, fun ty => ?_, ?_, hB1⟩
      · have := run_copy_zero (P := Tryd.prog) W 22 22 ty 37 (some ⟨w.heap.size, 0, none⟩) A fs.length fs.length fs.length cp 2 Tryd.underlying22 hsz (by rw [hmin]; exact h0)
        rw [this, h0]; rfl
      · obtain rfl := List.eq_nil_of_length_eq_zero h0
        rw [hnew]
        congr 2
        exact Array.eq_empty_of_size_eq_zero (by rw [size_madeCells]; rfl)
    · obtain ⟨ad, rfl, _⟩ := h.at_ 0 (by omega)
      have hl := flCells_length fs
      refine ⟨W.setRow w.heap.size (flCells fs).toArray, fun ty => ?_, setRow_heap W _ _ _ _ _ hnew, ?_⟩
      · have := run_copy_wide (P := Tryd.prog) W 22 22 ty 37 w.heap.size 0 fs.length fs.length ad fs.length cp 2 _ _ (flCells fs) Tryd.underlying22 hsz hnew (by rw [hmin, hl]) H1.cells (by rw [hms, hl]; omega) (flCells_one fs)
        rw [this, hmin]
        congr 3
        rw [List.take_zero, List.nil_append, List.drop_eq_nil_of_le (by rw [Array.length_toList, hms, hl]; omega), List.append_nil]
      · exact hB1.trans ⟨rfl, rfl, rfl, by simp [World.setRow], fun k hk => setRow_other W _ _ _ (by omega)⟩
  obtain ⟨W2, hcp, hrow, hB2⟩ := hcp
  have HR := Kp.mk hrow
  have HB := Kp.mk hB2
  clear hnew hB1 H1 hrow hB2 hms hsz hinfo hW
  go_enter Tryd.func8, Tryd.ntmps8
  go_wp2
  go_ret
  refine ⟨rfl, ⟨flCells_length fs, .inr ⟨_, _, _, rfl, Nat.le_refl _, HR.out, Nat.le_refl _, hmax, ?_, ?_⟩⟩, HB.out⟩
  · simp [flCells_length]
  · rw [← flCells_length fs]; simp

end Go.Proofs.YtohhdoibkopoiaaDoor.Msg
