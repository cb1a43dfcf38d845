/- The pseudo fields in another order: plain facts on checkF. -/
import Derived.Test.YtohhdoibkopoiaaDoorSpoiltPlain
set_option linter.unusedVariables false
set_option linter.unusedSimpArgs false
namespace Go.Proofs.YtohhdoibkopoiaaDoor.Msg
open Go.RowKit

/-- alike, as far as what is asked of the pseudo fields goes -/
structure Eqv (a b : PSt) : Prop where
  ps : ∀ n, pick a.ps n = pick b.ps n
  hosts : a.hosts = b.hosts
  reg : a.reg = b.reg
  m : a.m = b.m
  s : a.s = b.s
  a_ : a.a = b.a
  p : a.p = b.p
  flds : a.fields = b.fields
  len : a.len = b.len

/-- two results alike -/
def EqvR : Except Int PSt → Except Int PSt → Prop
  | .ok a, .ok b => Eqv a b
  | .error c, .error d => c = d
  | _, _ => False

theorem pick_app_eq {l l' : List (ByteArray × ByteArray)} (h : ∀ n, pick l n = pick l' n) (q : ByteArray × ByteArray) (n : ByteArray) : pick (l ++ [q]) n = pick (l' ++ [q]) n := by
  have h1 := h n
  unfold pick at h1 ⊢
  rw [List.find?_append, List.find?_append]
  cases ha : l.find? (fun p => p.1.data.toList == n.data.toList) with
  | none =>
    rw [ha] at h1
    cases hb : l'.find? (fun p => p.1.data.toList == n.data.toList) with
    | none => rfl
    | some y => rw [hb] at h1; cases h1
  | some x =>
    rw [ha] at h1
    cases hb : l'.find? (fun p => p.1.data.toList == n.data.toList) with
    | none => rw [hb] at h1; cases h1
    | some y => rw [hb] at h1; simpa using h1

theorem take_eqv {a b : PSt} (h : Eqv a b) (n v : ByteArray) : EqvR (takeF a n v) (takeF b n v) := by
  obtain ⟨h1, h2, h3, h4, h5, h6, h7, h8, h9⟩ := h
  unfold takeF
  rw [h1 n, h3, h9]
  split
  · split
    · split
      · exact ⟨fun m => pick_app_eq h1 _ m, h2, rfl, h4, h5, h6, h7, h8, rfl⟩
      · rfl
    · rfl
  · split
    · rfl
    · split
      · rfl
      · split
        · rfl
        · split
          · split
            · rfl
            · split
              · exact ⟨h1, h2, rfl, h4, h5, h6, h7, by simp only [h8], rfl⟩
              · rfl
          · split
            · exact ⟨h1, by simp only [h2], rfl, h4, h5, h6, h7, h8, rfl⟩
            · exact ⟨h1, h2, rfl, h4, h5, h6, h7, by simp only [h8], rfl⟩

theorem fold_eqv (fs : List Fl) : ∀ {a b : PSt}, Eqv a b → EqvR (foldF a fs) (foldF b fs) := by
  induction fs with
  | nil => intro a b h; exact h
  | cons f fs ih =>
    intro a b h
    have ht := take_eqv h f.n f.v
    simp only [foldF]
    cases ha : takeF a f.n f.v with
    | ok a1 =>
      cases hb : takeF b f.n f.v with
      | ok b1 => rw [ha, hb] at ht; exact ih ht
      | error d => rw [ha, hb] at ht; exact ht.elim
    | error c =>
      cases hb : takeF b f.n f.v with
      | ok b1 => rw [ha, hb] at ht; exact ht.elim
      | error d => rw [ha, hb] at ht; exact ht

theorem line_eqv {a b : PSt} (h : Eqv a b) : EqvR (lineF a) (lineF b) := by
  obtain ⟨h1, h2, h3, h4, h5, h6, h7, h8, h9⟩ := h
  unfold lineF
  rw [h1 baMethod, h1 baScheme, h1 baPath, h1 baAuth]
  repeat' split
  all_goals first | rfl | exact ⟨h1, h2, h3, rfl, rfl, h6, rfl, h8, h9⟩

theorem place_eqv {a b : PSt} (h : Eqv a b) : EqvR (placeF a) (placeF b) := by
  obtain ⟨h1, h2, h3, h4, h5, h6, h7, h8, h9⟩ := h
  unfold placeF
  rw [h1 baAuth, h2]
  repeat' split
  all_goals first | rfl | exact ⟨h1, rfl, h3, h4, h5, rfl, h7, h8, h9⟩ | exact ⟨h1, h2, h3, h4, h5, rfl, h7, h8, h9⟩

def pairsOf (l : List Fl) : List (ByteArray × ByteArray) := l.map fun f => (f.n, f.v)

theorem fold_pseudo (l : List Fl) : ∀ (st : PSt), st.reg = false → (∀ f ∈ l, Lib.hasPrefix f.n.data.toList [58] = true ∧ isPs f.n.data.toList = true ∧ valueB f.v = true) →
    ((st.ps ++ pairsOf l).map (·.1)).Nodup → foldF st l = .ok { st with ps := st.ps ++ pairsOf l } := by
  induction l with
  | nil => intro st _ _ _; simp [foldF, pairsOf]
  | cons f l ih =>
    intro st hr hl hn
    obtain ⟨h0, h1, h2⟩ := hl f (by simp)
    have hp : pick st.ps f.n = none := by
      cases hq : pick st.ps f.n with
      | none => rfl
      | some v =>
        have hm := pick_some hq
        rw [show pairsOf (f :: l) = (f.n, f.v) :: pairsOf l from rfl, List.map_append, List.map_cons] at hn
        rw [List.nodup_append] at hn
        exact absurd rfl (hn.2.2 f.n (List.mem_map.2 ⟨_, hm, rfl⟩) f.n (by simp))
    have ht : takeF st f.n f.v = .ok { st with ps := st.ps ++ [(f.n, f.v)] } := by
      unfold takeF
      rw [if_pos h0, if_pos ⟨h1, hr, hp⟩, if_pos h2]
    simp only [foldF]
    rw [ht]
    simp only []
    have hi := ih { st with ps := st.ps ++ [(f.n, f.v)] } hr (fun g hg => hl g (by simp [hg])) (by
      rw [show pairsOf (f :: l) = [(f.n, f.v)] ++ pairsOf l from rfl, ← List.append_assoc] at hn
      exact hn)
    rw [hi]
    simp [pairsOf]

theorem pick_mem {l : List (ByteArray × ByteArray)} {n v : ByteArray} (hn : (l.map (·.1)).Nodup) (h : (n, v) ∈ l) : pick l n = some v := by
  induction l with
  | nil => cases h
  | cons q l ih =>
    rw [List.map_cons, List.nodup_cons] at hn
    rcases List.mem_cons.1 h with h | h
    · subst h
      unfold pick
      simp
    · have hne : q.1 ≠ n := fun e => hn.1 (e ▸ List.mem_map.2 ⟨(n, v), h, rfl⟩)
      have hb : (q.1.data.toList == n.data.toList) = false := by
        rw [beq_eq_false_iff_ne]
        exact fun e => hne (ba_ext e)
      have := ih hn.2 h
      unfold pick at this ⊢
      rw [List.find?_cons, hb]
      exact this

theorem pick_perm {l l' : List (ByteArray × ByteArray)} (hn : (l.map (·.1)).Nodup) (hp : l.Perm l') (n : ByteArray) : pick l n = pick l' n := by
  have hn' : (l'.map (·.1)).Nodup := (hp.map _).nodup hn
  cases h : pick l n with
  | some v => exact (pick_mem hn' (hp.mem_iff.1 (pick_some h))).symm
  | none =>
    cases h' : pick l' n with
    | none => rfl
    | some v => rw [pick_mem hn (hp.mem_iff.2 (pick_some h'))] at h; cases h

theorem line_pseudo : ∀ f ∈ lineFs, Lib.hasPrefix f.n.data.toList [58] = true ∧ isPs f.n.data.toList = true ∧ valueB f.v = true := by decide

theorem line_names : ((pairsOf lineFs).map (·.1)).Nodup := by decide

theorem fold_perm {ls : List Fl} (hp : ls.Perm lineFs) : ∃ st, foldF st0 ls = .ok st ∧ Eqv st lineSt := by
  have hpp : (pairsOf ls).Perm (pairsOf lineFs) := hp.map _
  have hn : ((pairsOf ls).map (·.1)).Nodup := (hpp.map _).symm.nodup line_names
  have h1 := fold_pseudo ls st0 rfl (fun f hf => line_pseudo f (hp.mem_iff.1 hf)) (by simpa [st0] using hn)
  refine ⟨_, h1, ⟨fun n => ?_, rfl, rfl, rfl, rfl, rfl, rfl, rfl, rfl⟩⟩
  have h2 : lineSt.ps = pairsOf lineFs := rfl
  rw [h2]
  show pick (st0.ps ++ pairsOf ls) n = _
  exact pick_perm hn hpp n

theorem total_perm {a b : List Fl} (h : a.Perm b) : total a = total b := (h.map _).sum_nat

theorem muchB_total {fs : List Fl} (c s : Int) (h : total fs ≤ 4611686018427387904) : muchB fs c s = (decide ((fs.length : Int) > c) || decide ((total fs : Int) > s)) := by
  unfold muchB; rw [sizeW_total fs h]

/-- THE PLAIN LAW of MessageOrder -/
theorem order {ls fs : List Fl} (c s : Int) (hp : ls.Perm lineFs) (ht : total fs ≤ 1048576) : EqvR (checkF (ls ++ fs) c s) (checkF (lineFs ++ fs) c s) := by
  have h1 : total (ls ++ fs) = total (lineFs ++ fs) := by rw [total_append, total_append, total_perm hp]
  have h2 : (ls ++ fs).length = (lineFs ++ fs).length := by rw [List.length_append, List.length_append, hp.length_eq]
  have h3 : total (lineFs ++ fs) ≤ 4611686018427387904 := by
    have : total lineFs = 42 := rfl
    rw [total_append, this]; omega
  have h4 : muchB (ls ++ fs) c s = muchB (lineFs ++ fs) c s := by rw [muchB_total c s (h1 ▸ h3), muchB_total c s h3, h1, h2]
  unfold checkF
  rw [h4]
  obtain ⟨st, hst, heq⟩ := fold_perm hp
  rw [foldF_append, foldF_append, hst, fold_line]
  simp only []
  split
  · rfl
  · have h5 := fold_eqv fs heq
    cases ha : foldF st fs with
    | error e =>
      cases hb : foldF lineSt fs with
      | error e' => rw [ha, hb] at h5; exact h5
      | ok b => rw [ha, hb] at h5; exact h5.elim
    | ok a =>
      cases hb : foldF lineSt fs with
      | error e' => rw [ha, hb] at h5; exact h5.elim
      | ok b =>
        rw [ha, hb] at h5
        have h6 := line_eqv (show Eqv a b from h5)
        simp only []
        cases hc : lineF a with
        | error e =>
          cases hd : lineF b with
          | error e' => rw [hc, hd] at h6; exact h6
          | ok b => rw [hc, hd] at h6; exact h6.elim
        | ok a1 =>
          cases hd : lineF b with
          | error e' => rw [hc, hd] at h6; exact h6.elim
          | ok b1 =>
            rw [hc, hd] at h6
            exact place_eqv (show Eqv a1 b1 from h6)

end Go.Proofs.YtohhdoibkopoiaaDoor.Msg
