/- One field more in a list that was taken: plain facts on checkF. -/
import Derived.Test.YtohhdoibkopoiaaDoorCleanPlain
import Derived.Test.YtohhdoibkopoiaaDoorMsgAwake
set_option linter.unusedVariables false
set_option linter.unusedSimpArgs false
namespace Go.Proofs.YtohhdoibkopoiaaDoor.Msg
open Go.RowKit

/-- all letters of a list -/
def total (fs : List Fl) : Nat := (fs.map fun f => f.n.size + f.v.size).sum

theorem total_append (a b : List Fl) : total (a ++ b) = total a + total b := by unfold total; rw [List.map_append, List.sum_append]

theorem wrap64_small {x : Int} (h0 : 0 ≤ x) (h1 : x ≤ 9223372036854775807) : wrap64 x = x := by unfold wrap64; omega

theorem sizeW_total (fs : List Fl) (h : total fs ≤ 4611686018427387904) : sizeW fs = total fs := by
  have gen : ∀ (l : List Fl) (n : Int) (k : Nat), n = k → k + total l ≤ 4611686018427387904 → l.foldl (fun n f => wrap64 (n + wrap64 (f.n.size + f.v.size))) n = k + total l := by
    intro l
    induction l with
    | nil => intro n k hn _; simp [total, hn]
    | cons f l ih =>
      intro n k hn hk
      have ht : total (f :: l) = f.n.size + f.v.size + total l := by simp [total]
      rw [ht] at hk ⊢
      simp only [List.foldl_cons]
      rw [ih _ (k + (f.n.size + f.v.size)) (by
        rw [wrap64_small (x := (f.n.size : Int) + f.v.size) (by omega) (by omega), hn, wrap64_small (by omega) (by omega)]
        omega) (by omega)]
      omega
  have := gen fs 0 0 rfl (by omega)
  unfold sizeW
  rw [this]
  simp

theorem muchB_small {fs : List Fl} {c s : Int} (h1 : (fs.length : Int) ≤ c) (h2 : (total fs : Int) ≤ s) (h3 : total fs ≤ 4611686018427387904) : muchB fs c s = false := by
  unfold muchB
  rw [sizeW_total fs h3]
  simp only [Bool.or_eq_false_iff, decide_eq_false_iff_not]
  omega

/-- all four pseudo fields are there -/
def Full (st : PSt) : Prop := ∀ n : ByteArray, isPs n.data.toList = true → pick st.ps n ≠ none

theorem pick_append {l r : List (ByteArray × ByteArray)} {n v : ByteArray} (h : pick l n = some v) : pick (l ++ r) n = some v := by
  unfold pick at h ⊢
  rw [Option.map_eq_some_iff] at h
  obtain ⟨q, h1, h2⟩ := h
  rw [List.find?_append, h1]
  simp [h2]

theorem take_full {st st' : PSt} {n v : ByteArray} (h : Full st) (ht : takeF st n v = .ok st') : Full st' := by
  intro m hm
  have h1 := h m hm
  cases hp : pick st.ps m with
  | none => exact absurd hp h1
  | some u =>
    have hkeep : pick st'.ps m = some u := by
      unfold takeF at ht
      repeat' (split at ht)
      all_goals first | (cases ht; exact hp) | (cases ht; exact pick_append hp) | (cases ht)
    rw [hkeep]; simp

theorem fold_full (fs : List Fl) : ∀ {st st' : PSt}, Full st → foldF st fs = .ok st' → Full st' := by
  induction fs with
  | nil => intro st st' h hf; cases hf; exact h
  | cons f fs ih =>
    intro st st' h hf
    simp only [foldF] at hf
    split at hf
    · rename_i st1 h1
      exact ih (take_full h h1) hf
    · cases hf

def lineSt : PSt := ⟨awakeSt.ps, [], false, ⟨#[]⟩, ⟨#[]⟩, ⟨#[]⟩, ⟨#[]⟩, [], -1⟩
theorem fold_line : foldF st0 lineFs = .ok lineSt := by kernel_rfl

theorem ba_of {n : ByteArray} {l : List UInt8} (h : n.data.toList = l) : n = ⟨⟨l⟩⟩ := by cases n; cases h; rfl

theorem line_full : Full lineSt := by
  intro n hn
  unfold isPs at hn
  simp only [Bool.or_eq_true, beq_iff_eq] at hn
  rcases hn with ((hn | hn) | hn) | hn <;> rw [ba_of hn] <;> decide

/-- alike but for the fields and whether there was one -/
structure Sim (a b : PSt) : Prop where
  ps : a.ps = b.ps
  hosts : a.hosts = b.hosts
  m : a.m = b.m
  s : a.s = b.s
  a_ : a.a = b.a
  p : a.p = b.p
  len : a.len = b.len

theorem take_sim {a b a' : PSt} {n v : ByteArray} (hf : Full a) (h : Sim a b) (ht : takeF a n v = .ok a') : ∃ b', takeF b n v = .ok b' ∧ Sim a' b' := by
  unfold takeF at ht ⊢
  split at ht
  · split at ht
    · rename_i hh
      exact absurd hh.2.2 (hf n hh.1)
    · cases ht
  · rename_i h0
    rw [if_neg h0]
    split at ht
    · cases ht
    · rename_i h1
      rw [if_neg h1]
      split at ht
      · cases ht
      · rename_i h2
        rw [if_neg h2]
        split at ht
        · cases ht
        · rename_i h3
          rw [if_neg h3]
          split at ht
          · rename_i h4
            rw [if_pos h4]
            split at ht
            · cases ht
            · rename_i k hk
              split at ht
              · rename_i h5
                cases ht
                rw [h.len] at h5
                refine ⟨{ b with reg := true, fields := b.fields ++ [⟨n, v⟩], len := k }, ?_, ⟨h.ps, h.hosts, h.m, h.s, h.a_, h.p, rfl⟩⟩
                exact if_pos h5
              · cases ht
          · rename_i h4
            rw [if_neg h4]
            split at ht
            · rename_i h5
              rw [if_pos h5]
              cases ht
              exact ⟨_, rfl, ⟨h.ps, by simp only [h.hosts], h.m, h.s, h.a_, h.p, h.len⟩⟩
            · rename_i h5
              rw [if_neg h5]
              cases ht
              exact ⟨_, rfl, ⟨h.ps, h.hosts, h.m, h.s, h.a_, h.p, h.len⟩⟩

theorem fold_sim (fs : List Fl) : ∀ {a b a' : PSt}, Full a → Sim a b → foldF a fs = .ok a' → ∃ b', foldF b fs = .ok b' ∧ Sim a' b' := by
  induction fs with
  | nil => intro a b a' _ h hf; cases hf; exact ⟨b, rfl, h⟩
  | cons f fs ih =>
    intro a b a' hfu h hf
    simp only [foldF] at hf ⊢
    split at hf
    · rename_i a1 h1
      obtain ⟨b1, hb1, hs1⟩ := take_sim hfu h h1
      rw [hb1]
      exact ih (take_full hfu h1) hs1 hf
    · cases hf

theorem line_sim {a b a' : PSt} (h : Sim a b) (hl : lineF a = .ok a') : ∃ b', lineF b = .ok b' ∧ Sim a' b' := by
  unfold lineF at hl ⊢
  rw [← h.ps]
  split at hl
  · cases hl
  · rename_i m hm
    split at hl
    · cases hl
    · rename_i h1
      simp only [if_neg h1]
      split at hl
      · rename_i h2
        simp only [if_pos h2]
        split at hl
        · cases hl
        · rename_i h3
          simp only [if_neg h3]
          split at hl
          · cases hl
          · rename_i h4
            simp only [if_neg h4]
            cases hl
            exact ⟨_, rfl, ⟨rfl, h.hosts, rfl, rfl, h.a_, rfl, h.len⟩⟩
      · rename_i h2
        simp only [if_neg h2]
        split at hl
        · rename_i s q hs hq
          split at hl
          · rename_i h3
            simp only [if_pos h3]
            cases hl
            exact ⟨_, rfl, ⟨rfl, h.hosts, rfl, rfl, h.a_, rfl, h.len⟩⟩
          · cases hl
        · cases hl

theorem place_sim {a b a' : PSt} (h : Sim a b) (hl : placeF a = .ok a') : ∃ b', placeF b = .ok b' := by
  unfold placeF at hl ⊢
  rw [← h.ps, ← h.hosts]
  split at hl
  · cases hl
  · split at hl
    · cases hl
    · rename_i h1
      simp only [if_neg h1]
      split at hl
      · rename_i h2
        simp only [if_pos h2]
        exact ⟨_, rfl⟩
      · cases hl

/-- is a field malformed by itself? -/
def wrongB (f : Fl) : Bool := !everyB nameR f.n || !valueB f.v || hopB f.n.data.toList f.v.data.toList

theorem name_no_colon {n : ByteArray} (h : Lib.hasPrefix n.data.toList [58] = true) : everyB nameR n = false := by
  cases hn : everyB nameR n with
  | false => rfl
  | true =>
    have h1 := (everyB_all hn).1
    unfold Lib.hasPrefix at h
    obtain ⟨⟨l⟩⟩ := n
    cases l with
    | nil => exact absurd h (by decide)
    | cons a l =>
      have h2 : (58 : UInt8) = a := by
        have : List.isPrefixOf [58] (a :: l) = true := h
        simpa [List.isPrefixOf] using this
      subst h2
      exact absurd (h1 58 (by simp)) (by decide)

theorem take_wrong {st : PSt} {f : Fl} (hf : Full st) (hw : wrongB f = true) : ∃ c, takeF st f.n f.v = .error c := by
  unfold takeF
  by_cases h0 : Lib.hasPrefix f.n.data.toList [58] = true
  · rw [if_pos h0, if_neg (fun hh => hf f.n hh.1 hh.2.2)]
    exact ⟨_, rfl⟩
  · rw [if_neg h0]
    unfold wrongB at hw
    cases h1 : everyB nameR f.n with
    | false => rw [if_pos rfl]; exact ⟨_, rfl⟩
    | true =>
      rw [if_neg (by decide)]
      cases h2 : valueB f.v with
      | false => rw [if_pos rfl]; exact ⟨_, rfl⟩
      | true =>
        rw [if_neg (by decide)]
        rw [h1, h2] at hw
        rw [if_pos (by simpa using hw)]
        exact ⟨_, rfl⟩

theorem take_right {st : PSt} {f : Fl} (hw : wrongB f = false) (h4 : f.n.data.toList ≠ bsCL) (h5 : f.n.data.toList ≠ bsHost) : ∃ st', takeF st f.n f.v = .ok st' ∧ Sim st st' := by
  unfold wrongB at hw
  simp only [Bool.or_eq_false_iff, Bool.not_eq_false'] at hw
  obtain ⟨⟨h1, h2⟩, h3⟩ := hw
  unfold takeF
  rw [if_neg (fun h0 => by rw [name_no_colon h0] at h1; cases h1), if_neg (by rw [h1]; decide), if_neg (by rw [h2]; decide), if_neg (by rw [h3]; decide), if_neg h4, if_neg h5]
  exact ⟨_, rfl, ⟨rfl, rfl, rfl, rfl, rfl, rfl, rfl⟩⟩

/-- THE PLAIN LAW of MessageSpoilt -/
theorem spoilt {fs : List Fl} {st : PSt} {c s : Int} {k : Nat} {f : Fl} (h : checkF (lineFs ++ fs) c s = .ok st)
    (hm : muchB ((lineFs ++ fs).take (4 + k) ++ [f] ++ (lineFs ++ fs).drop (4 + k)) c s = false) (h4 : f.n.data.toList ≠ bsCL) (h5 : f.n.data.toList ≠ bsHost) :
    if wrongB f = true then ∃ e, checkF ((lineFs ++ fs).take (4 + k) ++ [f] ++ (lineFs ++ fs).drop (4 + k)) c s = .error e else ∃ st', checkF ((lineFs ++ fs).take (4 + k) ++ [f] ++ (lineFs ++ fs).drop (4 + k)) c s = .ok st' := by
  unfold checkF at h
  split at h
  · cases h
  · split at h
    · cases h
    · rename_i sF hF
      split at h
      · cases h
      · rename_i sL hL
        have hsplit := foldF_append ((lineFs ++ fs).take (4 + k)) ((lineFs ++ fs).drop (4 + k)) st0
        rw [List.take_append_drop, hF] at hsplit
        have htake : (lineFs ++ fs).take (4 + k) = lineFs ++ fs.take k := by
          rw [List.take_append]
          have : lineFs.length = 4 := rfl
          rw [List.take_of_length_le (by omega), this, show 4 + k - 4 = k by omega]
        obtain ⟨s1, hs1⟩ : ∃ s1, foldF st0 ((lineFs ++ fs).take (4 + k)) = .ok s1 := by
          cases hq : foldF st0 ((lineFs ++ fs).take (4 + k)) with
          | ok s1 => exact ⟨s1, rfl⟩
          | error e => rw [hq] at hsplit; cases hsplit
        rw [hs1] at hsplit
        have hfull : Full s1 := by
          rw [htake, foldF_append, fold_line] at hs1
          exact fold_full _ line_full hs1
        have hW : foldF st0 ((lineFs ++ fs).take (4 + k) ++ [f] ++ (lineFs ++ fs).drop (4 + k)) = match takeF s1 f.n f.v with | .ok s2 => foldF s2 ((lineFs ++ fs).drop (4 + k)) | .error e => .error e := by
          rw [foldF_append, foldF_append, hs1]
          simp only [foldF]
          cases takeF s1 f.n f.v <;> rfl
        split
        · rename_i hw
          obtain ⟨e, he⟩ := take_wrong hfull hw
          refine ⟨e, ?_⟩
          unfold checkF
          rw [hm, hW, he]
          rfl
        · rename_i hw
          obtain ⟨s2, he, hsim⟩ := take_right (st := s1) (by simpa using hw) h4 h5
          obtain ⟨s3, h3, hsim3⟩ := fold_sim _ hfull hsim hsplit.symm
          obtain ⟨s4, h6, hsim4⟩ := line_sim hsim3 hL
          obtain ⟨s5, h7⟩ := place_sim hsim4 h
          refine ⟨s5, ?_⟩
          unfold checkF
          rw [hm, hW, he]
          simp only [h3, h6, h7]
          rfl

end Go.Proofs.YtohhdoibkopoiaaDoor.Msg
