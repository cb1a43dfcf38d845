/- What a request that is taken holds: plain facts on checkF. -/
import Derived.Test.YtohhdoibkopoiaaDoorMsgFold
import Derived.Test.YtohhdoibkopoiaaDoorRefTok
set_option linter.unusedVariables false
set_option linter.unusedSimpArgs false
namespace Go.Proofs.YtohhdoibkopoiaaDoor.Msg
open Go.RowKit

/-- bytes that may stand on a server's line -/
def Vis (s : ByteArray) : Prop := ∀ c ∈ s.data.toList, 32 < c.toNat ∧ c.toNat < 127

set_option maxRecDepth 100000 in
theorem tokR_range (c : UInt8) (h : tokR c.toNat = true) : 32 < c.toNat ∧ c.toNat < 127 := by
  obtain ⟨n, hn⟩ : ∃ n : Fin 256, UInt8.ofNat n.val = c := ⟨⟨c.toNat, c.toNat_lt⟩, by simp⟩
  subst hn
  revert h n
  decide
set_option maxRecDepth 100000 in
theorem nameR_range (c : UInt8) (h : nameR c.toNat = true) : 32 < c.toNat ∧ c.toNat < 127 ∧ c.toNat ≠ 58 ∧ ¬ (65 ≤ c.toNat ∧ c.toNat ≤ 90) := by
  obtain ⟨n, hn⟩ : ∃ n : Fin 256, UInt8.ofNat n.val = c := ⟨⟨c.toNat, c.toNat_lt⟩, by simp⟩
  subst hn
  revert h n
  decide
set_option maxRecDepth 100000 in
theorem authR_range (c : UInt8) (h : authR c.toNat = true) : 32 < c.toNat ∧ c.toNat < 127 := by
  obtain ⟨n, hn⟩ : ∃ n : Fin 256, UInt8.ofNat n.val = c := ⟨⟨c.toNat, c.toNat_lt⟩, by simp⟩
  subst hn
  revert h n
  decide
set_option maxRecDepth 100000 in
theorem pathR_range (c : UInt8) (h : pathR c.toNat = true) : 32 < c.toNat ∧ c.toNat < 127 := by
  obtain ⟨n, hn⟩ : ∃ n : Fin 256, UInt8.ofNat n.val = c := ⟨⟨c.toNat, c.toNat_lt⟩, by simp⟩
  subst hn
  revert h n
  decide
set_option maxRecDepth 100000 in
theorem okV_range (c : UInt8) (h : okV c = true) : c.toNat ≠ 0 ∧ c.toNat ≠ 13 ∧ c.toNat ≠ 10 := by
  obtain ⟨n, hn⟩ : ∃ n : Fin 256, UInt8.ofNat n.val = c := ⟨⟨c.toNat, c.toNat_lt⟩, by simp⟩
  subst hn
  revert h n
  decide

theorem everyB_all {p : Int → Bool} {s : ByteArray} (h : everyB p s = true) : (∀ c ∈ s.data.toList, p c.toNat = true) ∧ s.data.toList ≠ [] := by
  unfold everyB allB at h
  rw [Bool.and_eq_true, List.all_eq_true] at h
  refine ⟨h.1, fun e => ?_⟩
  rw [e] at h
  exact absurd h.2 (by decide)

theorem vis_every {p : Int → Bool} (hp : ∀ c : UInt8, p c.toNat = true → 32 < c.toNat ∧ c.toNat < 127) {s : ByteArray} (h : everyB p s = true) : Vis s := fun c hc => hp c ((everyB_all h).1 c hc)

theorem vis_of {s : ByteArray} {l : List UInt8} (h : s.data.toList = l) (hl : ∀ c ∈ l, 32 < c.toNat ∧ c.toNat < 127) : Vis s := fun c hc => hl c (h ▸ hc)

theorem path_facts {m q : ByteArray} (h : pathB m q = true) : Vis q ∧ q.data.toList ≠ [] := by
  unfold pathB at h
  split at h
  · rename_i hh
    exact ⟨vis_of hh.2 (by decide), by rw [hh.2]; decide⟩
  · rw [Bool.and_eq_true] at h
    exact ⟨vis_every pathR_range h.2, (everyB_all h.2).2⟩

/-- what every field that was taken is -/
def FldOk (f : Fl) : Prop := everyB nameR f.n = true ∧ valueB f.v = true ∧ hopB f.n.data.toList f.v.data.toList = false ∧ f.n.data.toList ≠ bsHost

theorem take_fields {st st' : PSt} {n v : ByteArray} (h : ∀ f ∈ st.fields, FldOk f) (ht : takeF st n v = .ok st') : ∀ f ∈ st'.fields, FldOk f := by
  unfold takeF at ht
  split at ht
  · split at ht
    · split at ht
      · cases ht; exact h
      · cases ht
    · cases ht
  · split at ht
    · cases ht
    · rename_i hn
      split at ht
      · cases ht
      · rename_i hv
        split at ht
        · cases ht
        · rename_i hh
          have h1 : everyB nameR n = true := by simpa using hn
          have h2 : valueB v = true := by simpa using hv
          have h3 : hopB n.data.toList v.data.toList = false := by simpa using hh
          split at ht
          · rename_i hcl
            split at ht
            · cases ht
            · split at ht
              · cases ht
                intro f hf
                rcases List.mem_append.1 hf with hf | hf
                · exact h f hf
                · simp only [List.mem_singleton] at hf
                  subst hf
                  exact ⟨h1, h2, h3, by rw [hcl]; decide⟩
              · cases ht
          · split at ht
            · cases ht; exact h
            · rename_i hho
              cases ht
              intro f hf
              rcases List.mem_append.1 hf with hf | hf
              · exact h f hf
              · simp only [List.mem_singleton] at hf
                subst hf
                exact ⟨h1, h2, h3, hho⟩

theorem fold_fields (fs : List Fl) : ∀ {st st' : PSt}, (∀ f ∈ st.fields, FldOk f) → foldF st fs = .ok st' → ∀ f ∈ st'.fields, FldOk f := by
  induction fs with
  | nil => intro st st' h hf; cases hf; exact h
  | cons f fs ih =>
    intro st st' h hf
    simp only [foldF] at hf
    split at hf
    · rename_i st1 h1
      exact ih (take_fields h h1) hf
    · cases hf

/-- what a request's line is -/
def LineOk (st : PSt) : Prop := everyB tokR st.m = true ∧ Vis st.s ∧ Vis st.p ∧ (st.m.data.toList = bsConnect ↔ st.p.data.toList = [])

theorem line_facts {st st1 : PSt} (h : lineF st = .ok st1) : LineOk st1 := by
  unfold lineF at h
  split at h
  · cases h
  · rename_i m hm
    split at h
    · cases h
    · rename_i hmt
      have h1 : everyB tokR m = true := by simpa using hmt
      split at h
      · rename_i hmc
        split at h
        · cases h
        · split at h
          · cases h
          · cases h
            exact ⟨h1, vis_of (l := []) rfl (by decide), vis_of (l := []) rfl (by decide), by simp only []; rw [hmc]; exact ⟨fun _ => rfl, fun _ => rfl⟩⟩
      · rename_i hmc
        split at h
        · split at h
          · rename_i hs
            cases h
            obtain ⟨hs1, hs2⟩ := hs
            have hp := path_facts hs2
            refine ⟨h1, ?_, hp.1, ⟨fun e => absurd e hmc, fun e => absurd e hp.2⟩⟩
            rcases hs1 with hs1 | hs1
            · exact vis_of hs1 (by decide)
            · exact vis_of hs1 (by decide)
          · cases h
        · cases h

theorem place_facts {st st1 : PSt} (h : placeF st = .ok st1) : everyB authR st1.a = true ∧ st1.m = st.m ∧ st1.s = st.s ∧ st1.p = st.p ∧ st1.fields = st.fields ∧ st1.len = st.len := by
  unfold placeF at h
  split at h
  · cases h
  · split at h
    · cases h
    · rename_i ha
      split at h
      · cases h
        exact ⟨by simpa using ha, rfl, rfl, rfl, rfl, rfl⟩
      · cases h

/-- what a request that is taken is -/
structure ReqOk (st : PSt) : Prop where
  line : LineOk st
  auth : everyB authR st.a = true
  flds : ∀ f ∈ st.fields, FldOk f

theorem check_facts {fs : List Fl} {c s : Int} {st : PSt} (h : checkF fs c s = .ok st) : ReqOk st := by
  unfold checkF at h
  split at h
  · cases h
  · split at h
    · cases h
    · rename_i st1 h1
      split at h
      · cases h
      · rename_i st2 h2
        have h3 := place_facts h
        have h4 := line_facts h2
        have h5 := lineF_ps h2
        have h6 := fold_fields fs (st := st0) (by simp [st0]) h1
        refine ⟨?_, h3.1, ?_⟩
        · unfold LineOk at h4 ⊢
          rw [h3.2.1, h3.2.2.1, h3.2.2.2.1]; exact h4
        · rw [h3.2.2.2.2.1, h5.2.2.1]; exact h6

theorem check_size {fs : List Fl} {c s : Int} {st : PSt} (h : checkF fs c s = .ok st) : st.fields.length ≤ fs.length := by
  unfold checkF at h
  split at h
  · cases h
  · split at h
    · cases h
    · rename_i st1 h1
      split at h
      · cases h
      · rename_i st2 h2
        have h3 := place_facts h
        have h5 := lineF_ps h2
        have h6 := (okst_fold (P := fun _ => True) fs (okst_st0 _) (fun _ _ => trivial) h1).len
        rw [h3.2.2.2.2.1, h5.2.2.1]; omega

def IsErr (c : Int) : Prop := 180 ≤ c ∧ c ≤ 186

theorem take_err {st : PSt} {n v : ByteArray} {c : Int} (h : takeF st n v = .error c) : IsErr c := by
  unfold takeF at h
  repeat' (split at h)
  all_goals first | (cases h; unfold IsErr; omega) | (cases h)

theorem fold_err (fs : List Fl) : ∀ {st : PSt} {c : Int}, foldF st fs = .error c → IsErr c := by
  induction fs with
  | nil => intro st c h; cases h
  | cons f fs ih =>
    intro st c h
    simp only [foldF] at h
    split at h
    · exact ih h
    · rename_i c' h1
      cases h
      exact take_err h1

theorem check_err {fs : List Fl} {c s e : Int} (h : checkF fs c s = .error e) : IsErr e := by
  unfold checkF at h
  split at h
  · cases h; unfold IsErr; omega
  · split at h
    · rename_i e1 h1
      cases h
      exact fold_err fs h1
    · split at h
      · rename_i e1 h1
        cases h
        unfold lineF at h1
        repeat' (split at h1)
        all_goals first | (cases h1; unfold IsErr; omega) | (cases h1)
      · unfold placeF at h
        repeat' (split at h)
        all_goals first | (cases h; unfold IsErr; omega) | (cases h)

theorem value_ok {s : ByteArray} (h : valueB s = true) : ∀ c ∈ s.data.toList, c.toNat ≠ 0 ∧ c.toNat ≠ 13 ∧ c.toNat ≠ 10 := by
  unfold valueB at h
  rw [Bool.and_eq_true, List.all_eq_true] at h
  exact fun c hc => okV_range c (h.1 c hc)

theorem name_ok {s : ByteArray} (h : everyB nameR s = true) : ∀ c ∈ s.data.toList, c.toNat ≠ 0 ∧ c.toNat ≠ 13 ∧ c.toNat ≠ 10 := fun c hc => by
  have := nameR_range c ((everyB_all h).1 c hc)
  omega

theorem line_P {P : ByteArray → Prop} {st st1 : PSt} (h : lineF st = .ok st1) (hps : ∀ x ∈ st.ps, P x.2) (hnil : P baNil) : P st1.m ∧ P st1.s ∧ P st1.p := by
  unfold lineF at h
  split at h
  · cases h
  · rename_i m hm
    have h1 : P m := hps _ (pick_some hm)
    split at h
    · cases h
    · split at h
      · split at h
        · cases h
        · split at h
          · cases h
          · cases h
            exact ⟨h1, hnil, hnil⟩
      · split at h
        · rename_i s q hs hq
          split at h
          · cases h
            exact ⟨h1, hps _ (pick_some hs), hps _ (pick_some hq)⟩
          · cases h
        · cases h

theorem place_P {P : ByteArray → Prop} {st st1 : PSt} (h : placeF st = .ok st1) (hps : ∀ x ∈ st.ps, P x.2) (hho : ∀ x ∈ st.hosts, P x) : P st1.a := by
  unfold placeF at h
  split at h
  · cases h
  · rename_i a ha
    have h1 : P a := by
      cases hp : pick st.ps baAuth with
      | some b =>
        rw [hp] at ha
        cases ha
        exact hps _ (pick_some hp)
      | none =>
        rw [hp] at ha
        exact hho _ (List.mem_of_head? ha)
    split at h
    · cases h
    · split at h
      · cases h; exact h1
      · cases h

theorem take_mem {st st' : PSt} {f : Fl} {l : List Fl} (h : ∀ x ∈ st.fields, x ∈ l) (hf : f ∈ l) (ht : takeF st f.n f.v = .ok st') : ∀ x ∈ st'.fields, x ∈ l := by
  have happ : ∀ x ∈ st.fields ++ [(⟨f.n, f.v⟩ : Fl)], x ∈ l := by
    intro x hx
    rcases List.mem_append.1 hx with hx | hx
    · exact h x hx
    · simp only [List.mem_singleton] at hx
      subst hx
      exact hf
  unfold takeF at ht
  repeat' (split at ht)
  all_goals first | (cases ht; exact h) | (cases ht; exact happ) | (cases ht)

theorem fold_mem (fs : List Fl) {l : List Fl} : ∀ {st st' : PSt}, (∀ f ∈ fs, f ∈ l) → (∀ f ∈ st.fields, f ∈ l) → foldF st fs = .ok st' → ∀ f ∈ st'.fields, f ∈ l := by
  induction fs with
  | nil => intro st st' _ h hf; cases hf; exact h
  | cons f fs ih =>
    intro st st' hl h hf
    simp only [foldF] at hf
    split at hf
    · rename_i st1 h1
      exact ih (fun g hg => hl g (by simp [hg])) (take_mem h (hl f (by simp)) h1) hf
    · cases hf

theorem check_P {P : ByteArray → Prop} {fs : List Fl} {c s : Int} {st : PSt} (h : checkF fs c s = .ok st) (hP : ∀ f ∈ fs, P f.v) (hnil : P baNil) : P st.m ∧ P st.s ∧ P st.a ∧ P st.p ∧ ∀ f ∈ st.fields, f ∈ fs := by
  unfold checkF at h
  split at h
  · cases h
  · split at h
    · cases h
    · rename_i st1 h1
      split at h
      · cases h
      · rename_i st2 h2
        have h3 := place_facts h
        have h5 := lineF_ps h2
        have h6 := okst_fold (P := P) fs (okst_st0 _) hP h1
        have h7 := line_P h2 h6.ps hnil
        have h8 := place_P h (by rw [h5.1]; exact h6.ps) (by rw [h5.2.1]; exact h6.hosts)
        have h9 := fold_mem fs (l := fs) (fun f hf => hf) (st := st0) (by simp [st0]) h1
        refine ⟨by rw [h3.2.1]; exact h7.1, by rw [h3.2.2.1]; exact h7.2.1, h8, by rw [h3.2.2.2.1]; exact h7.2.2, ?_⟩
        rw [h3.2.2.2.2.1, h5.2.2.1]; exact h9

end Go.Proofs.YtohhdoibkopoiaaDoor.Msg
