/- The reference's Check and the program's come to the same: plain facts. -/
import Derived.Test.YtohhdoibkopoiaaDoorOrderPlain
import Derived.Test.YtohhdoibkopoiaaDoorRefVal
set_option linter.unusedVariables false
set_option linter.unusedSimpArgs false
namespace Go.Proofs.YtohhdoibkopoiaaDoor.Msg
open Go.RowKit

def baCL : ByteArray := ⟨#[99, 111, 110, 116, 101, 110, 116, 45, 108, 101, 110, 103, 116, 104]⟩
def baHost : ByteArray := ⟨#[104, 111, 115, 116]⟩

/-- a length as the reference reads it -/
def lenI (s : ByteArray) : Int := match lengthB s with | some n => n | none => -1

def isCL (f : Fl) : Bool := f.n.data.toList == bsCL
def isHost (f : Fl) : Bool := f.n.data.toList == bsHost
def keepB (f : Fl) : Bool := !isHost f && !pseudoB f.n

def restF (fs : List Fl) (f : Fl) : Int :=
  if valueB f.v = false then 181
  else if hopB f.n.data.toList f.v.data.toList = true then 184
  else if isCL f = true then (if lenI f.v < 0 ∨ lenI f.v ≠ lenI ((pick (pairsOf fs) baCL).getD ⟨#[]⟩) then 186 else 0)
  else 0

/-- is a name told twice, or behind another field? -/
def lateB (l : List Fl) (f : Fl) : Bool := l.any fun g => !pseudoB g.n || g.n.data.toList == f.n.data.toList

def oneF (fs : List Fl) (i : Nat) (f : Fl) : Int :=
  if pseudoB f.n = true then
    if isPs f.n.data.toList = false then 182
    else if lateB (fs.take i) f = true then 182
    else restF fs f
  else if everyB nameR f.n = false then 180
  else restF fs f

theorem lenI_pos {s : ByteArray} {k : Int} (h : lengthB s = some k) : 0 ≤ k := by
  unfold lengthB at h
  split at h
  · rename_i hc
    cases h
    have hd : allB dgR s.data.toList = true := by
      have := hc.2
      unfold everyB at this
      rw [Bool.and_eq_true] at this
      exact this.1
    have := (numB_bound s hd s.size (Nat.le_refl _)).1
    rwa [List.take_of_length_le (by simp)] at this
  · cases h

theorem pseudo_cons {n : ByteArray} (h : pseudoB n = true) : ∃ t, n.data.toList = 58 :: t := by
  unfold pseudoB Lib.hasPrefix at h
  cases hl : n.data.toList with
  | nil => rw [hl] at h; exact absurd h (by decide)
  | cons a t =>
    rw [hl] at h
    simp only [List.isPrefixOf, Bool.and_true, beq_iff_eq] at h
    exact ⟨t, by rw [← h]⟩

theorem pseudo_hop {n : ByteArray} (h : pseudoB n = true) (v : List UInt8) : hopB n.data.toList v = false := by
  obtain ⟨t, ht⟩ := pseudo_cons h
  rw [ht]; simp [hopB]

theorem pseudo_notCL {f : Fl} (h : pseudoB f.n = true) : isCL f = false := by
  obtain ⟨t, ht⟩ := pseudo_cons h
  unfold isCL bsCL; rw [ht]; simp
theorem pseudo_notHost {f : Fl} (h : pseudoB f.n = true) : isHost f = false := by
  obtain ⟨t, ht⟩ := pseudo_cons h
  unfold isHost bsHost; rw [ht]; simp

theorem pairs_append (a b : List Fl) : pairsOf (a ++ b) = pairsOf a ++ pairsOf b := by unfold pairsOf; rw [List.map_append]

theorem pick_app_none {l r : List (ByteArray × ByteArray)} {n : ByteArray} (h : pick l n = none) : pick (l ++ r) n = pick r n := by
  unfold pick at h ⊢
  rw [Option.map_eq_none_iff] at h
  rw [List.find?_append, h]; rfl

theorem pick_one_eq {f : Fl} {n : ByteArray} (h : f.n.data.toList = n.data.toList) (r : List (ByteArray × ByteArray)) : pick ((f.n, f.v) :: r) n = some f.v := by
  unfold pick
  rw [List.find?_cons]
  simp [h]
theorem pick_one_ne {f : Fl} {n : ByteArray} (h : f.n.data.toList ≠ n.data.toList) (r : List (ByteArray × ByteArray)) : pick ((f.n, f.v) :: r) n = pick r n := by
  unfold pick
  rw [List.find?_cons]
  have : (f.n.data.toList == n.data.toList) = false := beq_eq_false_iff_ne.2 h
  rw [this]

/-- a pseudo name is found among the pseudo fields -/
theorem pick_filter {n : ByteArray} (hn : pseudoB n = true) (l : List Fl) : pick (pairsOf (l.filter fun f => pseudoB f.n)) n = pick (pairsOf l) n := by
  induction l with
  | nil => rfl
  | cons f l ih =>
    rw [show pairsOf (f :: l) = (f.n, f.v) :: pairsOf l from rfl]
    cases hp : pseudoB f.n with
    | true =>
      rw [List.filter_cons, if_pos hp, show pairsOf (f :: l.filter fun f => pseudoB f.n) = (f.n, f.v) :: pairsOf (l.filter fun f => pseudoB f.n) from rfl]
      by_cases h : f.n.data.toList = n.data.toList
      · rw [pick_one_eq h, pick_one_eq h]
      · rw [pick_one_ne h, pick_one_ne h, ih]
    | false =>
      rw [List.filter_cons, if_neg (by rw [hp]; decide), ih]
      have h : f.n.data.toList ≠ n.data.toList := by
        intro h
        have : f.n = n := ba_ext h
        rw [this, hn] at hp
        cases hp
      rw [pick_one_ne h]

theorem pick_pairs_none {l : List Fl} {n : ByteArray} : pick (pairsOf l) n = none ↔ ∀ g ∈ l, g.n.data.toList ≠ n.data.toList := by
  induction l with
  | nil => exact ⟨fun _ g hg => absurd hg (by simp), fun _ => rfl⟩
  | cons f l ih =>
    rw [show pairsOf (f :: l) = (f.n, f.v) :: pairsOf l from rfl]
    by_cases h : f.n.data.toList = n.data.toList
    · rw [pick_one_eq h]
      exact ⟨fun e => absurd e (by simp), fun e => absurd h (e f (by simp))⟩
    · rw [pick_one_ne h, ih]
      constructor
      · intro e g hg
        rcases List.mem_cons.1 hg with hg | hg
        · rw [hg]; exact h
        · exact e g hg
      · exact fun e g hg => e g (by simp [hg])

/-- what a prefix has said -/
structure Inv (st : PSt) (l : List Fl) : Prop where
  ps : st.ps = pairsOf (l.filter fun f => pseudoB f.n)
  reg : st.reg = l.any fun f => !pseudoB f.n
  hosts : st.hosts = (l.filter isHost).map (·.v)
  flds : st.fields = l.filter keepB
  cl : (pick (pairsOf l) baCL = none ∧ st.len = -1) ∨ ∃ v, pick (pairsOf l) baCL = some v ∧ lengthB v = some st.len
  all : ∀ f ∈ l, isCL f = true → lengthB f.v = some st.len

theorem inv_nil : Inv st0 [] := ⟨rfl, rfl, rfl, rfl, .inl ⟨rfl, rfl⟩, fun _ h => by cases h⟩

theorem late_iff {st : PSt} {l : List Fl} {f : Fl} (h : Inv st l) (hp : pseudoB f.n = true) : lateB l f = false ↔ (st.reg = false ∧ pick st.ps f.n = none) := by
  rw [h.reg, h.ps, pick_filter hp, pick_pairs_none]
  unfold lateB
  rw [List.any_eq_false, List.any_eq_false]
  constructor
  · intro e
    refine ⟨fun g hg => ?_, fun g hg => ?_⟩
    · have := e g hg; simp only [Bool.or_eq_true, not_or] at this; exact this.1
    · have := e g hg; simp only [Bool.or_eq_true, not_or, beq_iff_eq] at this; exact this.2
  · intro e g hg
    have h1 := e.1 g hg
    have h2 := e.2 g hg
    simp only [Bool.or_eq_true, not_or, beq_iff_eq]
    exact ⟨h1, h2⟩

theorem cl_name {f : Fl} (h : isCL f = true) : f.n.data.toList = baCL.data.toList := beq_iff_eq.1 h
theorem not_cl_name {f : Fl} (h : isCL f = false) : f.n.data.toList ≠ baCL.data.toList := beq_eq_false_iff_ne.1 h

/-- one field, as both see it -/
theorem one_take {st : PSt} {fs : List Fl} {i : Nat} {f : Fl} (hi : fs[i]? = some f) (h : Inv st (fs.take i)) :
    (oneF fs i f = 0 ∧ ∃ st', takeF st f.n f.v = .ok st' ∧ Inv st' (fs.take (i + 1))) ∨ (oneF fs i f ≠ 0 ∧ takeF st f.n f.v = .error (oneF fs i f)) := by
  obtain ⟨hlt, hfi⟩ := List.getElem?_eq_some_iff.1 hi
  have htk : fs.take (i + 1) = fs.take i ++ [f] := by rw [List.take_succ_eq_append_getElem hlt, hfi]
  have hfs : fs = fs.take i ++ (f :: fs.drop (i + 1)) := by
    rw [← hfi, ← List.drop_eq_getElem_cons hlt, List.take_append_drop]
  rw [htk]
  unfold oneF takeF
  cases hp : pseudoB f.n with
  | true =>
    have hp' : Lib.hasPrefix f.n.data.toList [58] = true := hp
    rw [if_pos rfl, if_pos hp']
    have hli := late_iff h hp
    cases hs : isPs f.n.data.toList with
    | false =>
      simp only [if_true, Bool.false_eq_true, false_and, if_false]
      exact .inr ⟨by decide, by first | trivial | rfl⟩
    | true =>
      rw [if_neg (by decide)]
      cases hl : lateB (fs.take i) f with
      | true =>
        rw [if_pos rfl]
        refine .inr ⟨by decide, ?_⟩
        rw [if_neg]
        intro e
        rw [hli.2 ⟨e.2.1, e.2.2⟩] at hl
        cases hl
      | false =>
        obtain ⟨e1, e2⟩ := hli.1 hl
        rw [if_neg (by decide), if_pos ⟨rfl, e1, e2⟩]
        unfold restF
        rw [pseudo_hop hp, pseudo_notCL hp]
        cases hv : valueB f.v with
        | false =>
          simp only [if_true, Bool.false_eq_true, if_false]
          exact .inr ⟨by decide, by first | trivial | rfl⟩
        | true =>
          refine .inl ⟨rfl, _, rfl, ?_⟩
          refine ⟨?_, ?_, ?_, ?_, ?_, ?_⟩
          · simp only [List.filter_append, List.filter_cons, hp, if_true, List.filter_nil, pairs_append, h.ps]; rfl
          · simp only [List.any_append, h.reg, List.any_cons, hp, List.any_nil]; simp
          · simp only [List.filter_append, List.filter_cons, pseudo_notHost hp, List.filter_nil, List.map_append, h.hosts]; simp
          · have : keepB f = false := by unfold keepB; rw [hp]; simp
            simp only [List.filter_append, List.filter_cons, this, List.filter_nil, h.flds]; simp
          · have hn := not_cl_name (pseudo_notCL hp)
            rcases h.cl with ⟨q1, q2⟩ | ⟨v, q1, q2⟩
            · left; refine ⟨?_, q2⟩
              rw [pairs_append, pick_app_none q1]; exact pick_one_ne hn _
            · right; exact ⟨v, by rw [pairs_append]; exact pick_append q1, q2⟩
          · intro g hg hc
            rcases List.mem_append.1 hg with hg | hg
            · exact h.all g hg hc
            · simp only [List.mem_singleton] at hg; subst hg; rw [pseudo_notCL hp] at hc; cases hc
  | false =>
    have hp' : ¬ Lib.hasPrefix f.n.data.toList [58] = true := by show ¬ pseudoB f.n = true; rw [hp]; decide
    rw [if_neg (by decide), if_neg hp']
    cases hn : everyB nameR f.n with
    | false =>
      simp only [if_true]
      exact .inr ⟨by decide, by first | trivial | rfl⟩
    | true =>
      simp only [Bool.true_eq_false, if_false]
      unfold restF
      cases hv : valueB f.v with
      | false =>
        simp only [if_true]
        exact .inr ⟨by decide, by first | trivial | rfl⟩
      | true =>
        simp only [Bool.true_eq_false, if_false]
        cases hh : hopB f.n.data.toList f.v.data.toList with
        | true =>
          simp only [if_true]
          exact .inr ⟨by decide, by first | trivial | rfl⟩
        | false =>
          simp only [Bool.false_eq_true, if_false]
          have hreg : (fs.take i ++ [f]).any (fun f => !pseudoB f.n) = true := by simp [List.any_append, hp]
          have hps : pairsOf ((fs.take i ++ [f]).filter fun f => pseudoB f.n) = st.ps := by
            rw [h.ps, List.filter_append, List.filter_cons, hp]; simp
          cases hc : isCL f with
          | true =>
            have hcn := cl_name hc
            have hc' : f.n.data.toList = bsCL := hcn
            have hnh : isHost f = false := by unfold isHost; rw [hc']; decide
            have hk : keepB f = true := by unfold keepB; rw [hnh, hp]; rfl
            rw [if_pos rfl, if_pos hc']
            cases hlb : lengthB f.v with
            | none =>
              have : lenI f.v = -1 := by unfold lenI; rw [hlb]
              rw [if_pos (.inl (by rw [this]; decide))]
              exact .inr ⟨by decide, by first | trivial | rfl⟩
            | some k =>
              have hl : lenI f.v = k := by unfold lenI; rw [hlb]
              have hk0 := lenI_pos hlb
              rw [hl]
              have hdone : ∀ (hke : pick (pairsOf (fs.take i ++ [f])) baCL = some f.v ∨ ∃ v, pick (pairsOf (fs.take i ++ [f])) baCL = some v ∧ lengthB v = some k) (hal : ∀ g ∈ fs.take i, isCL g = true → lengthB g.v = some k),
                  Inv { st with reg := true, fields := st.fields ++ [⟨f.n, f.v⟩], len := k } (fs.take i ++ [f]) := by
                intro hke hal
                refine ⟨hps.symm, hreg.symm, ?_, ?_, ?_, ?_⟩
                · simp only [List.filter_append, List.filter_cons, hnh, List.filter_nil, List.map_append, h.hosts]; simp
                · simp only [List.filter_append, List.filter_cons, hk, List.filter_nil, h.flds]; simp
                · right
                  rcases hke with hke | ⟨v, q1, q2⟩
                  · exact ⟨f.v, hke, hlb⟩
                  · exact ⟨v, q1, q2⟩
                · intro g hg hgc
                  rcases List.mem_append.1 hg with hg | hg
                  · exact hal g hg hgc
                  · simp only [List.mem_singleton] at hg; subst hg; exact hlb
              rcases h.cl with ⟨q1, q2⟩ | ⟨v, q1, q2⟩
              · have hfst : pick (pairsOf fs) baCL = some f.v := by
                  rw [hfs, pairs_append, pick_app_none q1]; exact pick_one_eq hcn _
                rw [hfst]
                simp only [Option.getD_some]
                rw [if_neg (show ¬ (k < 0 ∨ k ≠ lenI f.v) from fun e => e.elim (fun e => by omega) (fun e => e hl.symm))]
                refine .inl ⟨rfl, _, if_pos (.inl (by rw [q2]; decide)), hdone (.inl ?_) ?_⟩
                · rw [pairs_append, pick_app_none q1]; exact pick_one_eq hcn _
                · intro g hg hgc
                  exact absurd (cl_name hgc) (pick_pairs_none.1 q1 g hg)
              · have hfst : pick (pairsOf fs) baCL = some v := by rw [hfs, pairs_append]; exact pick_append q1
                have hlv : lenI v = st.len := by unfold lenI; rw [q2]
                have hpos := lenI_pos q2
                rw [hfst]
                simp only [Option.getD_some]
                by_cases he : st.len = k
                · rw [if_neg (show ¬ (k < 0 ∨ k ≠ lenI v) from fun e => e.elim (fun e => by omega) (fun e => e (hlv ▸ he.symm)))]
                  refine .inl ⟨rfl, _, if_pos (.inr he), hdone (.inr ⟨v, ?_, by rw [q2, he]⟩) (fun g hg hgc => by rw [h.all g hg hgc, he])⟩
                  rw [pairs_append]; exact pick_append q1
                · rw [if_pos (show k < 0 ∨ k ≠ lenI v from .inr fun e => he (hlv ▸ e.symm))]
                  refine .inr ⟨by decide, if_neg ?_⟩
                  rintro (e | e)
                  · omega
                  · exact he e
          | false =>
            have hcn := not_cl_name hc
            have hc' : ¬ f.n.data.toList = bsCL := hcn
            rw [if_neg (by decide), if_neg hc']
            have hclR : ∀ L : Int, L = st.len → ((pick (pairsOf (fs.take i ++ [f])) baCL = none ∧ L = -1) ∨ ∃ v, pick (pairsOf (fs.take i ++ [f])) baCL = some v ∧ lengthB v = some L) := by
              rintro L rfl
              rcases h.cl with ⟨q1, q2⟩ | ⟨v, q1, q2⟩
              · left; refine ⟨?_, q2⟩
                rw [pairs_append, pick_app_none q1]; exact pick_one_ne hcn _
              · right; exact ⟨v, by rw [pairs_append]; exact pick_append q1, q2⟩
            have hallR : ∀ g ∈ fs.take i ++ [f], isCL g = true → lengthB g.v = some st.len := by
              intro g hg hgc
              rcases List.mem_append.1 hg with hg | hg
              · exact h.all g hg hgc
              · simp only [List.mem_singleton] at hg; subst hg; rw [hc] at hgc; cases hgc
            cases ho : isHost f with
            | true =>
              have ho' : f.n.data.toList = bsHost := beq_iff_eq.1 ho
              have hk : keepB f = false := by unfold keepB; rw [ho]; rfl
              rw [if_pos ho']
              refine .inl ⟨rfl, _, rfl, ⟨hps.symm, hreg.symm, ?_, ?_, hclR _ rfl, hallR⟩⟩
              · simp only [List.filter_append, List.filter_cons, ho, List.filter_nil, List.map_append, h.hosts]; simp
              · simp only [List.filter_append, List.filter_cons, hk, List.filter_nil, h.flds]; simp
            | false =>
              have ho' : ¬ f.n.data.toList = bsHost := beq_eq_false_iff_ne.1 ho
              have hk : keepB f = true := by unfold keepB; rw [ho, hp]; rfl
              rw [if_neg ho']
              refine .inl ⟨rfl, _, rfl, ⟨hps.symm, hreg.symm, ?_, ?_, hclR _ rfl, hallR⟩⟩
              · simp only [List.filter_append, List.filter_cons, ho, List.filter_nil, List.map_append, h.hosts]; simp
              · simp only [List.filter_append, List.filter_cons, hk, List.filter_nil, h.flds]; simp

end Go.Proofs.YtohhdoibkopoiaaDoor.Msg
