/- The reference's Check, told by what it finds: plain facts. -/
import Derived.Test.YtohhdoibkopoiaaDoorChecksPlain
set_option linter.unusedVariables false
set_option linter.unusedSimpArgs false
namespace Go.Proofs.YtohhdoibkopoiaaDoor.Msg
open Go.RowKit

def placeG (st : PSt) (pa ph : Option ByteArray) : Except Int PSt :=
  match pa.orElse (fun _ => ph) with
  | none => .error 183
  | some a =>
    if everyB authR a = false then .error 182
    else if st.hosts.all (fun h => h.data.toList == a.data.toList) = true then .ok { st with a := a } else .error 182

def endG (st : PSt) (pm ps pp pa ph : Option ByteArray) : Except Int PSt :=
  match pm with
  | none => .error 183
  | some m =>
    if everyB tokR m = false then .error 182
    else if m.data.toList = bsConnect then
      if ps ≠ none ∨ pp ≠ none then .error 182
      else if pa = none then .error 183
      else placeG { st with m := m, s := baNil, p := baNil } pa ph
    else
      match ps, pp with
      | some s, some q =>
        if (s.data.toList = bsHttp ∨ s.data.toList = bsHttps) ∧ pathB m q = true then placeG { st with m := m, s := s, p := q } pa ph else .error 182
      | _, _ => .error 183

theorem host_name {f : Fl} (h : isHost f = true) : f.n.data.toList = baHost.data.toList := beq_iff_eq.1 h
theorem not_host_name {f : Fl} (h : isHost f = false) : f.n.data.toList ≠ baHost.data.toList := beq_eq_false_iff_ne.1 h

theorem hosts_head (l : List Fl) : ((l.filter isHost).map (·.v)).head? = pick (pairsOf l) baHost := by
  induction l with
  | nil => rfl
  | cons f l ih =>
    rw [show pairsOf (f :: l) = (f.n, f.v) :: pairsOf l from rfl]
    cases h : isHost f with
    | true => rw [pick_one_eq (host_name h), List.filter_cons, if_pos h]; rfl
    | false => rw [pick_one_ne (not_host_name h), List.filter_cons, if_neg (by rw [h]; decide), ih]

theorem check_mid {fs : List Fl} {c s : Int} {st : PSt} (hm : muchB fs c s = false) (hf : foldF st0 fs = .ok st) (hi : Inv st fs) :
    checkF fs c s = endG st (pick (pairsOf fs) baMethod) (pick (pairsOf fs) baScheme) (pick (pairsOf fs) baPath) (pick (pairsOf fs) baAuth) (pick (pairsOf fs) baHost) := by
  have p1 : pick st.ps baMethod = pick (pairsOf fs) baMethod := by rw [hi.ps, pick_filter (by decide)]
  have p2 : pick st.ps baScheme = pick (pairsOf fs) baScheme := by rw [hi.ps, pick_filter (by decide)]
  have p3 : pick st.ps baPath = pick (pairsOf fs) baPath := by rw [hi.ps, pick_filter (by decide)]
  have p4 : pick st.ps baAuth = pick (pairsOf fs) baAuth := by rw [hi.ps, pick_filter (by decide)]
  have p5 : st.hosts.head? = pick (pairsOf fs) baHost := by rw [hi.hosts, hosts_head]
  unfold checkF
  rw [hm, hf, if_neg (by decide)]
  show ((match lineF st with | .error e => .error e | .ok st1 => placeF st1 : Except Int PSt)) = _
  unfold lineF endG placeG placeF
  rw [p1, p2, p3, p4]
  cases pick (pairsOf fs) baMethod with
  | none => rfl
  | some m =>
    simp only []
    by_cases h1 : everyB tokR m = false
    · simp only [if_pos h1]
    · simp only [if_neg h1]
      by_cases h2 : m.data.toList = bsConnect
      · simp only [if_pos h2]
        by_cases h3 : pick (pairsOf fs) baScheme ≠ none ∨ pick (pairsOf fs) baPath ≠ none
        · simp only [if_pos h3]
        · simp only [if_neg h3]
          by_cases h4 : pick (pairsOf fs) baAuth = none
          · simp only [if_pos h4]
          · simp only [if_neg h4, p5, p4]
            rfl
      · simp only [if_neg h2]
        cases pick (pairsOf fs) baScheme with
        | none => rfl
        | some a =>
          cases pick (pairsOf fs) baPath with
          | none => rfl
          | some b =>
            simp only []
            by_cases h5 : (a.data.toList = bsHttp ∨ a.data.toList = bsHttps) ∧ pathB m b = true
            · simp only [if_pos h5, p5, p4]
              rfl
            · simp only [if_neg h5]

theorem check_fold_err {fs : List Fl} {c s : Int} {k : Nat} {e : Int} (hm : muchB fs c s = false) (hf : foldF st0 (fs.take k) = .error e) : checkF fs c s = .error e := by
  unfold checkF
  rw [hm, if_neg (by decide), foldF_error_take fs st0 k e hf]

theorem check_185 {fs : List Fl} {c s : Int} (hm : muchB fs c s = true) : checkF fs c s = .error 185 := by
  unfold checkF; rw [if_pos hm]

/-- the length that the second loop has come to -/
def lenAt (l : List Fl) (n : Int) : Int := if l.any isCL = true then n else -1

theorem len_end {st : PSt} {fs : List Fl} (h : Inv st fs) : lenAt fs st.len = st.len := by
  unfold lenAt
  rcases h.cl with ⟨q1, q2⟩ | ⟨v, q1, q2⟩
  · split
    · rfl
    · exact q2.symm
  · rw [if_pos]
    cases hn : fs.any isCL with
    | true => rfl
    | false =>
      rw [List.any_eq_false] at hn
      have : pick (pairsOf fs) baCL = none := pick_pairs_none.2 fun g hg => fun e => hn g hg (beq_iff_eq.2 e)
      rw [this] at q1; cases q1

theorem len_cl {st : PSt} {fs : List Fl} {k : Nat} (hk : k < fs.length) (h : Inv st fs) (hc : isCL (fs[k]'hk) = true) : lenI (fs[k]'hk).v = lenAt (fs.take (k + 1)) st.len := by
  unfold lenAt lenI
  rw [h.all _ (List.getElem_mem hk) hc, List.take_succ_eq_append_getElem hk, List.any_append, if_pos]
  simp [hc]

theorem len_no {fs : List Fl} {k : Nat} {n : Int} (hk : k < fs.length) (hc : isCL (fs[k]'hk) = false) : lenAt (fs.take (k + 1)) n = lenAt (fs.take k) n := by
  unfold lenAt
  rw [List.take_succ_eq_append_getElem hk, List.any_append]
  simp [hc]

theorem keep_yes {fs : List Fl} {k : Nat} (hk : k < fs.length) (hc : keepB (fs[k]'hk) = true) : (fs.take (k + 1)).filter keepB = (fs.take k).filter keepB ++ [fs[k]'hk] := by
  rw [List.take_succ_eq_append_getElem hk, List.filter_append, List.filter_cons, if_pos hc]; rfl
theorem keep_no {fs : List Fl} {k : Nat} (hk : k < fs.length) (hc : keepB (fs[k]'hk) = false) : (fs.take (k + 1)).filter keepB = (fs.take k).filter keepB := by
  rw [List.take_succ_eq_append_getElem hk, List.filter_append, List.filter_cons, if_neg (by rw [hc]; decide)]; simp

def hostsOk (l : List Fl) (a : ByteArray) : Bool := l.all fun f => !isHost f || f.v.data.toList == a.data.toList

theorem hosts_all {st : PSt} {fs : List Fl} (h : Inv st fs) (a : ByteArray) : st.hosts.all (fun x => x.data.toList == a.data.toList) = hostsOk fs a := by
  rw [h.hosts, List.all_map, List.all_filter]
  unfold hostsOk
  rfl

theorem hosts_succ {fs : List Fl} {a : ByteArray} {k : Nat} (hk : k < fs.length) (h : hostsOk (fs.take k) a = true) (h1 : (!isHost (fs[k]'hk) || (fs[k]'hk).v.data.toList == a.data.toList) = true) : hostsOk (fs.take (k + 1)) a = true := by
  unfold hostsOk at h ⊢
  rw [List.take_succ_eq_append_getElem hk, List.all_append, h]
  simpa using h1

theorem hosts_bad {fs : List Fl} {a : ByteArray} {k : Nat} (hk : k < fs.length) (h1 : isHost (fs[k]'hk) = true) (h2 : ((fs[k]'hk).v.data.toList == a.data.toList) = false) : hostsOk fs a = false := by
  unfold hostsOk
  rw [List.all_eq_false]
  exact ⟨_, List.getElem_mem hk, by rw [h1, h2]; decide⟩

end Go.Proofs.YtohhdoibkopoiaaDoor.Msg
