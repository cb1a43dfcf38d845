/- The reference's one: what is wrong with a field. -/
import Derived.Test.YtohhdoibkopoiaaDoorRefChk
import Derived.BigQuiet
import Derived.Deep.QuietTactic
import Derived.Deep.CutRange
set_option linter.unusedVariables false
set_option linter.unusedSimpArgs false
namespace Go.Proofs.YtohhdoibkopoiaaDoor.Msg
open Go.RowKit Go.Proofs.YtohhdoibkopoiaaDoor.Mp

theorem below_drewN {B : Nat} {a w : World} (h : Below B a w) (n : Nat) : Below B a (w.drewN n) := by
  have hh : (w.drewN n).heap = w.heap := by simp [World.drewN]
  exact ⟨h.os, h.tape, h.output, by rw [hh]; exact h.size, fun i hi => by rw [hh]; exact h.block i hi⟩

theorem late_succ {l : List Fl} {f : Fl} {k : Nat} (hk : k < l.length) (h : lateB (l.take k) f = false) (h1 : pseudoB (l[k]'hk).n = true) (h2 : ((l[k]'hk).n.data.toList == f.n.data.toList) = false) : lateB (l.take (k + 1)) f = false := by
  unfold lateB at h ⊢
  rw [List.take_succ_eq_append_getElem hk, List.any_append, h]
  simp only [List.any_cons, List.any_nil, h1, h2]
  rfl

theorem late_at {l : List Fl} {f : Fl} {k i : Nat} (hk : k < l.length) (hki : k < i) (h : (!pseudoB (l[k]'hk).n || (l[k]'hk).n.data.toList == f.n.data.toList) = true) : lateB (l.take i) f = true := by
  unfold lateB
  rw [List.any_eq_true]
  refine ⟨l[k]'hk, ?_, h⟩
  rw [List.mem_take_iff_getElem]
  exact ⟨k, by omega, rfl⟩

theorem one_bad {fs : List Fl} {i : Nat} {f : Fl} (hp : pseudoB f.n = true) (h : isPs f.n.data.toList = false) : oneF fs i f = 182 := by
  unfold oneF; rw [if_pos hp, if_pos h]
theorem one_late {fs : List Fl} {i : Nat} {f : Fl} (hp : pseudoB f.n = true) (hq : isPs f.n.data.toList = true) (h : lateB (fs.take i) f = true) : oneF fs i f = 182 := by
  unfold oneF; rw [if_pos hp, if_neg (by rw [hq]; decide), if_pos h]
theorem one_ps {fs : List Fl} {i : Nat} {f : Fl} (hp : pseudoB f.n = true) (hq : isPs f.n.data.toList = true) (h : lateB (fs.take i) f = false) : oneF fs i f = if valueB f.v = true then 0 else 181 := by
  unfold oneF; rw [if_pos hp, if_neg (by rw [hq]; decide), if_neg (by rw [h]; decide)]
  unfold restF
  rw [pseudo_hop hp, pseudo_notCL hp]
  cases valueB f.v <;> rfl

theorem notCL_lit {f : Fl} (h : isCL f = false) : (f.n.toList == [99, 111, 110, 116, 101, 110, 116, 45, 108, 101, 110, 103, 116, 104]) = false := by rw [ByteArray.toList_eq]; exact h
theorem isCL_lit {f : Fl} (h : isCL f = true) : (f.n.toList == [99, 111, 110, 116, 101, 110, 116, 45, 108, 101, 110, 103, 116, 104]) = true := by rw [ByteArray.toList_eq]; exact h

set_option maxHeartbeats 1000000 in
set_option maxRecDepth 100000 in
theorem one_pseudo {w : World} {A : Option Addr} {fs : List Fl} {cp : Nat} (h : FsAt w A fs) (hsz : ∀ f ∈ fs, f.n.size ≤ 9223372036854775807 ∧ f.v.size ≤ 9223372036854775807) (i : Nat) (f : Fl) (hi : fs[i]? = some f) (hp : pseudoB f.n = true) :
    Calls Tryd.prog 31 #[.slice A fs.length cp, .int .i64 i] w fun e w' => e = .returned (.int .i64 (oneF fs i f)) ∧ Below w.heap.size w w' := by
  obtain ⟨hlt, hfi⟩ := List.getElem?_eq_some_iff.1 hi
  have hlen : fs.length ≤ 9223372036854775807 := by have := h.len; omega
  obtain ⟨ad, hA, c1, c2⟩ := h.at_ i hlt
  rw [hfi] at c1 c2
  obtain ⟨hns, hvs⟩ := hsz f (hfi ▸ List.getElem_mem hlt)
  have H := Kp.mk h
  have HZ := Kp.mk hsz
  have HB0 := Kp.mk ((Below.refl w.heap.size w).alloc (Nat.le_refl _) (.cells #[.string f.n, .string f.v] 37))
  have HX0 := Kp.mk (heap_alloc_new w (.cells #[.string f.n, .string f.v] 37))
  have HP := Kp.mk hp
  have hncl := notCL_lit (pseudo_notCL hp)
  have HHP := Kp.mk (pseudo_hop hp f.v.data.toList)
  subst hA
  clear h hsz hi hfi hp
  go_enter Tryd.func31, Tryd.ntmps31
  go_upto_region 2 with fail
  generalize hW : w.alloc (.cells #[.string f.n, .string f.v] 37) = W at HB0 HX0 ⊢
  have HWs : Kp (w.heap.size < W.heap.size) := ⟨lt_of_heap HX0.out⟩
  have x0 : W.cell? ⟨w.heap.size, 0, none⟩ = some (.string f.n) := by rw [cell_of_blk HX0.out]; rfl
  have x1 : W.cell? ⟨w.heap.size, 1, none⟩ = some (.string f.v) := by rw [cell_of_blk HX0.out]; rfl
  clear hW c1 c2
  go_upto_region 3 with (go_at_call 37; refine (pseudo_any _ hns _).mono ?_; rintro e w' ⟨rfl, rfl⟩; rw [HP.out])
  cases hps : isPs f.n.toList with
  | false =>
    have HT := Kp.mk (one_bad (fs := fs) (i := i) HP.out (by rw [← ByteArray.toList_eq]; exact hps))
    have e1 : (f.n.toList == [58, 109, 101, 116, 104, 111, 100]) = false ∧ (f.n.toList == [58, 115, 99, 104, 101, 109, 101]) = false ∧ (f.n.toList == [58, 97, 117, 116, 104, 111, 114, 105, 116, 121]) = false ∧ (f.n.toList == [58, 112, 97, 116, 104]) = false := by
      unfold isPs at hps
      simp only [Bool.or_eq_false_iff] at hps
      exact ⟨hps.1.1.1, hps.1.1.2, hps.1.2, hps.2⟩
    obtain ⟨q1, q2, q3, q4⟩ := e1
    clear hps
    go_wp2_with fail
    go_ret
    exact ⟨by rw [HT.out]; rfl, HB0.out⟩
  | true =>
    go_cut [34] from 17 to 34 (fun v34 wc => v34 = .bool false ∧ wc = W)
    case first =>
      rcases isPs_cases hps with e1 | ⟨e1, e2⟩ | ⟨e1, e2, e3⟩ | ⟨e1, e2, e3, e4⟩
      all_goals
        clear hps
        go_wp2_with fail
        go_meet
        case rel => exact ⟨rfl, rfl⟩
    case rest =>
      obtain ⟨rfl, rfl⟩ := hcut
      have HPS := Kp.mk (show isPs f.n.data.toList = true by rw [← ByteArray.toList_eq]; exact hps)
      clear hps
      go_wp2_with fail
      go_loopw [6] (fun v wr => ∃ k : Nat, k ≤ i ∧ v = .int .i64 k ∧ Kp (lateB (fs.take k) f = false ∧ Below wc.heap.size wc wr)) (fun v _ => i - (intOf v).toNat)
      case atStart => exact ⟨0, Nat.zero_le _, rfl, ⟨rfl, Below.refl _ _⟩⟩
      case round =>
        obtain ⟨k, hk, rfl, HL⟩ := hrel
        have y0 : wr.cell? ⟨w.heap.size, 0, none⟩ = some (.string f.n) := (HL.out.2.cell (p := ⟨w.heap.size, 0, none⟩) HWs.out).trans x0
        have y1 : wr.cell? ⟨w.heap.size, 1, none⟩ = some (.string f.v) := (HL.out.2.cell (p := ⟨w.heap.size, 1, none⟩) HWs.out).trans x1
        by_cases hki : k < i
        · have hkl : k < fs.length := by omega
          obtain ⟨ad2, hA2, c1, c2⟩ := ((H.out.below HB0.out).below HL.out.2).at_ k hkl
          have hxs := (HZ.out _ (List.getElem_mem hkl)).1
          have HY := Kp.mk (late_succ (f := f) hkl HL.out.1)
          have HN := Kp.mk (late_at (f := f) hkl hki)
          obtain ⟨x, hx⟩ : ∃ x, x = fs[k]'hkl := ⟨_, rfl⟩
          rw [← hx] at c1 c2 HY HN hxs
          obtain rfl := Option.some.inj hA2
          clear hx c2
          cases hpx : pseudoB x.n with
          | false =>
            have HT := Kp.mk (one_late HP.out HPS.out (HN.out (by rw [hpx]; rfl)))
            have HPX := Kp.mk hpx
            clear hpx
            go_wp2_with fail
            go_quiet (first | (go_at_call 37; refine Calls.quiet_of_same ((pseudo_any _ hxs _).mono (fun _ _ h => ⟨h.1.trans (by rw [HPX.out]), h.2.symm⟩))))
            go_wp2_with fail
            go_ret
            exact ⟨by rw [HT.out]; rfl, HB0.out.trans ((below_drewN HL.out.2 _).mono HB0.out.size)⟩
          | true =>
            have HPX := Kp.mk hpx
            clear hpx
            cases hq : (x.n.toList == f.n.toList) with
            | true =>
              have HT := Kp.mk (one_late HP.out HPS.out (HN.out (by rw [← ByteArray.toList_eq, ← ByteArray.toList_eq, hq]; simp)))
              go_wp2_with fail
              go_quiet (first | (go_at_call 37; refine Calls.quiet_of_same ((pseudo_any _ hxs _).mono (fun _ _ h => ⟨h.1.trans (by rw [HPX.out]), h.2.symm⟩))))
              go_wp2_with fail
              go_ret
              exact ⟨by rw [HT.out]; rfl, HB0.out.trans ((below_drewN HL.out.2 _).mono HB0.out.size)⟩
            | false =>
              have HT := Kp.mk (HY.out HPX.out (by rw [← ByteArray.toList_eq, ← ByteArray.toList_eq, hq]))
              go_wp2_with fail
              go_quiet (first | (go_at_call 37; refine Calls.quiet_of_same ((pseudo_any _ hxs _).mono (fun _ _ h => ⟨h.1.trans (by rw [HPX.out]), h.2.symm⟩))))
              go_wp2_with fail
              go_roundw
              case rel => exact ⟨k + 1, by omega, by simp, ⟨HT.out, below_drewN HL.out.2 _⟩⟩
              case measure => simp [intOf]; omega
        · have hke : k = i := by omega
          subst hke
          have HT := Kp.mk (one_ps HP.out HPS.out HL.out.1)
          cases hv : valueB f.v with
          | false =>
            have HV := Kp.mk hv
            clear hv
            go_wp2_with (go_at_call 20; refine (Value_any _ hvs _).mono ?_; rintro e w' ⟨rfl, rfl⟩; rw [HV.out])
            go_ret
            exact ⟨by rw [HT.out, HV.out]; rfl, HB0.out.trans (HL.out.2.mono HB0.out.size)⟩
          | true =>
            have HV := Kp.mk hv
            clear hv
            go_wp2_with (go_at_call 20; refine (Value_any _ hvs _).mono ?_; rintro e w' ⟨rfl, rfl⟩; rw [HV.out])
            refine (Hop_any _ _ _).mono ?_
            rintro e w2 ⟨rfl, hb⟩
            rw [HHP.out]
            have z0 : w2.cell? ⟨w.heap.size, 0, none⟩ = some (.string f.n) := (hb.cell (p := ⟨w.heap.size, 0, none⟩) (Nat.lt_of_lt_of_le HWs.out HL.out.2.size)).trans y0
            have HB2 := Kp.mk (HL.out.2.trans (hb.mono HL.out.2.size))
            clear hb
            go_wp2_with fail
            go_ret
            exact ⟨by rw [HT.out, HV.out]; rfl, HB0.out.trans (HB2.out.mono HB0.out.size)⟩


theorem rest_eq {fs : List Fl} {i : Nat} {f : Fl} (hp : pseudoB f.n = false) (hn : everyB nameR f.n = true) : oneF fs i f = restF fs f := by
  unfold oneF; rw [if_neg (by rw [hp]; decide), if_neg (by rw [hn]; decide)]
theorem one_name {fs : List Fl} {i : Nat} {f : Fl} (hp : pseudoB f.n = false) (hn : everyB nameR f.n = false) : oneF fs i f = 180 := by
  unfold oneF; rw [if_neg (by rw [hp]; decide), if_pos hn]
theorem rest_cl {fs : List Fl} {f : Fl} (hv : valueB f.v = true) (hh : hopB f.n.data.toList f.v.data.toList = false) (hc : isCL f = true) : restF fs f = if lenI f.v < 0 ∨ lenI f.v ≠ lenI ((pick (pairsOf fs) baCL).getD ⟨#[]⟩) then 186 else 0 := by
  unfold restF; rw [if_neg (by rw [hv]; decide), if_neg (by rw [hh]; decide), if_pos hc]
theorem rest_no {fs : List Fl} {f : Fl} (hv : valueB f.v = true) (hh : hopB f.n.data.toList f.v.data.toList = false) (hc : isCL f = false) : restF fs f = 0 := by
  unfold restF; rw [if_neg (by rw [hv]; decide), if_neg (by rw [hh]; decide), if_neg (by rw [hc]; decide)]
theorem first_size {fs : List Fl} (hsz : ∀ f ∈ fs, f.n.size ≤ 9223372036854775807 ∧ f.v.size ≤ 9223372036854775807) (nm : ByteArray) : ((pick (pairsOf fs) nm).getD ⟨#[]⟩).size ≤ 9223372036854775807 := by
  cases h : pick (pairsOf fs) nm with
  | none => decide
  | some v =>
    have hm := pick_some h
    unfold pairsOf at hm
    obtain ⟨f, hf, he⟩ := List.mem_map.1 hm
    cases he
    exact (hsz f hf).2
theorem oneVal_first (o : Option ByteArray) : ∃ b, oneVal o = .tuple #[.string (o.getD ⟨#[]⟩), .bool b] := by
  cases o with
  | none => exact ⟨false, rfl⟩
  | some v => exact ⟨true, rfl⟩

set_option maxHeartbeats 1000000 in
set_option maxRecDepth 100000 in
theorem one_regular {w : World} {A : Option Addr} {fs : List Fl} {cp : Nat} (h : FsAt w A fs) (hsz : ∀ f ∈ fs, f.n.size ≤ 9223372036854775807 ∧ f.v.size ≤ 9223372036854775807) (i : Nat) (f : Fl) (hi : fs[i]? = some f) (hp : pseudoB f.n = false) :
    Calls Tryd.prog 31 #[.slice A fs.length cp, .int .i64 i] w fun e w' => e = .returned (.int .i64 (oneF fs i f)) ∧ Below w.heap.size w w' := by
  obtain ⟨hlt, hfi⟩ := List.getElem?_eq_some_iff.1 hi
  have hlen : fs.length ≤ 9223372036854775807 := by have := h.len; omega
  obtain ⟨ad, hA, c1, c2⟩ := h.at_ i hlt
  rw [hfi] at c1 c2
  obtain ⟨hns, hvs⟩ := hsz f (hfi ▸ List.getElem_mem hlt)
  have H := Kp.mk h
  have HFS := Kp.mk (first_size hsz baCL)
  have HB0 := Kp.mk ((Below.refl w.heap.size w).alloc (Nat.le_refl _) (.cells #[.string f.n, .string f.v] 37))
  have HX0 := Kp.mk (heap_alloc_new w (.cells #[.string f.n, .string f.v] 37))
  have HP := Kp.mk hp
  subst hA
  clear h hsz hi hfi hp
  go_enter Tryd.func31, Tryd.ntmps31
  go_upto_region 2 with fail
  generalize hW : w.alloc (.cells #[.string f.n, .string f.v] 37) = W at HB0 HX0 ⊢
  have HWs : Kp (w.heap.size < W.heap.size) := ⟨lt_of_heap HX0.out⟩
  have x0 : W.cell? ⟨w.heap.size, 0, none⟩ = some (.string f.n) := by rw [cell_of_blk HX0.out]; rfl
  have x1 : W.cell? ⟨w.heap.size, 1, none⟩ = some (.string f.v) := by rw [cell_of_blk HX0.out]; rfl
  clear hW c1 c2
  cases hn : everyB nameR f.n with
  | false =>
    have HT := Kp.mk (one_name (fs := fs) (i := i) HP.out hn)
    have HN := Kp.mk hn
    clear hn
    go_wp2_with (first | (go_at_call 37; refine (pseudo_any _ hns _).mono ?_; rintro e w' ⟨rfl, rfl⟩; rw [HP.out]) | (go_at_call 19; refine (name_any _ hns _).mono ?_; rintro e w' ⟨rfl, rfl⟩; rw [HN.out]))
    go_ret
    exact ⟨by rw [HT.out]; rfl, HB0.out⟩
  | true =>
    have HR := Kp.mk (rest_eq (fs := fs) (i := i) HP.out hn)
    have HN := Kp.mk hn
    clear hn
    cases hv : valueB f.v with
    | false =>
      have HT : Kp (restF fs f = 181) := ⟨by unfold restF; rw [if_pos hv]⟩
      have HV := Kp.mk hv
      clear hv
      go_wp2_with (first | (go_at_call 37; refine (pseudo_any _ hns _).mono ?_; rintro e w' ⟨rfl, rfl⟩; rw [HP.out]) | (go_at_call 19; refine (name_any _ hns _).mono ?_; rintro e w' ⟨rfl, rfl⟩; rw [HN.out]) | (go_at_call 20; refine (Value_any _ hvs _).mono ?_; rintro e w' ⟨rfl, rfl⟩; rw [HV.out]))
      go_ret
      exact ⟨by rw [HR.out, HT.out]; rfl, HB0.out⟩
    | true =>
      have HV := Kp.mk hv
      clear hv
      go_wp2_with (first | (go_at_call 37; refine (pseudo_any _ hns _).mono ?_; rintro e w' ⟨rfl, rfl⟩; rw [HP.out]) | (go_at_call 19; refine (name_any _ hns _).mono ?_; rintro e w' ⟨rfl, rfl⟩; rw [HN.out]) | (go_at_call 20; refine (Value_any _ hvs _).mono ?_; rintro e w' ⟨rfl, rfl⟩; rw [HV.out]))
      refine (Hop_any _ _ _).mono ?_
      rintro e w2 ⟨rfl, hb⟩
      have z0 : w2.cell? ⟨w.heap.size, 0, none⟩ = some (.string f.n) := (hb.cell (p := ⟨w.heap.size, 0, none⟩) HWs.out).trans x0
      have z1 : w2.cell? ⟨w.heap.size, 1, none⟩ = some (.string f.v) := (hb.cell (p := ⟨w.heap.size, 1, none⟩) HWs.out).trans x1
      have HB2 := Kp.mk (HB0.out.trans (hb.mono HB0.out.size))
      have HF2 := Kp.mk ((H.out.below HB0.out).below hb)
      clear hb
      cases hh : hopB f.n.data.toList f.v.data.toList with
      | true =>
        have HT : Kp (restF fs f = 184) := ⟨by unfold restF; rw [if_neg (by rw [HV.out]; decide), if_pos hh]⟩
        clear hh
        go_wp2_with fail
        go_ret
        exact ⟨by rw [HR.out, HT.out]; rfl, HB2.out⟩
      | false =>
        cases hc : isCL f with
        | false =>
          have HT := Kp.mk (rest_no (fs := fs) HV.out hh hc)
          have hcl := notCL_lit hc
          clear hh hc
          go_wp2_with fail
          go_ret
          exact ⟨by rw [HR.out, HT.out]; rfl, HB2.out⟩
        | true =>
          have HT := Kp.mk (rest_cl (fs := fs) HV.out hh hc)
          have hcl := isCL_lit hc
          clear hh hc
          have HFI : Kp (∀ W cp', FsAt W (some ad) fs → Calls Tryd.prog 32 #[.slice (some ad) fs.length cp', .string ⟨#[99, 111, 110, 116, 101, 110, 116, 45, 108, 101, 110, 103, 116, 104]⟩] W fun e w' => (∃ b, e = .returned (.tuple #[.string ((pick (pairsOf fs) baCL).getD ⟨#[]⟩), .bool b])) ∧ W = w') := ⟨fun W cp' hW => (find_any (cp := cp') hW baCL).mono (fun e w' hh => by
            obtain ⟨b, hb⟩ := oneVal_first (pick (pairsOf fs) baCL)
            exact ⟨⟨b, by rw [hh.1, hb]⟩, hh.2⟩)⟩
          have hfs := HFS.out
          generalize (pick (pairsOf fs) baCL).getD ⟨#[]⟩ = g at HT HFI hfs
          go_wp2_with (first | (go_at_call 36; refine (Length_any _ hvs _).mono ?_; rintro e w' ⟨rfl, rfl⟩))
          (with_reducible refine (HFI.out _ _ HF2.out).mono ?_)
          rintro e w' ⟨⟨b, rfl⟩, rfl⟩
          generalize lenI f.v = n at HT ⊢
          by_cases n0 : n < 0
          · have HE := Kp.mk (HT.out.trans (if_pos (.inl n0)))
            go_wp2_with fail
            go_ret
            exact ⟨by rw [HR.out, HE.out]; rfl, HB2.out⟩
          · by_cases n1 : n = lenI g
            · have HE := Kp.mk (HT.out.trans (if_neg (fun e => e.elim (fun e => n0 e) (fun e => e n1))))
              go_wp2_with (first | (go_at_call 36; refine (Length_any _ hfs _).mono ?_; rintro e w' ⟨rfl, rfl⟩))
              go_ret
              exact ⟨by rw [HR.out, HE.out]; rfl, HB2.out⟩
            · have HE := Kp.mk (HT.out.trans (if_pos (.inr n1)))
              have hne : (n != lenI g) = true := by simpa using n1
              go_wp2_with (first | (go_at_call 36; refine (Length_any _ hfs _).mono ?_; rintro e w' ⟨rfl, rfl⟩))
              go_ret
              exact ⟨by rw [HR.out, HE.out]; rfl, HB2.out⟩

theorem one_both {w : World} {A : Option Addr} {fs : List Fl} {cp : Nat} (h : FsAt w A fs) (hsz : ∀ f ∈ fs, f.n.size ≤ 9223372036854775807 ∧ f.v.size ≤ 9223372036854775807) (i : Nat) (f : Fl) (hi : fs[i]? = some f) :
    Calls Tryd.prog 31 #[.slice A fs.length cp, .int .i64 i] w fun e w' => e = .returned (.int .i64 (oneF fs i f)) ∧ Below w.heap.size w w' := by
  cases hp : pseudoB f.n with
  | true => exact one_pseudo h hsz i f hi hp
  | false => exact one_regular h hsz i f hi hp

end Go.Proofs.YtohhdoibkopoiaaDoor.Msg
