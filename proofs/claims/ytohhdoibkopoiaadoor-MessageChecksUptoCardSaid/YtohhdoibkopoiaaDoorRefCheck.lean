/- The reference's Check, walked. -/
import Derived.Test.YtohhdoibkopoiaaDoorChecksMid
import Derived.Test.YtohhdoibkopoiaaDoorRefOne
import Derived.Test.YtohhdoibkopoiaaDoorLawSpoilt
set_option linter.unusedVariables false
set_option linter.unusedSimpArgs false
namespace Go.Proofs.YtohhdoibkopoiaaDoor.Msg
open Go.RowKit Go.Proofs.YtohhdoibkopoiaaDoor.Mp

/-- the six zero cells of the result, by name -/
theorem req_cells {w : World} {b : Nat} {t : TypeId} (h : w.heap[b]? = some (.cells reqZero t (0, 0))) :
    w.cell? ⟨b, 0, none⟩ = some (.string ⟨#[]⟩) ∧ w.cell? ⟨b, 1, none⟩ = some (.string ⟨#[]⟩) ∧ w.cell? ⟨b, 2, none⟩ = some (.string ⟨#[]⟩) ∧ w.cell? ⟨b, 3, none⟩ = some (.string ⟨#[]⟩) ∧ w.cell? ⟨b, 4, none⟩ = some (.slice none 0 0) ∧ w.cell? ⟨b, 5, none⟩ = some (.int .i64 0) ∧ (∀ i, w.frozen? ⟨b, i, none⟩ = false) := by
  refine ⟨?_, ?_, ?_, ?_, ?_, ?_, free_of_blk h⟩ <;> (rw [cell_of_blk h]; rfl)

theorem set6_cells {w : World} {b : Nat} {cs : Array Value} {t : TypeId} (h : w.heap[b]? = some (.cells cs t (0, 0))) (hs : cs.size = 6) (v0 v1 v2 v3 v4 v5 : Value) :
    (set6 w b v0 v1 v2 v3 v4 v5).cell? ⟨b, 0, none⟩ = some v0 ∧ (set6 w b v0 v1 v2 v3 v4 v5).cell? ⟨b, 1, none⟩ = some v1 ∧ (set6 w b v0 v1 v2 v3 v4 v5).cell? ⟨b, 2, none⟩ = some v2 ∧ (set6 w b v0 v1 v2 v3 v4 v5).cell? ⟨b, 3, none⟩ = some v3 ∧ (set6 w b v0 v1 v2 v3 v4 v5).cell? ⟨b, 4, none⟩ = some v4 ∧ (set6 w b v0 v1 v2 v3 v4 v5).cell? ⟨b, 5, none⟩ = some v5 := by
  have h1 := set6_at h hs v0 v1 v2 v3 v4 v5
  refine ⟨?_, ?_, ?_, ?_, ?_, ?_⟩ <;> (rw [cell_of_blk h1]; rfl)

theorem ck_error {w w' : World} {r : Except Int PSt} {e : Ending} {c : Int} (hr : r = .error c) (he : e = .returned (.tuple #[reqNil, .int .i64 c])) (hb : Below w.heap.size w w') : CkPost w r e w' := by
  rw [hr]; exact ⟨he, hb⟩

theorem ref_results {w1 : World} {b : Nat} {tmps : Array Value} {v0 v1 v2 v3 v4 v5 u : Value} (hb : w1.heap[b]? = some (.cells #[v0, v1, v2, v3, v4, v5] 31 (0, 0))) (h6 : tmps.getD 6 undef = .pointer (some ⟨b, 0, none⟩)) (h7 : tmps.getD 7 undef = u) :
    (results Tryd.f10 tmps).run Tryd.prog w1 = .ok (.tuple #[.agg #[v0, v1, v2, v3, v4, v5], u]) w1 := by
  have e0 : w1.cell? ⟨b, 0, none⟩ = some v0 := by rw [cell_of_blk hb]; rfl
  have e1 : w1.cell? ⟨b, 1, none⟩ = some v1 := by rw [cell_of_blk hb]; rfl
  have e2 : w1.cell? ⟨b, 2, none⟩ = some v2 := by rw [cell_of_blk hb]; rfl
  have e3 : w1.cell? ⟨b, 3, none⟩ = some v3 := by rw [cell_of_blk hb]; rfl
  have e4 : w1.cell? ⟨b, 4, none⟩ = some v4 := by rw [cell_of_blk hb]; rfl
  have e5 : w1.cell? ⟨b, 5, none⟩ = some v5 := by rw [cell_of_blk hb]; rfl
  have h6' : tmps[6]?.getD undef = .pointer (some ⟨b, 0, none⟩) := by simpa using h6
  have h7' : tmps[7]?.getD undef = u := by simpa using h7
  simp [results, Tryd.results10, h6', h7', go_sem, e0, e1, e2, e3, e4, e5]

theorem ref_no {w W : World} {tmps : Array Value} {r : Except Int PSt} {code : Int} (hr : r = .error code) (hX : W.heap[w.heap.size]? = some (.cells reqZero 31 (0, 0))) (hB : Below w.heap.size w W)
    (h6 : tmps.getD 6 undef = .pointer (some ⟨w.heap.size, 0, none⟩)) (h7 : tmps.getD 7 undef = .int .i64 code) :
    bodyPost Tryd.prog Tryd.f10 (fun e w' => CkPost w r e w') .ret ⟨tmps, []⟩ (set6 W w.heap.size (.string ⟨#[]⟩) (.string ⟨#[]⟩) (.string ⟨#[]⟩) (.string ⟨#[]⟩) (.slice none 0 0) (.int .i64 0)) :=
  bodyPost_ret (ref_results (set6_at hX rfl _ _ _ _ _ _) h6 h7) rfl (ck_error hr rfl (set6_below hB (Nat.le_refl _) _ _ _ _ _ _))

theorem ref_yes {w W : World} {tmps : Array Value} {r : Except Int PSt} {st : PSt} {fv : Value} (hr : r = .ok st) (hX : W.heap[w.heap.size]? = some (.cells reqZero 31 (0, 0))) (hB : Below w.heap.size w W)
    (hrow : W.ownsRow (w.heap.size + 1) 37 2 fv st.fields.length (flCells st.fields))
    (h6 : tmps.getD 6 undef = .pointer (some ⟨w.heap.size, 0, none⟩)) (h7 : tmps.getD 7 undef = .int .i64 0) :
    bodyPost Tryd.prog Tryd.f10 (fun e w' => CkPost w r e w') .ret ⟨tmps, []⟩ (set6 W w.heap.size (.string st.m) (.string st.s) (.string st.a) (.string st.p) fv (.int .i64 st.len)) := by
  refine bodyPost_ret (ref_results (set6_at hX rfl _ _ _ _ _ _) h6 h7) rfl ?_
  rw [hr]
  exact ⟨fv, rfl, row_weaken (row_set6 hrow (Nat.lt_succ_self _) _ _ _ _ _ _) (by omega), set6_below hB (Nat.le_refl _) _ _ _ _ _ _⟩

/-- the second loop, behind the fields l -/
structure Lp (W2 W : World) (b : Nat) (len : Int) (l : List Fl) (L : List Fl) (fv : Value) : Prop where
  blk : W.heap[b]? = some (.cells (reqCells ⟨#[]⟩ ⟨#[]⟩ ⟨#[]⟩ ⟨#[]⟩ fv (lenAt l len)) 31 (0, 0))
  row : W.ownsRow W2.heap.size 37 2 fv L.length (flCells L)
  below : Below b W2 W
  keep : L = l.filter keepB
  lt : b < W2.heap.size

theorem Lp.skip {W2 W : World} {b : Nat} {len : Int} {l l' L : List Fl} {fv : Value} (h : Lp W2 W b len l L fv) (h1 : lenAt l' len = lenAt l len) (h2 : l'.filter keepB = l.filter keepB) : Lp W2 W b len l' L fv :=
  ⟨by rw [h1]; exact h.blk, h.row, h.below, by rw [h2]; exact h.keep, h.lt⟩

theorem Lp.setLen {W2 W : World} {b : Nat} {len n : Int} {l l' L : List Fl} {fv : Value} (h : Lp W2 W b len l L fv) (h1 : n = lenAt l' len) : 
    (W.setCell ⟨b, 5, none⟩ (.int .i64 n)).heap[b]? = some (.cells (reqCells ⟨#[]⟩ ⟨#[]⟩ ⟨#[]⟩ ⟨#[]⟩ fv (lenAt l' len)) 31 (0, 0)) ∧ (W.setCell ⟨b, 5, none⟩ (.int .i64 n)).ownsRow W2.heap.size 37 2 fv L.length (flCells L) ∧ Below b W2 (W.setCell ⟨b, 5, none⟩ (.int .i64 n)) := by
  rw [h1]
  exact ⟨setCell_blk h.blk 5 _, ownsRow_setCell_below (a := ⟨b, 5, none⟩) h.row h.lt _, h.below.setCell (p := ⟨b, 5, none⟩) (Nat.le_refl _) _⟩

theorem Lp.cells {W2 W : World} {b : Nat} {len : Int} {l L : List Fl} {fv : Value} (h : Lp W2 W b len l L fv) :
    W.cell? ⟨b, 4, none⟩ = some fv ∧ W.cell? ⟨b, 5, none⟩ = some (.int .i64 (lenAt l len)) ∧ (∀ i, W.frozen? ⟨b, i, none⟩ = false) :=
  ⟨by rw [cell_of_blk h.blk]; rfl, by rw [cell_of_blk h.blk]; rfl, free_of_blk h.blk⟩

theorem lp_room {L l : List Fl} {n k : Nat} (h : L = (l.take k).filter keepB) (hk : k < l.length) (hl : (l.length + 1) * 32 ≤ n) : (L.length + 1) * 32 ≤ n := by
  have h1 : L.length ≤ k := by rw [h]; exact Nat.le_trans (List.length_filter_le ..) (by rw [List.length_take]; exact Nat.min_le_left ..)
  omega

theorem lp_keep {w w' : World} {base e size n : Nat} {v : Value} {xs : List Value} (h : w.ownsRow base e size v n xs) (hb : Below w.heap.size w w') : w'.ownsRow base e size v n xs := by
  obtain ⟨h0, ⟨rfl, h1⟩ | ⟨g, cap, cur, rfl, hg, hh, r⟩⟩ := h
  · exact ⟨h0, .inl ⟨rfl, h1⟩⟩
  · exact ⟨h0, .inr ⟨g, cap, cur, rfl, hg, (hb.block g (lt_of_heap hh)).trans hh, r⟩⟩

theorem lp_blk {w w' : World} {row : Option Nat} {b : Nat} {o : Obj} (hg : w.grownBy w' row) (hb : b < w.heap.size) (hr : row ≠ some b) (h : w.heap[b]? = some o) : w'.heap[b]? = some o :=
  (hg.block b hb (fun e => hr e.symm)).trans h

theorem lp_own {w : World} {base : Nat} {v : Value} {l : List Fl} {n m : ByteArray} (h : w.ownsRow base 37 2 v (l.length + 1) (flCells l ++ [.string n, .string m])) : w.ownsRow base 37 2 v (l ++ [(⟨n, m⟩ : Fl)]).length (flCells (l ++ [⟨n, m⟩])) := by
  rw [flCells_append, List.length_append]; exact h

def placeO (st : PSt) (o : Option ByteArray) : Except Int PSt :=
  match o with
  | none => .error 183
  | some a =>
    if everyB authR a = false then .error 182
    else if st.hosts.all (fun h => h.data.toList == a.data.toList) = true then .ok { st with a := a } else .error 182
theorem placeG_O (st : PSt) (pa ph : Option ByteArray) : placeG st pa ph = placeO st (pa.orElse fun _ => ph) := rfl

theorem oneVal_sym (o : Option ByteArray) : oneVal o = .tuple #[.string (o.getD ⟨#[]⟩), .bool o.isSome] := by cases o <;> rfl

theorem eg_no {st : PSt} {ps pp pa ph : Option ByteArray} : endG st none ps pp pa ph = .error 183 := rfl
theorem eg_tok {st : PSt} {m : ByteArray} {ps pp pa ph : Option ByteArray} (h : everyB tokR m = false) : endG st (some m) ps pp pa ph = .error 182 := by unfold endG; simp only []; rw [if_pos h]
theorem eg_con {st : PSt} {m : ByteArray} {ps pp pa ph : Option ByteArray} (h : everyB tokR m = true) (hc : (m.toList == [67, 79, 78, 78, 69, 67, 84]) = true) :
    endG st (some m) ps pp pa ph = if ps ≠ none ∨ pp ≠ none then .error 182 else if pa = none then .error 183 else placeG { st with m := m, s := baNil, p := baNil } pa ph := by
  unfold endG; simp only []; rw [if_neg (by rw [h]; decide), if_pos (by rw [← ByteArray.toList_eq]; exact beq_iff_eq.1 hc)]
theorem eg_usual {st : PSt} {m : ByteArray} {ps pp pa ph : Option ByteArray} (h : everyB tokR m = true) (hc : (m.toList == [67, 79, 78, 78, 69, 67, 84]) = false) :
    endG st (some m) ps pp pa ph = match ps, pp with
      | some s, some q => if (s.data.toList = bsHttp ∨ s.data.toList = bsHttps) ∧ pathB m q = true then placeG { st with m := m, s := s, p := q } pa ph else .error 182
      | _, _ => .error 183 := by
  unfold endG; simp only []; rw [if_neg (by rw [h]; decide), if_neg (by rw [← ByteArray.toList_eq]; exact beq_eq_false_iff_ne.1 hc)]
  rfl

theorem pick_size {fs : List Fl} (hsz : ∀ f ∈ fs, f.n.size ≤ 9223372036854775807 ∧ f.v.size ≤ 9223372036854775807) (nm : ByteArray) : ∀ v, pick (pairsOf fs) nm = some v → v.size ≤ 9223372036854775807 := by
  intro v h
  have := first_size hsz nm
  rw [h] at this
  exact this

theorem find_sym {w : World} {A : Option Addr} {fs : List Fl} {cp : Nat} (h : FsAt w A fs) (nm : ByteArray) :
    Calls Tryd.prog 32 #[.slice A fs.length cp, .string nm] w fun e w' => e = .returned (.tuple #[.string ((pick (pairsOf fs) nm).getD ⟨#[]⟩), .bool (pick (pairsOf fs) nm).isSome]) ∧ w = w' :=
  (find_any h nm).mono fun _ _ hh => ⟨by rw [← oneVal_sym]; exact hh.1, hh.2⟩

set_option maxHeartbeats 1000000 in
set_option maxRecDepth 100000 in
theorem Check_any {w : World} {A : Option Addr} {fs : List Fl} {cp : Nat} (h : FsAt w A fs) (hsz : ∀ f ∈ fs, f.n.size ≤ 9223372036854775807 ∧ f.v.size ≤ 9223372036854775807) (c s : Int) :
    Calls Tryd.prog 10 #[.slice A fs.length cp, .int .i64 c, .int .i64 s] w fun e w' => CkPost w (checkF fs c s) e w' := by
  have hlen : fs.length ≤ 9223372036854775807 := by have := h.len; omega
  have H := Kp.mk h
  have HZ := Kp.mk hsz
  have HB0 := Kp.mk ((Below.refl w.heap.size w).alloc (Nat.le_refl _) (.cells reqZero 31))
  have HX0 := Kp.mk (heap_alloc_new w (.cells reqZero 31))
  obtain ⟨r0, hr0⟩ : ∃ r, r = checkF fs c s := ⟨_, rfl⟩
  rw [← hr0]
  have HR := Kp.mk hr0
  clear h hsz hr0
  go_enter Tryd.func10, Tryd.ntmps10
  go_upto_region 1 with fail
  have hW : w.alloc (.cells #[.string ⟨#[]⟩, .string ⟨#[]⟩, .string ⟨#[]⟩, .string ⟨#[]⟩, .slice none 0 0, .int .i64 0] 31) = w.alloc (.cells reqZero 31) := rfl
  rw [hW]
  generalize w.alloc (.cells reqZero 31) = W at HB0 HX0 ⊢
  clear hW
  go_wp2_with fail
  refine (much_any (H.out.below HB0.out) c s).mono ?_
  rintro e w1 ⟨rfl, hb⟩
  have HB1 := Kp.mk (HB0.out.trans (hb.mono HB0.out.size))
  have HX1 := Kp.mk ((hb.block _ (lt_of_heap HX0.out)).trans HX0.out)
  clear hb
  cases hm : muchB fs c s with
  | true =>
    have HT := Kp.mk (HR.out.trans (check_185 hm))
    obtain ⟨y0, y1, y2, y3, y4, y5, hz⟩ := req_cells HX1.out
    clear hm
    go_wp2_with fail
    exact ref_no HT.out HX1.out HB1.out rfl rfl
  | false =>
    have HM := Kp.mk hm
    clear hm
    go_wp2_with fail
    go_loopw [8] (fun v wr => ∃ (k : Nat) (st : PSt), k ≤ fs.length ∧ v = .int .i64 k ∧ Kp (foldF st0 (fs.take k) = .ok st ∧ Inv st (fs.take k) ∧ Below w1.heap.size w1 wr)) (fun v _ => fs.length - (intOf v).toNat)
    case atStart => exact ⟨0, st0, Nat.zero_le _, rfl, ⟨rfl, inv_nil, Below.refl _ _⟩⟩
    case round =>
      obtain ⟨k, st, hk, rfl, HL⟩ := hrel
      by_cases hlt : k < fs.length
      · obtain ⟨x, hx⟩ : ∃ x, fs[k]? = some x := ⟨_, List.getElem?_eq_getElem hlt⟩
        have hcall := one_both (cp := cp) ((H.out.below HB1.out).below HL.out.2.2) HZ.out k x hx
        have hcase := one_take hx HL.out.2.1
        have hsucc := foldF_take_succ fs st0 st k hlt HL.out.1
        rw [show fs[k]'hlt = x from (List.getElem?_eq_some_iff.1 hx).2] at hsucc
        generalize oneF fs k x = e1 at hcall hcase
        clear hx
        have HC := Kp.mk hcase
        have HS := Kp.mk hsucc
        clear hcase hsucc
        go_wp2_with fail
        refine hcall.mono ?_
        rintro e w2 ⟨rfl, hb⟩
        have HB2 := Kp.mk (HL.out.2.2.trans (hb.mono HL.out.2.2.size))
        clear hcall hb
        rcases HC.out with ⟨rfl, st', ht, hinv⟩ | ⟨hne, ht⟩
        · have HF := Kp.mk (HS.out.trans ht)
          have HI := Kp.mk hinv
          clear ht hinv
          go_wp2_with fail
          go_roundw
          case rel => exact ⟨k + 1, st', by omega, by simp, ⟨HF.out, HI.out, HB2.out⟩⟩
          case measure => simp [intOf]; omega
        · have HT := Kp.mk (HR.out.trans (check_fold_err HM.out (HS.out.trans ht)))
          have HX2 := Kp.mk ((HB2.out.block _ (lt_of_heap HX1.out)).trans HX1.out)
          obtain ⟨y0, y1, y2, y3, y4, y5, hz⟩ := req_cells HX2.out
          clear ht
          go_wp2_with fail
          exact ref_no HT.out HX2.out (HB1.out.trans (HB2.out.mono HB1.out.size)) rfl rfl
      · have hke : k = fs.length := by omega
        subst hke
        rw [List.take_length] at HL
        obtain ⟨wa, hwa⟩ : ∃ x : World, x = wr := ⟨_, rfl⟩
        subst hwa
        have HT := Kp.mk (HR.out.trans (check_mid HM.out HL.out.1 HL.out.2.1))
        have HFW := Kp.mk ((H.out.below HB1.out).below HL.out.2.2)
        have HBr := Kp.mk (HB1.out.trans (HL.out.2.2.mono HB1.out.size))
        have HXr := Kp.mk ((HL.out.2.2.block _ (lt_of_heap HX1.out)).trans HX1.out)
        have HI := Kp.mk HL.out.2.1
        have HSm := Kp.mk (pick_size HZ.out baMethod)
        have HSs := Kp.mk (pick_size HZ.out baScheme)
        have HSp := Kp.mk (pick_size HZ.out baPath)
        have HSa := Kp.mk (pick_size HZ.out baAuth)
        have HSh := Kp.mk (pick_size HZ.out baHost)
        have hb10 := (Below.refl wa.heap.size wa).alloc (Nat.le_refl _) (.cells (reqCells ⟨#[]⟩ ⟨#[]⟩ ⟨#[]⟩ ⟨#[]⟩ (.slice none 0 0) (-1)) 31)
        have hx10 := heap_alloc_new wa (.cells (reqCells ⟨#[]⟩ ⟨#[]⟩ ⟨#[]⟩ ⟨#[]⟩ (.slice none 0 0) (-1)) 31)
        go_upto_region 10 with fail
        have hW : wa.alloc (.cells #[.string ⟨#[]⟩, .string ⟨#[]⟩, .string ⟨#[]⟩, .string ⟨#[]⟩, .slice none 0 0, .int .i64 (-1)] 31) = wa.alloc (.cells (reqCells ⟨#[]⟩ ⟨#[]⟩ ⟨#[]⟩ ⟨#[]⟩ (.slice none 0 0) (-1)) 31) := rfl
        rw [hW]
        generalize wa.alloc (.cells (reqCells ⟨#[]⟩ ⟨#[]⟩ ⟨#[]⟩ ⟨#[]⟩ (.slice none 0 0) (-1)) 31) = W2 at hb10 hx10 ⊢
        have HB10 := Kp.mk hb10
        have HX10 := Kp.mk hx10
        have HF2 := Kp.mk (HFW.out.below hb10)
        have HB2 := Kp.mk (HBr.out.trans (hb10.mono HBr.out.size))
        have HX2 := Kp.mk ((hb10.block _ (lt_of_heap HXr.out)).trans HXr.out)
        obtain ⟨y0, y1, y2, y3, y4, y5, hz⟩ := req_cells HX2.out
        clear hb10 hx10 hW HL
        have HCm : Kp (Calls Tryd.prog 32 #[.slice A fs.length cp, .string ⟨#[58, 109, 101, 116, 104, 111, 100]⟩] W2 _) := ⟨find_sym (cp := cp) HF2.out baMethod⟩
        have HCs : Kp (Calls Tryd.prog 32 #[.slice A fs.length cp, .string ⟨#[58, 115, 99, 104, 101, 109, 101]⟩] W2 _) := ⟨find_sym (cp := cp) HF2.out baScheme⟩
        have HCp : Kp (Calls Tryd.prog 32 #[.slice A fs.length cp, .string ⟨#[58, 112, 97, 116, 104]⟩] W2 _) := ⟨find_sym (cp := cp) HF2.out baPath⟩
        have HCa : Kp (Calls Tryd.prog 32 #[.slice A fs.length cp, .string ⟨#[58, 97, 117, 116, 104, 111, 114, 105, 116, 121]⟩] W2 _) := ⟨find_sym (cp := cp) HF2.out baAuth⟩
        have HCh : Kp (Calls Tryd.prog 32 #[.slice A fs.length cp, .string ⟨#[104, 111, 115, 116]⟩] W2 _) := ⟨find_sym (cp := cp) HF2.out baHost⟩
        generalize pick (pairsOf fs) baMethod = pm at HT HSm HCm
        generalize pick (pairsOf fs) baScheme = ps at HT HSs HCs
        generalize pick (pairsOf fs) baPath = pp at HT HSp HCp
        generalize pick (pairsOf fs) baAuth = pa at HT HSa HCa
        generalize pick (pairsOf fs) baHost = ph at HT HSh HCh
        cases pm with
        | none =>
          go_wp2_with fail
          (with_reducible refine HCm.out.mono ?_)
          rintro e w' ⟨rfl, rfl⟩
          simp only [Option.getD_none, Option.isSome_none]
          go_wp2_with fail
          exact ref_no (HT.out.trans eg_no) HX2.out HB2.out rfl rfl
        | some m =>
          have hms := HSm.out m rfl
          go_wp2_with fail
          (with_reducible refine HCm.out.mono ?_)
          rintro e w' ⟨rfl, rfl⟩
          simp only [Option.getD_some, Option.isSome_some]
          cases hk : everyB tokR m with
          | false =>
            have HK := Kp.mk hk
            clear hk
            go_wp2_with (first | (go_at_call 33; refine (token_any _ hms _).mono ?_; rintro e w' ⟨rfl, rfl⟩; rw [HK.out]))
            exact ref_no (HT.out.trans (eg_tok HK.out)) HX2.out HB2.out rfl rfl
          | true =>
            have HK := Kp.mk hk
            clear hk
            go_upto_region 15 with (first | (go_at_call 33; refine (token_any _ hms _).mono ?_; rintro e w' ⟨rfl, rfl⟩; rw [HK.out]))
            go_wp2_with fail
            (with_reducible refine HCs.out.mono ?_)
            rintro e w' ⟨rfl, rfl⟩
            go_wp2_with fail
            (with_reducible refine HCp.out.mono ?_)
            rintro e w' ⟨rfl, rfl⟩
            go_wp2_with fail
            (with_reducible refine HCa.out.mono ?_)
            rintro e w' ⟨rfl, rfl⟩
            go_upto_if 67 with fail
            go_cut [13, 14, 15, 16, 17, 18] from 66 to 95 (fun v13 v14 v15 v16 v17 v18 wc => wc = W2 ∧ v13 = .string (ps.getD ⟨#[]⟩) ∧ v14 = .bool ps.isSome ∧ v15 = .string (pp.getD ⟨#[]⟩) ∧ v16 = .bool pp.isSome ∧ v17 = .string (pa.getD ⟨#[]⟩) ∧ v18 = .bool pa.isSome ∧ Kp (r0 = placeG { st with m := m, s := ps.getD ⟨#[]⟩, p := pp.getD ⟨#[]⟩ } pa ph))
            case first =>
              cases hcc : (m.toList == [67, 79, 78, 78, 69, 67, 84]) with
              | true =>
                have HE := Kp.mk (HT.out.trans (eg_con HK.out hcc))
                cases ps with
                | some x =>
                  simp only [Option.getD_some, Option.isSome_some]
                  go_wp2_with fail
                  exact ref_no (HE.out.trans (if_pos (.inl (by simp)))) HX2.out HB2.out rfl rfl
                | none =>
                  cases pp with
                  | some x =>
                    simp only [Option.getD_some, Option.isSome_some, Option.getD_none, Option.isSome_none]
                    go_wp2_with fail
                    exact ref_no (HE.out.trans (if_pos (.inr (by simp)))) HX2.out HB2.out rfl rfl
                  | none =>
                    have HE2 := Kp.mk (HE.out.trans (if_neg (by simp)))
                    cases pa with
                    | none =>
                      have HE3 := Kp.mk (HE2.out.trans (if_pos rfl))
                      simp only [Option.getD_none, Option.isSome_none]
                      go_wp2_with fail
                      exact ref_no HE3.out HX2.out HB2.out rfl rfl
                    | some x =>
                      simp only [Option.getD_some, Option.isSome_some, Option.getD_none, Option.isSome_none]
                      go_wp2_with fail
                      go_meet
                      case rel => exact ⟨rfl, rfl, rfl, rfl, rfl, rfl, rfl, ⟨HE2.out.trans (if_neg (by simp))⟩⟩
              | false =>
                have HE := Kp.mk (HT.out.trans (eg_usual HK.out hcc))
                cases ps with
                | none =>
                  simp only [Option.getD_none, Option.isSome_none]
                  go_wp2_with fail
                  exact ref_no HE.out HX2.out HB2.out rfl rfl
                | some x =>
                  cases pp with
                  | none =>
                    simp only [Option.getD_some, Option.isSome_some, Option.getD_none, Option.isSome_none]
                    go_wp2_with fail
                    exact ref_no HE.out HX2.out HB2.out rfl rfl
                  | some q =>
                    have hqs := HSp.out q rfl
                    simp only [Option.getD_some, Option.isSome_some]
                    cases hs1 : (x.toList == [104, 116, 116, 112]) with
                    | true =>
                      cases hpb : pathB m q with
                      | false =>
                        have HPB := Kp.mk hpb
                        have HE2 := Kp.mk (HE.out.trans (if_neg (fun h => by rw [hpb] at h; exact absurd h.2 (by decide))))
                        clear hpb
                        go_wp2_with (first | (go_at_call 34; refine (path_any _ _ hqs _).mono ?_; rintro e w' ⟨rfl, rfl⟩; rw [HPB.out]))
                        exact ref_no HE2.out HX2.out HB2.out rfl rfl
                      | true =>
                        have HPB := Kp.mk hpb
                        have HE2 := Kp.mk (HE.out.trans (if_pos ⟨.inl (by rw [← ByteArray.toList_eq]; exact beq_iff_eq.1 hs1), hpb⟩))
                        clear hpb
                        go_wp2_with (first | (go_at_call 34; refine (path_any _ _ hqs _).mono ?_; rintro e w' ⟨rfl, rfl⟩; rw [HPB.out]))
                        go_meet
                        case rel => exact ⟨rfl, rfl, rfl, rfl, rfl, rfl, rfl, ⟨HE2.out⟩⟩
                    | false =>
                      cases hs2 : (x.toList == [104, 116, 116, 112, 115]) with
                      | true =>
                        cases hpb : pathB m q with
                        | false =>
                          have HPB := Kp.mk hpb
                          have HE2 := Kp.mk (HE.out.trans (if_neg (fun h => by rw [hpb] at h; exact absurd h.2 (by decide))))
                          clear hpb
                          go_wp2_with (first | (go_at_call 34; refine (path_any _ _ hqs _).mono ?_; rintro e w' ⟨rfl, rfl⟩; rw [HPB.out]))
                          exact ref_no HE2.out HX2.out HB2.out rfl rfl
                        | true =>
                          have HPB := Kp.mk hpb
                          have HE2 := Kp.mk (HE.out.trans (if_pos ⟨.inr (by rw [← ByteArray.toList_eq]; exact beq_iff_eq.1 hs2), hpb⟩))
                          clear hpb
                          go_wp2_with (first | (go_at_call 34; refine (path_any _ _ hqs _).mono ?_; rintro e w' ⟨rfl, rfl⟩; rw [HPB.out]))
                          go_meet
                          case rel => exact ⟨rfl, rfl, rfl, rfl, rfl, rfl, rfl, ⟨HE2.out⟩⟩
                      | false =>
                        have HE2 := Kp.mk (HE.out.trans (if_neg (fun h => by
                          rcases h.1 with h1 | h1
                          · rw [ByteArray.toList_eq, h1] at hs1; exact absurd hs1 (by decide)
                          · rw [ByteArray.toList_eq, h1] at hs2; exact absurd hs2 (by decide))))
                        go_wp2_with fail
                        exact ref_no HE2.out HX2.out HB2.out rfl rfl
            case rest =>
              obtain ⟨rfl, rfl, rfl, rfl, rfl, rfl, rfl, HG⟩ := hcut
              go_upto_if 97 with fail
              obtain ⟨o, ho⟩ : ∃ o, o = pa.orElse fun _ => ph := ⟨_, rfl⟩
              have HG2 : Kp (r0 = placeO { st with m := m, s := ps.getD ⟨#[]⟩, p := pp.getD ⟨#[]⟩ } o) := ⟨by rw [HG.out, placeG_O, ho]⟩
              have HSo : Kp (∀ v, o = some v → v.size ≤ 9223372036854775807) := ⟨fun v hv => by
                rw [ho] at hv
                cases pa with
                | none => exact HSh.out v hv
                | some x => exact HSa.out v hv⟩
              go_cut [17, 18] from 96 to 102 (fun v17 v18 wd => wd = wc ∧ v17 = .string (o.getD ⟨#[]⟩) ∧ v18 = .bool o.isSome)
              case first =>
                cases pa with
                | some x =>
                  obtain rfl : o = some x := ho
                  simp only [Option.getD_some, Option.isSome_some]
                  go_wp2_with fail
                  go_meet
                  case rel => exact ⟨rfl, rfl, rfl⟩
                | none =>
                  obtain rfl : o = ph := ho
                  simp only [Option.getD_none, Option.isSome_none]
                  go_wp2_with fail
                  (with_reducible refine HCh.out.mono ?_)
                  rintro e w' ⟨rfl, rfl⟩
                  go_wp2_with fail
                  go_meet
                  case rel => exact ⟨rfl, rfl, rfl⟩
              case rest =>
                obtain ⟨rfl, rfl, rfl⟩ := hcut
                clear ho HG HSh HCh HSa HCa
                cases o with
                | none =>
                  simp only [Option.getD_none, Option.isSome_none]
                  go_wp2_with fail
                  exact ref_no HG2.out HX2.out HB2.out rfl rfl
                | some a =>
                  have has := HSo.out a rfl
                  simp only [Option.getD_some, Option.isSome_some]
                  cases hau : everyB authR a with
                  | false =>
                    have HE2 := Kp.mk (HG2.out.trans (if_pos hau))
                    have HAU := Kp.mk hau
                    clear hau
                    go_wp2_with (first | (go_at_call 35; refine (authority_any _ has _).mono ?_; rintro e w' ⟨rfl, rfl⟩; rw [HAU.out]))
                    exact ref_no HE2.out HX2.out HB2.out rfl rfl
                  | true =>
                    have HE2 := Kp.mk (HG2.out.trans (if_neg (by rw [hau]; decide)))
                    have HAU := Kp.mk hau
                    clear hau
                    rw [hosts_all (a := a) (show Inv { st with m := m, s := ps.getD ⟨#[]⟩, p := pp.getD ⟨#[]⟩ } fs from ⟨HI.out.ps, HI.out.reg, HI.out.hosts, HI.out.flds, HI.out.cl, HI.out.all⟩)] at HE2
                    go_wp2_with (first | (go_at_call 35; refine (authority_any _ has _).mono ?_; rintro e w' ⟨rfl, rfl⟩; rw [HAU.out]))
                    have HLT := Kp.mk (lt_of_heap HX10.out)
                    have hroom := H.out.len
                    clear y0 y1 y2 y3 y4 y5 hz hlt hk HSm HSs HSp HCm HCs HCp HSo HG2
                    go_loopw [19] (fun v wr => ∃ (k : Nat) (L : List Fl) (fv : Value), k ≤ fs.length ∧ v = .int .i64 k ∧ Kp (Lp wc wr wa.heap.size st.len (fs.take k) L fv) ∧ Kp (hostsOk (fs.take k) a = true)) (fun v _ => fs.length - (intOf v).toNat)
                    case atStart => exact ⟨0, [], .slice none 0 0, Nat.zero_le _, rfl, ⟨⟨HX10.out, World.ownsRow_nil _ _ _ _, Below.refl _ _, rfl, HLT.out⟩⟩, ⟨rfl⟩⟩
                    case round =>
                      obtain ⟨k, L, fv, hk, rfl, HL, HH⟩ := hrel
                      have HXq := Kp.mk ((HL.out.below.block _ (lt_of_heap HXr.out)).trans HX2.out)
                      by_cases hlt : k < fs.length
                      · obtain ⟨ad, hA, c1, c2⟩ := (HFW.out.below (HB10.out.trans HL.out.below)).at_ k hlt
                        obtain ⟨hns, hvs⟩ := HZ.out _ (List.getElem_mem hlt)
                        have hs1 := hosts_succ hlt HH.out
                        have hs2 := hosts_bad (fs := fs) (a := a) hlt
                        have hc1 := len_cl hlt HI.out
                        have hc2 := len_no (n := st.len) hlt
                        have hk1 := keep_yes hlt
                        have hk2 := keep_no hlt
                        obtain ⟨x, hx⟩ : ∃ x, x = fs[k]'hlt := ⟨_, rfl⟩
                        rw [← hx] at c1 c2 hns hvs hs1 hs2 hc1 hc2 hk1 hk2
                        clear hx
                        obtain ⟨n, v⟩ := x
                        have HS1 := Kp.mk hs1
                        have HS2 := Kp.mk hs2
                        have HC1 := Kp.mk hc1
                        have HC2 := Kp.mk hc2
                        have HK1 := Kp.mk hk1
                        have HK2 := Kp.mk hk2
                        have hadl : (ad.add (k * 2)).block < wa.heap.size := by
                          obtain ⟨ad', hA', d1, _⟩ := HFW.out.at_ k hlt
                          rw [hA] at hA'
                          cases hA'
                          exact lt_of_cell d1
                        obtain rfl := hA
                        simp only [] at c1 c2 hns hvs
                        clear hs1 hs2 hc1 hc2 hk1 hk2
                        obtain ⟨z4, z5, hzf⟩ := HL.out.cells
                        have hp10 := lt_of_heap HL.out.blk
                        cases hho : isHost ⟨n, v⟩ with
                        | true =>
                          have hn1 : (n.toList == [104, 111, 115, 116]) = true := by rw [ByteArray.toList_eq]; exact hho
                          have hn2 : (n.toList == [99, 111, 110, 116, 101, 110, 116, 45, 108, 101, 110, 103, 116, 104]) = false := by rw [beq_iff_eq.1 hn1]; rfl
                          cases hva : (v.toList == a.toList) with
                          | false =>
                            have HE3 := Kp.mk (HE2.out.trans (if_neg (by rw [HS2.out hho (by rw [← ByteArray.toList_eq, ← ByteArray.toList_eq]; exact hva)]; decide)))
                            obtain ⟨y0, y1, y2, y3, y4, y5, hz⟩ := req_cells HXq.out
                            clear hho
                            go_wp2_with fail
                            exact ref_no HE3.out HXq.out (HB2.out.trans (HL.out.below.mono HBr.out.size)) rfl rfl
                          | true =>
                            have HS3 := Kp.mk (HS1.out (by rw [show ((⟨n, v⟩ : Fl).v.data.toList == a.data.toList) = true by rw [← ByteArray.toList_eq, ← ByteArray.toList_eq]; exact hva]; simp))
                            have HLn := Kp.mk (HL.out.skip (HC2.out (by unfold isCL; rw [← ByteArray.toList_eq]; exact hn2)) (HK2.out (by unfold keepB; rw [hho]; rfl)))
                            clear hho
                            go_wp2_with fail
                            go_roundw
                            case rel => exact ⟨k + 1, L, fv, by omega, by simp, HLn, HS3⟩
                            case measure => simp [intOf]; omega
                        | false =>
                          have hn1 : (n.toList == [104, 111, 115, 116]) = false := by rw [ByteArray.toList_eq]; exact hho
                          have HS3 := Kp.mk (HS1.out (by rw [hho]; rfl))
                          cases hcl : isCL ⟨n, v⟩ with
                          | true =>
                            have hn2 : (n.toList == [99, 111, 110, 116, 101, 110, 116, 45, 108, 101, 110, 103, 116, 104]) = true := by rw [ByteArray.toList_eq]; exact hcl
                            have hpp : pseudoB n = false := by
                              cases h : pseudoB n with
                              | false => rfl
                              | true => have := pseudo_notCL (f := ⟨n, v⟩) h; rw [this] at hcl; cases hcl
                            have HPP := Kp.mk hpp
                            have HHO := Kp.mk hho
                            obtain ⟨hblk, hrow, hbel⟩ := HL.out.setLen (HC1.out hcl)
                            simp only [] at hblk hrow hbel
                            have hbq := (Below.refl wa.heap.size wr).setCell (p := ⟨wa.heap.size, 5, none⟩) (Nat.le_refl _) (.int .i64 (lenI v))
                            have q1 := (hbq.cell (p := ad.add (k * 2)) hadl).trans c1
                            have q2 := (hbq.cell (p := ⟨(ad.add (k * 2)).block, (ad.add (k * 2)).off + 1, none⟩) hadl).trans c2
                            clear hho hcl hpp
                            go_upto_region 41 with (first | (go_at_call 36; refine (Length_any _ hvs _).mono ?_; rintro e w' ⟨rfl, rfl⟩) | (go_at_call 37; refine (pseudo_any _ hns _).mono ?_; rintro e w' ⟨rfl, rfl⟩; rw [HPP.out]))
                            generalize wr.setCell ⟨wa.heap.size, 5, none⟩ (.int .i64 (lenI v)) = WL at hblk hrow hbel hbq q1 q2 ⊢
                            clear hbq c1 c2 z4 z5 hzf hp10
                            have c1 := q1
                            have c2 := q2
                            clear q1 q2
                            have HBk := Kp.mk hblk
                            have HRw := Kp.mk hrow
                            have HBl := Kp.mk hbel
                            have HKn := Kp.mk (HK1.out (by unfold keepB; rw [HHO.out]; simp [HPP.out]))
                            have z4 : WL.cell? ⟨wa.heap.size, 4, none⟩ = some fv := by rw [cell_of_blk HBk.out]; rfl
                            have hzf : ∀ i, WL.frozen? ⟨wa.heap.size, i, none⟩ = false := free_of_blk HBk.out
                            have hp10 : wa.heap.size < WL.heap.size := lt_of_heap HBk.out
                            have hadL : (ad.add (k * 2)).block < WL.heap.size := lt_of_cell c1
                            have HLr := Kp.mk (lp_room HL.out.keep hlt hroom)
                            have HWs := Kp.mk HBl.out.size
                            have HLTk := Kp.mk HL.out.lt
                            have HKe := Kp.mk HL.out.keep
                            clear hblk hrow hbel
                            obtain ⟨i0, hi, hzz⟩ := Option.map_eq_some_iff.1 infoF
                            simp only [Prod.mk.injEq] at hzz
                            obtain ⟨hz0, hz1, hz2⟩ := hzz
                            have HIn := Kp.mk (And.intro hi (And.intro hz0 (And.intro hz1 hz2)))
                            clear hi hz0 hz1 hz2
                            refine Reg.region_held (fun W => W.cell? ⟨wa.heap.size, 4, none⟩ = some fv ∧ W.cell? (ad.add (k * 2)) = some (.string n) ∧ W.cell? ⟨(ad.add (k * 2)).block, (ad.add (k * 2)).off + 1, none⟩ = some (.string v)) [7, 8, 9]
                              [(0, .pointer (some ⟨wa.heap.size, 4, none⟩)), (1, fv), (2, .slice (some ad) fs.length cp), (3, .int .i64 k), (4, .pointer (some (ad.add (k * 2)))), (5, .agg #[.string n, .string v])] [6, 7, 8, 9] (by kernel_rfl) (by kernel_rfl) ⟨z4, c1, c2⟩ ?_
                            repeat (refine Reg.headS_cons rfl rfl (by kernel_rfl) (by simp only [Act.put, List.setIfInBounds_toArray, List.set_cons_zero, List.set_cons_succ]; rfl) (fun W hS D hD => ?_) ?_; (obtain ⟨s0, s1, s2⟩ := hS; go_wp2; exact hD))
                            refine Reg.headS_nil ?_
                            refine Reg.tailS_cons rfl (fun K hK => ?_)
                            go_wp2
                            have hbn : Below WL.heap.size WL ((WL.alloc (.cells #[.string n, .string v] 37)).drew) := ((Below.refl _ _).alloc (Nat.le_refl _) _).drew
                            refine hK _ _ ⟨(hbn.cell (p := ⟨wa.heap.size, 4, none⟩) hp10).trans z4, (hbn.cell (p := ad.add (k * 2)) hadL).trans c1, (hbn.cell (p := ⟨(ad.add (k * 2)).block, (ad.add (k * 2)).off + 1, none⟩) hadL).trans c2⟩ ?_
                            clear hK K
                            have HBN := Kp.mk hbn
                            clear hbn
                            refine Reg.tailS_last rfl (by kernel_rfl) (fun K hK => ?_)
                            have HK' := Kp.mk hK
                            clear hK
                            obtain ⟨hi, hz0, hz1, hz2⟩ := HIn.out
                            have hBN : wc.heap.size ≤ ((WL.alloc (.cells #[.string n, .string v] 37)).drew).heap.size := Nat.le_trans HWs.out HBN.out.size
                            refine wpList_append_own_at _ rfl (.tmp 161) (.tmp 166) 22 rfl wc.heap.size 37 i0 (.agg #[.string ⟨#[]⟩, .string ⟨#[]⟩]) 2 32 Tryd.underlying22 hi hz0 hz1 hz2 rfl (by decide) fv L.length _ rfl (lp_keep HRw.out HBN.out)
                              ⟨WL.heap.size, 0, none⟩ 1 1 [.string n, .string v] rfl rfl (World.news_of_block (cs := #[.string n, .string v]) (t := 37) (fr := (0, 0)) (by show (WL.heap.push _)[WL.heap.size]? = _; simp)) (by intro u hu; simp at hu; rcases hu with rfl | rfl <;> rfl) (by have := HLr.out; unfold maxLen; omega) HLr.out hBN ?_
                            intro v1 w1 hown hg _ hat
                            have hrp : fv.ownBlock ≠ some wa.heap.size := fun e => Nat.lt_irrefl _ (Nat.lt_of_lt_of_le HLTk.out (own_ge HRw.out e))
                            have hlb : wa.heap.size < ((WL.alloc (.cells #[.string n, .string v] 37)).drew).heap.size := Nat.lt_of_lt_of_le hp10 HBN.out.size
                            have hgb := lp_blk hg hlb hrp ((HBN.out.block _ hp10).trans HBk.out)
                            have HGB := Kp.mk hgb
                            obtain ⟨A1, k1, rfl⟩ := row_slice hown
                            have HOW := Kp.mk (lp_own (l := L) hown)
                            have HBw := Kp.mk (HBl.out.trans ((HBN.out.mono (Nat.le_of_lt hp10)).grown hg (Nat.le_of_lt hlb) (fun j hj => Nat.le_of_lt (Nat.lt_of_lt_of_le HLTk.out (own_ge HRw.out hj)))))
                            have e1 : w1.cell? ⟨wa.heap.size, 4, none⟩ = some fv := by rw [cell_of_blk HGB.out]; rfl
                            have e3 : ∀ i, w1.frozen? ⟨wa.heap.size, i, none⟩ = false := free_of_blk HGB.out
                            refine ⟨rfl, HK'.out _ _ ?_⟩
                            clear HK' K hg hown hat hgb z4 hzf c1 c2
                            simp only [Act.put, List.setIfInBounds_toArray, List.set_cons_zero, List.set_cons_succ]
                            refine Reg.tailS_last rfl (by kernel_rfl) (fun K hK => ?_)
                            go_wp2
                            refine Reg.tailS_last rfl (by kernel_rfl) (fun K hK => ?_)
                            go_wp2
                            refine Reg.tailS_nil ?_
                            go_wp2
                            go_roundw
                            case rel => exact ⟨k + 1, L ++ [⟨n, v⟩], .slice A1 (L.length + 1) k1, by omega, by simp, ⟨⟨setCell_blk HGB.out 4 _, ownsRow_setCell_below (a := ⟨wa.heap.size, 4, none⟩) HOW.out HLTk.out _, HBw.out.setCell (p := ⟨wa.heap.size, 4, none⟩) (Nat.le_refl _) _, by rw [HKn.out, HKe.out], HLTk.out⟩⟩, HS3⟩
                            case measure => simp [intOf]; omega
                          | false =>
                            have hn2 : (n.toList == [99, 111, 110, 116, 101, 110, 116, 45, 108, 101, 110, 103, 116, 104]) = false := by rw [ByteArray.toList_eq]; exact hcl
                            cases hpp : pseudoB n with
                            | true =>
                              have HPP := Kp.mk hpp
                              have HLn := Kp.mk (HL.out.skip (HC2.out hcl) (HK2.out (by unfold keepB; rw [hho]; simp [hpp])))
                              clear hho hcl hpp
                              go_wp2_with (first | (go_at_call 37; refine (pseudo_any _ hns _).mono ?_; rintro e w' ⟨rfl, rfl⟩; rw [HPP.out]))
                              go_roundw
                              case rel => exact ⟨k + 1, L, fv, by omega, by simp, HLn, HS3⟩
                              case measure => simp [intOf]; omega
                            | false =>
                              have HPP := Kp.mk hpp
                              have HHO := Kp.mk hho
                              have hblk := HL.out.blk
                              rw [← HC2.out hcl] at hblk
                              have hrow := HL.out.row
                              have hbel := HL.out.below
                              clear hho hcl hpp
                              go_upto_region 41 with (first | (go_at_call 37; refine (pseudo_any _ hns _).mono ?_; rintro e w' ⟨rfl, rfl⟩; rw [HPP.out]))
                              obtain ⟨WL, hWL⟩ : ∃ x : World, x = wr := ⟨_, rfl⟩
                              rw [← hWL] at hblk hrow hbel c1 c2 ⊢
                              clear hWL z4 z5 hzf hp10
                              have HBk := Kp.mk hblk
                              have HRw := Kp.mk hrow
                              have HBl := Kp.mk hbel
                              have HKn := Kp.mk (HK1.out (by unfold keepB; rw [HHO.out]; simp [HPP.out]))
                              have z4 : WL.cell? ⟨wa.heap.size, 4, none⟩ = some fv := by rw [cell_of_blk HBk.out]; rfl
                              have hzf : ∀ i, WL.frozen? ⟨wa.heap.size, i, none⟩ = false := free_of_blk HBk.out
                              have hp10 : wa.heap.size < WL.heap.size := lt_of_heap HBk.out
                              have hadL : (ad.add (k * 2)).block < WL.heap.size := lt_of_cell c1
                              have HLr := Kp.mk (lp_room HL.out.keep hlt hroom)
                              have HWs := Kp.mk HBl.out.size
                              have HLTk := Kp.mk HL.out.lt
                              have HKe := Kp.mk HL.out.keep
                              clear hblk hrow hbel
                              obtain ⟨i0, hi, hzz⟩ := Option.map_eq_some_iff.1 infoF
                              simp only [Prod.mk.injEq] at hzz
                              obtain ⟨hz0, hz1, hz2⟩ := hzz
                              have HIn := Kp.mk (And.intro hi (And.intro hz0 (And.intro hz1 hz2)))
                              clear hi hz0 hz1 hz2
                              refine Reg.region_held (fun W => W.cell? ⟨wa.heap.size, 4, none⟩ = some fv ∧ W.cell? (ad.add (k * 2)) = some (.string n) ∧ W.cell? ⟨(ad.add (k * 2)).block, (ad.add (k * 2)).off + 1, none⟩ = some (.string v)) [7, 8, 9]
                                [(0, .pointer (some ⟨wa.heap.size, 4, none⟩)), (1, fv), (2, .slice (some ad) fs.length cp), (3, .int .i64 k), (4, .pointer (some (ad.add (k * 2)))), (5, .agg #[.string n, .string v])] [6, 7, 8, 9] (by kernel_rfl) (by kernel_rfl) ⟨z4, c1, c2⟩ ?_
                              repeat (refine Reg.headS_cons rfl rfl (by kernel_rfl) (by simp only [Act.put, List.setIfInBounds_toArray, List.set_cons_zero, List.set_cons_succ]; rfl) (fun W hS D hD => ?_) ?_; (obtain ⟨s0, s1, s2⟩ := hS; go_wp2; exact hD))
                              refine Reg.headS_nil ?_
                              refine Reg.tailS_cons rfl (fun K hK => ?_)
                              go_wp2
                              have hbn : Below WL.heap.size WL ((WL.alloc (.cells #[.string n, .string v] 37)).drew) := ((Below.refl _ _).alloc (Nat.le_refl _) _).drew
                              refine hK _ _ ⟨(hbn.cell (p := ⟨wa.heap.size, 4, none⟩) hp10).trans z4, (hbn.cell (p := ad.add (k * 2)) hadL).trans c1, (hbn.cell (p := ⟨(ad.add (k * 2)).block, (ad.add (k * 2)).off + 1, none⟩) hadL).trans c2⟩ ?_
                              clear hK K
                              have HBN := Kp.mk hbn
                              clear hbn
                              refine Reg.tailS_last rfl (by kernel_rfl) (fun K hK => ?_)
                              have HK' := Kp.mk hK
                              clear hK
                              obtain ⟨hi, hz0, hz1, hz2⟩ := HIn.out
                              have hBN : wc.heap.size ≤ ((WL.alloc (.cells #[.string n, .string v] 37)).drew).heap.size := Nat.le_trans HWs.out HBN.out.size
                              refine wpList_append_own_at _ rfl (.tmp 161) (.tmp 166) 22 rfl wc.heap.size 37 i0 (.agg #[.string ⟨#[]⟩, .string ⟨#[]⟩]) 2 32 Tryd.underlying22 hi hz0 hz1 hz2 rfl (by decide) fv L.length _ rfl (lp_keep HRw.out HBN.out)
                                ⟨WL.heap.size, 0, none⟩ 1 1 [.string n, .string v] rfl rfl (World.news_of_block (cs := #[.string n, .string v]) (t := 37) (fr := (0, 0)) (by show (WL.heap.push _)[WL.heap.size]? = _; simp)) (by intro u hu; simp at hu; rcases hu with rfl | rfl <;> rfl) (by have := HLr.out; unfold maxLen; omega) HLr.out hBN ?_
                              intro v1 w1 hown hg _ hat
                              have hrp : fv.ownBlock ≠ some wa.heap.size := fun e => Nat.lt_irrefl _ (Nat.lt_of_lt_of_le HLTk.out (own_ge HRw.out e))
                              have hlb : wa.heap.size < ((WL.alloc (.cells #[.string n, .string v] 37)).drew).heap.size := Nat.lt_of_lt_of_le hp10 HBN.out.size
                              have hgb := lp_blk hg hlb hrp ((HBN.out.block _ hp10).trans HBk.out)
                              have HGB := Kp.mk hgb
                              obtain ⟨A1, k1, rfl⟩ := row_slice hown
                              have HOW := Kp.mk (lp_own (l := L) hown)
                              have HBw := Kp.mk (HBl.out.trans ((HBN.out.mono (Nat.le_of_lt hp10)).grown hg (Nat.le_of_lt hlb) (fun j hj => Nat.le_of_lt (Nat.lt_of_lt_of_le HLTk.out (own_ge HRw.out hj)))))
                              have e1 : w1.cell? ⟨wa.heap.size, 4, none⟩ = some fv := by rw [cell_of_blk HGB.out]; rfl
                              have e3 : ∀ i, w1.frozen? ⟨wa.heap.size, i, none⟩ = false := free_of_blk HGB.out
                              refine ⟨rfl, HK'.out _ _ ?_⟩
                              clear HK' K hg hown hat hgb z4 hzf c1 c2
                              simp only [Act.put, List.setIfInBounds_toArray, List.set_cons_zero, List.set_cons_succ]
                              refine Reg.tailS_last rfl (by kernel_rfl) (fun K hK => ?_)
                              go_wp2
                              refine Reg.tailS_last rfl (by kernel_rfl) (fun K hK => ?_)
                              go_wp2
                              refine Reg.tailS_nil ?_
                              go_wp2
                              go_roundw
                              case rel => exact ⟨k + 1, L ++ [⟨n, v⟩], .slice A1 (L.length + 1) k1, by omega, by simp, ⟨⟨setCell_blk HGB.out 4 _, ownsRow_setCell_below (a := ⟨wa.heap.size, 4, none⟩) HOW.out HLTk.out _, HBw.out.setCell (p := ⟨wa.heap.size, 4, none⟩) (Nat.le_refl _) _, by rw [HKn.out, HKe.out], HLTk.out⟩⟩, HS3⟩
                              case measure => simp [intOf]; omega
                      · have hke : k = fs.length := by omega
                        subst hke
                        rw [List.take_length] at HL HH
                        have HE3 := Kp.mk (HE2.out.trans (if_pos HH.out))
                        obtain ⟨Af, cf, rfl⟩ := row_slice HL.out.row
                        have hLl : L.length = st.fields.length := by rw [HL.out.keep, HI.out.flds]
                        have hblk := HL.out.blk
                        rw [len_end HI.out] at hblk
                        have x0 : wr.cell? ⟨wa.heap.size, 0, none⟩ = some (.string ⟨#[]⟩) := by rw [cell_of_blk hblk]; rfl
                        have x1 : wr.cell? ⟨wa.heap.size, 1, none⟩ = some (.string ⟨#[]⟩) := by rw [cell_of_blk hblk]; rfl
                        have x2 : wr.cell? ⟨wa.heap.size, 2, none⟩ = some (.string ⟨#[]⟩) := by rw [cell_of_blk hblk]; rfl
                        have x3 : wr.cell? ⟨wa.heap.size, 3, none⟩ = some (.string ⟨#[]⟩) := by rw [cell_of_blk hblk]; rfl
                        have hzf : ∀ i, wr.frozen? ⟨wa.heap.size, i, none⟩ = false := free_of_blk hblk
                        have hb4 : ((((wr.setCell ⟨wa.heap.size, 0, none⟩ (.string m)).setCell ⟨wa.heap.size, 1, none⟩ (.string (ps.getD ⟨#[]⟩))).setCell ⟨wa.heap.size, 2, none⟩ (.string a)).setCell ⟨wa.heap.size, 3, none⟩ (.string (pp.getD ⟨#[]⟩))).heap[wa.heap.size]? = some (.cells #[.string m, .string (ps.getD ⟨#[]⟩), .string a, .string (pp.getD ⟨#[]⟩), .slice Af L.length cf, .int .i64 st.len] 31 (0, 0)) :=
                          setCell_blk (setCell_blk (setCell_blk (setCell_blk hblk 0 (.string m)) 1 (.string (ps.getD ⟨#[]⟩))) 2 (.string a)) 3 (.string (pp.getD ⟨#[]⟩))
                        have hne : w.heap.size ≠ wa.heap.size := Nat.ne_of_lt (lt_of_heap HXr.out)
                        have hx4 : ((((wr.setCell ⟨wa.heap.size, 0, none⟩ (.string m)).setCell ⟨wa.heap.size, 1, none⟩ (.string (ps.getD ⟨#[]⟩))).setCell ⟨wa.heap.size, 2, none⟩ (.string a)).setCell ⟨wa.heap.size, 3, none⟩ (.string (pp.getD ⟨#[]⟩))).heap[w.heap.size]? = some (.cells reqZero 31 (0, 0)) := by
                          rw [Below.heap_setCell _ _ _ _ hne, Below.heap_setCell _ _ _ _ hne, Below.heap_setCell _ _ _ _ hne, Below.heap_setCell _ _ _ _ hne]; exact HXq.out
                        have hr4 : ((((wr.setCell ⟨wa.heap.size, 0, none⟩ (.string m)).setCell ⟨wa.heap.size, 1, none⟩ (.string (ps.getD ⟨#[]⟩))).setCell ⟨wa.heap.size, 2, none⟩ (.string a)).setCell ⟨wa.heap.size, 3, none⟩ (.string (pp.getD ⟨#[]⟩))).ownsRow (w.heap.size + 1) 37 2 (.slice Af L.length cf) st.fields.length (flCells st.fields) := by
                          have h1 := row_weaken (ownsRow_setCell_below (a := ⟨wa.heap.size, 3, none⟩) (ownsRow_setCell_below (a := ⟨wa.heap.size, 2, none⟩) (ownsRow_setCell_below (a := ⟨wa.heap.size, 1, none⟩) (ownsRow_setCell_below (a := ⟨wa.heap.size, 0, none⟩) HL.out.row HL.out.lt (.string m)) HL.out.lt (.string (ps.getD ⟨#[]⟩))) HL.out.lt (.string a)) HL.out.lt (.string (pp.getD ⟨#[]⟩))) (show w.heap.size + 1 ≤ wc.heap.size from Nat.succ_le_of_lt (Nat.lt_of_le_of_lt HBr.out.size HL.out.lt))
                          have h2 : L = st.fields := by rw [HL.out.keep, HI.out.flds]
                          rw [h2] at h1 ⊢
                          exact h1
                        have hbl : Below w.heap.size w ((((wr.setCell ⟨wa.heap.size, 0, none⟩ (.string m)).setCell ⟨wa.heap.size, 1, none⟩ (.string (ps.getD ⟨#[]⟩))).setCell ⟨wa.heap.size, 2, none⟩ (.string a)).setCell ⟨wa.heap.size, 3, none⟩ (.string (pp.getD ⟨#[]⟩))) :=
                          ((((HB2.out.trans (HL.out.below.mono HBr.out.size)).setCell (p := ⟨wa.heap.size, 0, none⟩) HBr.out.size _).setCell (p := ⟨wa.heap.size, 1, none⟩) HBr.out.size _).setCell (p := ⟨wa.heap.size, 2, none⟩) HBr.out.size _).setCell (p := ⟨wa.heap.size, 3, none⟩) HBr.out.size _
                        have HB4 := Kp.mk hb4
                        have HX4 := Kp.mk hx4
                        have HR4 := Kp.mk hr4
                        have HBL := Kp.mk hbl
                        clear hblk hb4 hx4 hr4 hbl hLl hne
                        go_upto_region 43 with fail
                        generalize (((wr.setCell ⟨wa.heap.size, 0, none⟩ (.string m)).setCell ⟨wa.heap.size, 1, none⟩ (.string (ps.getD ⟨#[]⟩))).setCell ⟨wa.heap.size, 2, none⟩ (.string a)).setCell ⟨wa.heap.size, 3, none⟩ (.string (pp.getD ⟨#[]⟩)) = W4 at HB4 HX4 HR4 HBL ⊢
                        clear x0 x1 x2 x3 hzf
                        obtain ⟨y0, y1, y2, y3, y4, y5, hz⟩ := req_cells HX4.out
                        have x0 : W4.cell? ⟨wa.heap.size, 0, none⟩ = some (.string m) := by rw [cell_of_blk HB4.out]; rfl
                        have x1 : W4.cell? ⟨wa.heap.size, 1, none⟩ = some (.string (ps.getD ⟨#[]⟩)) := by rw [cell_of_blk HB4.out]; rfl
                        have x2 : W4.cell? ⟨wa.heap.size, 2, none⟩ = some (.string a) := by rw [cell_of_blk HB4.out]; rfl
                        have x3 : W4.cell? ⟨wa.heap.size, 3, none⟩ = some (.string (pp.getD ⟨#[]⟩)) := by rw [cell_of_blk HB4.out]; rfl
                        have x4 : W4.cell? ⟨wa.heap.size, 4, none⟩ = some (.slice Af L.length cf) := by rw [cell_of_blk HB4.out]; rfl
                        have x5 : W4.cell? ⟨wa.heap.size, 5, none⟩ = some (.int .i64 st.len) := by rw [cell_of_blk HB4.out]; rfl
                        go_wp2_with fail
                        exact ref_yes (st := ⟨st.ps, st.hosts, st.reg, m, ps.getD ⟨#[]⟩, a, pp.getD ⟨#[]⟩, st.fields, st.len⟩) (fv := .slice Af L.length cf) HE3.out HX4.out HBL.out HR4.out rfl rfl

end Go.Proofs.YtohhdoibkopoiaaDoor.Msg
