/- The law MessageOrder, walked. -/
import Derived.Test.YtohhdoibkopoiaaDoorLawSpoilt
import Derived.Test.YtohhdoibkopoiaaDoorOrderPlain
import Derived.Test.YtohhdoibkopoiaaDoorRegH2
set_option linter.unusedVariables false
set_option linter.unusedSimpArgs false
namespace Go.Proofs.YtohhdoibkopoiaaDoor.Msg
open Go.RowKit Go.Proofs.YtohhdoibkopoiaaDoor.Mp

/-- the elements of a []int -/
structure IsAt (w : World) (A : Option Addr) (ks : List Int) : Prop where
  at_ : ∀ k (hk : k < ks.length), ∃ ad, A = some ad ∧ w.cell? (ad.add k) = some (.int .i64 (ks[k]'hk))
  len : ks.length ≤ 9223372036854775807

theorem IsAt.below {w w' : World} {A : Option Addr} {ks : List Int} (h : IsAt w A ks) (hb : Below w.heap.size w w') : IsAt w' A ks := by
  refine ⟨fun k hk => ?_, h.len⟩
  obtain ⟨ad, h1, h2⟩ := h.at_ k hk
  exact ⟨ad, h1, (hb.cell (lt_of_cell h2)).trans h2⟩

/-- the four pseudo fields in some order, in block B -/
structure LnAt (w : World) (B : Nat) (ls : List Fl) : Prop where
  blk : w.heap[B]? = some (.cells (flCells ls).toArray 37 (0, 0))
  four : ls.length = 4
  perm : ls.Perm lineFs

theorem LnAt.row {w : World} {B e : Nat} {ls : List Fl} (h : LnAt w B ls) (he : e ≤ B) : w.ownsRow e 37 2 (.slice (some ⟨B, 0, none⟩) 4 4) 4 (flCells ls) := by
  have hl := flCells_length ls
  rw [h.four] at hl
  exact ⟨hl, .inr ⟨_, _, _, rfl, he, h.blk, Nat.le_refl _, by decide, by simpa using hl, by show List.take (4 * 2) (flCells ls) = _; rw [← hl]; exact List.take_length⟩⟩

theorem cells4 {w : World} {B : Nat} {ls : List Fl} (hb : w.heap[B]? = some (.cells (flCells ls).toArray 37 (0, 0))) (h4 : ls.length = 4) (i : Nat) (hi : i < 4) :
    ∃ n v, ls[i]? = some ⟨n, v⟩ ∧ w.cell? ⟨B, i * 2, none⟩ = some (.string n) ∧ w.cell? ⟨B, i * 2 + 1, none⟩ = some (.string v) := by
  obtain ⟨a, b, c, d, rfl⟩ : ∃ a b c d, ls = [a, b, c, d] := by
    match ls, h4 with
    | [a, b, c, d], _ => exact ⟨a, b, c, d, rfl⟩
  match i, hi with
  | 0, _ => exact ⟨a.n, a.v, rfl, by rw [cell_of_blk hb]; rfl, by rw [cell_of_blk hb]; rfl⟩
  | 1, _ => exact ⟨b.n, b.v, rfl, by rw [cell_of_blk hb]; rfl, by rw [cell_of_blk hb]; rfl⟩
  | 2, _ => exact ⟨c.n, c.v, rfl, by rw [cell_of_blk hb]; rfl, by rw [cell_of_blk hb]; rfl⟩
  | 3, _ => exact ⟨d.n, d.v, rfl, by rw [cell_of_blk hb]; rfl, by rw [cell_of_blk hb]; rfl⟩

theorem LnAt.cells {w : World} {B : Nat} {ls : List Fl} (h : LnAt w B ls) (i : Nat) (hi : i < 4) :
    ∃ n v, ls[i]? = some ⟨n, v⟩ ∧ w.cell? ⟨B, i * 2, none⟩ = some (.string n) ∧ w.cell? ⟨B, i * 2 + 1, none⟩ = some (.string v) := cells4 h.blk h.four i hi

theorem LnAt.drew {w : World} {B : Nat} {ls : List Fl} (h : LnAt w B ls) : LnAt w.drew B ls := ⟨h.blk, h.four, h.perm⟩

theorem ln_app {w3 : World} {B : Nat} {v3 : Value} {ls fs : List Fl} (h4 : ls.length = 4) (h : w3.ownsRow B 37 2 v3 (4 + fs.length) (flCells ls ++ flCells fs)) : w3.ownsRow B 37 2 v3 (ls ++ fs).length (flCells (ls ++ fs)) := by
  have h2 : (ls ++ fs).length = 4 + fs.length := by rw [List.length_append, h4]
  rw [flCells_app, h2]; exact h

theorem ln_sizes {L ls fs : List Fl} (hL : L = ls ++ fs) (hp : ls.Perm lineFs) (hz : ∀ f ∈ fs, f.n.size ≤ 9223372036854775807 ∧ f.v.size ≤ 9223372036854775807) : ∀ f ∈ L, f.n.size ≤ 9223372036854775807 ∧ f.v.size ≤ 9223372036854775807 := by
  intro f hf
  rw [hL] at hf
  rcases List.mem_append.1 hf with hf | hf
  · have hall : ∀ f ∈ lineFs, f.n.size ≤ 9223372036854775807 ∧ f.v.size ≤ 9223372036854775807 := by decide
    exact hall f (hp.mem_iff.1 hf)
  · exact hz f hf

/-- one field stored -/
theorem set_field {w : World} {B : Nat} {ls : List Fl} {n v : ByteArray} (h4 : ls.length = 4) (h : w.heap[B]? = some (.cells (flCells ls).toArray 37 (0, 0))) (i : Nat) (hi : i < 4) :
    ((w.setCell ⟨B, i * 2, none⟩ (.string n)).setCell ⟨B, i * 2 + 1, none⟩ (.string v)).heap[B]? = some (.cells (flCells (ls.set i ⟨n, v⟩)).toArray 37 (0, 0)) := by
  rw [setCell_blk (setCell_blk h _ _) _ _]
  obtain ⟨a, b, c, d, rfl⟩ : ∃ a b c d, ls = [a, b, c, d] := by
    match ls, h4 with
    | [a, b, c, d], _ => exact ⟨a, b, c, d, rfl⟩
  match i, hi with
  | 0, _ => rfl
  | 1, _ => rfl
  | 2, _ => rfl
  | 3, _ => rfl

theorem swap_perm {ls : List Fl} {i k : Nat} {a b : Fl} (ha : ls[i]? = some a) (hb : ls[k]? = some b) : ((ls.set i b).set k a).Perm ls := by
  obtain ⟨hi, rfl⟩ := List.getElem?_eq_some_iff.1 ha
  obtain ⟨hk, rfl⟩ := List.getElem?_eq_some_iff.1 hb
  exact List.set_set_perm hi hk

theorem LnAt.swap {w : World} {B i k : Nat} {ls : List Fl} {na va nb vb : ByteArray} (h : LnAt w B ls) (hi : i < 4) (hk : k < 4) (ha : ls[i]? = some ⟨na, va⟩) (hb : ls[k]? = some ⟨nb, vb⟩) :
    LnAt ((((w.setCell ⟨B, i * 2, none⟩ (.string nb)).setCell ⟨B, i * 2 + 1, none⟩ (.string vb)).setCell ⟨B, k * 2, none⟩ (.string na)).setCell ⟨B, k * 2 + 1, none⟩ (.string va)) B ((ls.set i ⟨nb, vb⟩).set k ⟨na, va⟩) := by
  have h1 := set_field (n := nb) (v := vb) h.four h.blk i hi
  exact ⟨set_field (by rw [List.length_set]; exact h.four) h1 k hk, by rw [List.length_set, List.length_set]; exact h.four, (swap_perm ha hb).trans h.perm⟩

theorem tmod4 (j : Nat) : (j : Int).tmod 4 = ((j % 4 : Nat) : Int) := rfl

set_option maxRecDepth 100000 in
set_option maxHeartbeats 1000000 in
theorem MessageOrder_any {w : World} {A : Option Addr} {fs : List Fl} {cp : Nat} (h : FsAt w A fs) (hsz : ∀ f ∈ fs, f.n.size ≤ 9223372036854775807 ∧ f.v.size ≤ 9223372036854775807)
    {At : Option Addr} {ct : Nat} {ks : List Int} (hks : IsAt w At ks) (htot : total fs ≤ 1048576) (hfl : fs.length ≤ 1048576) :
    Calls Tryd.prog 6 #[.slice A fs.length cp, .slice At ks.length ct] w fun e w' => e = .returned (.bool true) ∧ Below w.heap.size w w' := by
  have hlenA := h.len
  have H := Kp.mk h
  have HK := Kp.mk hks
  have HZ := Kp.mk hsz
  have hkl := hks.len
  clear h hsz hks
  go_enter Tryd.func6, Tryd.ntmps6
  go_wp2_with fail
  refine (line_of _).mono ?_
  rintro e w1 ⟨rfl, hw1⟩
  have hln1 : LnAt w1 w.heap.size lineFs := by rw [hw1]; exact ⟨heap_alloc_new _ _, rfl, List.Perm.refl _⟩
  have hb1 := (Below.refl w.heap.size w).alloc (Nat.le_refl _) (.cells (flCells lineFs).toArray 37)
  rw [← hw1] at hb1
  have HB1 := Kp.mk hb1
  have HL1 := Kp.mk hln1
  clear hln1 hb1 hw1
  go_wp2_with fail
  go_loopw [15] (fun i wr => ∃ (j : Nat) (ls : List Fl), j ≤ ks.length ∧ i = .int .i64 j ∧ Kp (LnAt wr w.heap.size ls ∧ Below w.heap.size w wr)) (fun i _ => ks.length - (intOf i).toNat)
  case atStart => exact ⟨0, lineFs, Nat.zero_le _, rfl, ⟨HL1.out, HB1.out⟩⟩
  case round =>
    obtain ⟨j, ls, hj, rfl, HW⟩ := hrel
    by_cases hlt : j < ks.length
    · obtain ⟨ad, rfl, h1⟩ := (HK.out.below HW.out.2).at_ j hlt
      obtain ⟨x, hx⟩ : ∃ x, x = ks[j]'hlt := ⟨_, rfl⟩
      rw [← hx] at h1
      clear hx
      by_cases g1 : 0 ≤ x
      · by_cases g2 : x < 4
        · obtain ⟨kn, rfl⟩ : ∃ kn : Nat, x = (kn : Int) := ⟨x.toNat, by omega⟩
          have hkn : kn < 4 := by omega
          have hin : j % 4 < 4 := Nat.mod_lt _ (by decide)
          obtain ⟨nk, vk, hk0, hk1, hk2⟩ := HW.out.1.cells kn hkn
          obtain ⟨ni, vi, hi0, hi1, hi2⟩ := HW.out.1.cells (j % 4) hin
          have HS := Kp.mk (HW.out.1.swap hin hkn hi0 hk0)
          have HBn : Kp (∀ n1 v1 n2 v2, Below w.heap.size w ((((wr.setCell ⟨w.heap.size, j % 4 * 2, none⟩ n1).setCell ⟨w.heap.size, j % 4 * 2 + 1, none⟩ v1).setCell ⟨w.heap.size, kn * 2, none⟩ n2).setCell ⟨w.heap.size, kn * 2 + 1, none⟩ v2)) := ⟨fun n1 v1 n2 v2 =>
            ((((HW.out.2).setCell (p := ⟨w.heap.size, j % 4 * 2, none⟩) (Nat.le_refl _) _).setCell (p := ⟨w.heap.size, j % 4 * 2 + 1, none⟩) (Nat.le_refl _) _).setCell (p := ⟨w.heap.size, kn * 2, none⟩) (Nat.le_refl _) _).setCell (p := ⟨w.heap.size, kn * 2 + 1, none⟩) (Nat.le_refl _) _⟩
          go_wp2_with fail
          have hm4 := tmod4 j
          have e1 : ((j % 4 : Nat) : Int) < 4 := by omega
          have e0 : 0 ≤ ((j % 4 : Nat) : Int) := by omega
          refine Reg.region_held2 (fun W => W.cell? ⟨w.heap.size, kn * 2, none⟩ = some (.string nk) ∧ W.cell? ⟨w.heap.size, kn * 2 + 1, none⟩ = some (.string vk) ∧ W.cell? ⟨w.heap.size, j % 4 * 2, none⟩ = some (.string ni) ∧ W.cell? ⟨w.heap.size, j % 4 * 2 + 1, none⟩ = some (.string vi)) [15, 16, 17]
            [(3, .slice (some ⟨w.heap.size, 0, none⟩) 4 4), (4, .int .i64 kn)]
            [(0, .slice (some ⟨w.heap.size, 0, none⟩) 4 4), (1, .int .i64 j), (2, .int .i64 ((j % 4 : Nat) : Int)), (5, .slice (some ⟨w.heap.size, 0, none⟩) 4 4), (6, .int .i64 kn), (7, .pointer (some ⟨w.heap.size, kn * 2, none⟩)), (8, .agg #[.string nk, .string vk]), (9, .slice (some ⟨w.heap.size, 0, none⟩) 4 4), (10, .int .i64 j), (11, .int .i64 ((j % 4 : Nat) : Int)), (12, .pointer (some ⟨w.heap.size, j % 4 * 2, none⟩)), (13, .agg #[.string ni, .string vi]), (14, .pointer (some ⟨w.heap.size, j % 4 * 2, none⟩))]
            [15, 16, 17] (by kernel_rfl) (by kernel_rfl) ⟨hk1, hk2, hi1, hi2⟩ ?_
          repeat (refine Reg.headS_cons rfl rfl (by kernel_rfl) (by simp only [Act.put, List.setIfInBounds_toArray, List.set_cons_zero, List.set_cons_succ]; rfl) (fun W hS D hD => ?_) ?_; (go_wp2; exact hD))
          refine Reg.headS_nil ?_
          repeat (refine Reg.headS_cons rfl rfl (by kernel_rfl) (by simp only [Act.put, List.setIfInBounds_toArray, List.set_cons_zero, List.set_cons_succ]; rfl) (fun W hS D hD => ?_) ?_; (obtain ⟨s0, s1, s2, s3⟩ := hS; go_wp2; exact hD))
          have hz0 : ∀ i, wr.frozen? ⟨w.heap.size, i, none⟩ = false := free_of_blk HW.out.1.blk
          have hb3 := set_field (n := nk) (v := vk) HW.out.1.four HW.out.1.blk (j % 4) hin
          obtain ⟨n3, v3, _, hc1, hc2⟩ := cells4 hb3 (by rw [List.length_set]; exact HW.out.1.four) kn hkn
          refine Reg.tailS_last rfl (by kernel_rfl) (fun K hK => ?_)
          go_wp2_with fail
          have hz3 : ∀ i, ((wr.setCell ⟨w.heap.size, j % 4 * 2, none⟩ (.string nk)).setCell ⟨w.heap.size, j % 4 * 2 + 1, none⟩ (.string vk)).frozen? ⟨w.heap.size, i, none⟩ = false := free_of_blk hb3
          refine Reg.tailS_last rfl (by kernel_rfl) (fun K hK => ?_)
          go_wp2_with fail
          refine Reg.tailS_last rfl (by kernel_rfl) (fun K hK => ?_)
          go_wp2_with fail
          refine Reg.tailS_nil ?_
          go_wp2_with fail
          go_roundw
          case rel => exact ⟨j + 1, _, by omega, by simp, ⟨(HS.out).drew, (HBn.out _ _ _ _).drew⟩⟩
          case measure => simp [intOf]; omega
        · go_wp2_with fail
          go_roundw
          case rel => exact ⟨j + 1, ls, by omega, by simp, HW⟩
          case measure => simp [intOf]; omega
      · go_wp2_with fail
        go_roundw
        case rel => exact ⟨j + 1, ls, by omega, by simp, HW⟩
        case measure => simp [intOf]; omega
    · have hje : j = ks.length := by omega
      subst hje
      clear hlt hj
      go_wp2_with fail
      refine (copy_any (H.out.below HW.out.2)).mono ?_
      rintro e w2 ⟨rfl, hrow, hb2⟩
      have HB2 := Kp.mk (HW.out.2.trans (hb2.mono HW.out.2.size))
      have HC2 := Kp.mk (FsAt.of_row hrow hlenA)
      have HR2 := Kp.mk (row_keep (HW.out.1.row (Nat.le_refl _)) hb2)
      have HP := Kp.mk HW.out.1.perm
      have HF4 := Kp.mk HW.out.1.four
      clear hrow hb2 HW
      have hinfo : (Tryd.prog.info? 37).map (fun i => (i.zero, i.size, i.bytes)) = some (some (.agg #[.string ⟨#[]⟩, .string ⟨#[]⟩]), 2, 32) := by kernel_rfl
      obtain ⟨i0, hi, hz0, hz1, hz2⟩ := info_parts hinfo
      have hBs2 := HB2.out.size
      go_wp2_with (at_builtin; refine wpList_append_own_at _ rfl (.tmp 44) (.tmp 46) 22 rfl w.heap.size 37 i0 (.agg #[.string ⟨#[]⟩, .string ⟨#[]⟩]) 2 32 Tryd.underlying22 hi hz0 hz1 hz2 rfl (by decide) (.slice (some ⟨w.heap.size, 0, none⟩) 4 4) 4 (flCells ls) rfl HR2.out ⟨wr.heap.size, 0, none⟩ fs.length fs.length (flCells fs) rfl (flCells_length fs) HC2.out.cells (flCells_one fs) (by unfold maxLen; omega) (by omega) hBs2 ?_)
      intro v3 w3 hown hg _ hat3
      have hown' := ln_app HF4.out hown
      obtain ⟨Ai, ci, rfl⟩ := row_slice hown'
      have HI3 := Kp.mk hown'
      have HB3 := Kp.mk (HB2.out.grown (row := some w.heap.size) hg HB2.out.size (fun k hk => by cases hk; exact Nat.le_refl _))
      have HO := Kp.mk (order (c := 1048576) (s := 1073741824) HP.out htot)
      obtain ⟨L, hL⟩ : ∃ L, L = ls ++ fs := ⟨_, rfl⟩
      obtain ⟨L2, hL2⟩ : ∃ L2, L2 = lineFs ++ fs := ⟨_, rfl⟩
      have hLl : L.length = 4 + fs.length := by rw [hL, List.length_append, HF4.out]
      have hL2l : L2.length = 4 + fs.length := by rw [hL2, List.length_append]; rfl
      have hLlen : (L.length + 1) * 32 ≤ 140737488355328 := by omega
      have hL2len : (L2.length + 1) * 32 ≤ 140737488355328 := by omega
      rw [← hL] at HI3
      rw [← hL, ← hL2] at HO
      rw [← hL]
      have HL := Kp.mk hL
      have HL2 := Kp.mk hL2
      have HF3 := Kp.mk (FsAt.of_row HI3.out hLlen)
      have HLlen := Kp.mk hLlen
      have HL2len := Kp.mk hL2len
      have HLZ := Kp.mk (ln_sizes HL.out HP.out HZ.out)
      have HLZ2 := Kp.mk (ln_sizes HL2.out (List.Perm.refl _) HZ.out)
      clear hown hg hat3 hown' hL hL2 hLl hL2l hLlen hL2len HR2 HC2
      go_wp2_with fail
      (with_reducible refine (wide_any _).mono ?_)
      rintro e w4 ⟨rfl, hb⟩
      have HB4 := Kp.mk (HB3.out.trans (hb.mono HB3.out.size))
      have HF4' := Kp.mk (HF3.out.below hb)
      clear hb
      go_wp2_with fail
      have hck := check_any (w := w4) (cp := ci) (c := 1048576) (s := 1073741824) HF4'.out HLZ.out
      have HO' := HO.out
      clear HO
      generalize hr : checkF L 1048576 1073741824 = r at hck HO'
      have HRr := Kp.mk hr
      generalize hr2 : checkF L2 1048576 1073741824 = r2 at HO'
      have HRr2 := Kp.mk hr2
      have HO := Kp.mk HO'
      clear hr hr2 HO'
      refine hck.mono ?_
      intro e w5 hp
      have hb5 := ck_below hp
      have HB5 := Kp.mk (HB4.out.trans (hb5.mono HB4.out.size))
      clear hb5
      cases r with
      | error c1 =>
        cases r2 with
        | ok st2 => exact absurd HO.out (by simp [EqvR])
        | error c2 =>
          obtain rfl : c1 = c2 := HO.out
          obtain ⟨rfl, _⟩ := hp
          simp only [reqNil]
          have hnil : ∀ W : World, FsAt W none [] := fun W => ⟨fun k hk => absurd hk (by simp), by decide⟩
          have hb6 := (Below.refl w5.heap.size w5).alloc (Nat.le_refl _) (.cells #[.string ⟨#[]⟩, .string ⟨#[]⟩, .string ⟨#[]⟩, .string ⟨#[]⟩, .slice none 0 0, .int .i64 0] 27)
          have hx6 := heap_alloc_new w5 (.cells #[.string ⟨#[]⟩, .string ⟨#[]⟩, .string ⟨#[]⟩, .string ⟨#[]⟩, .slice none 0 0, .int .i64 0] 27)
          go_wp2_with fail
          generalize w5.alloc (.cells #[.string ⟨#[]⟩, .string ⟨#[]⟩, .string ⟨#[]⟩, .string ⟨#[]⟩, .slice none 0 0, .int .i64 0] 27) = w6 at hb6 hx6 ⊢
          have HB6 := Kp.mk (HB5.out.trans (hb6.mono HB5.out.size))
          have HX6 := Kp.mk hx6
          have hcc : (c1 == c1) = true := by simp
          clear hb6 hx6
          refine (line_of _).mono ?_
          rintro e w7 ⟨rfl, hw7⟩
          have hrow7 := line_row w6
          have hb7 := (Below.refl w6.heap.size w6).alloc (Nat.le_refl _) (.cells (flCells lineFs).toArray 37)
          rw [← hw7] at hrow7 hb7
          have HR7 := Kp.mk hrow7
          have HB7 := Kp.mk hb7
          clear hrow7 hb7 hw7
          go_wp2_with fail
          refine (copy_any ((H.out.below HB6.out).below HB7.out)).mono ?_
          rintro e w8 ⟨rfl, hrow, hb8⟩
          have HB8 := Kp.mk (HB7.out.trans (hb8.mono HB7.out.size))
          have HC8 := Kp.mk (FsAt.of_row hrow hlenA)
          have HR8 := Kp.mk (row_keep HR7.out hb8)
          clear hrow hb8
          have hBs8 := HB8.out.size
          go_wp2_with (at_builtin; refine wpList_append_own_at _ rfl (.tmp 53) (.tmp 55) 22 rfl w6.heap.size 37 i0 (.agg #[.string ⟨#[]⟩, .string ⟨#[]⟩]) 2 32 Tryd.underlying22 hi hz0 hz1 hz2 rfl (by decide) (.slice (some ⟨w6.heap.size, 0, none⟩) 4 4) 4 (flCells lineFs) rfl HR8.out ⟨w7.heap.size, 0, none⟩ fs.length fs.length (flCells fs) rfl (flCells_length fs) HC8.out.cells (flCells_one fs) (by unfold maxLen; omega) (by omega) hBs8 ?_)
          intro v9 w9 hown hg _ hat9
          have hown' := line_app hown
          obtain ⟨A9, c9, rfl⟩ := row_slice hown'
          have HB9 := Kp.mk (HB8.out.grown (row := some w6.heap.size) hg HB8.out.size (fun k hk => by cases hk; exact Nat.le_refl _))
          rw [← HL2.out] at hown'
          rw [← HL2.out]
          have HF9 := Kp.mk (FsAt.of_row hown' HL2len.out)
          clear hown hg hat9 hown'
          go_wp2_with fail
          (with_reducible refine (wide_any _).mono ?_)
          rintro e w10 ⟨rfl, hb⟩
          have HB10 := Kp.mk (HB9.out.trans (hb.mono HB9.out.size))
          have HF10 := Kp.mk (HF9.out.below hb)
          clear hb
          go_wp2_with fail
          have hck2 := check_any (w := w10) (cp := c9) (c := 1048576) (s := 1073741824) HF10.out HLZ2.out
          rw [HRr2.out] at hck2
          refine hck2.mono ?_
          intro e w11 hp2
          have HB11 := Kp.mk (HB10.out.trans ((ck_below hp2).mono HB10.out.size))
          obtain ⟨rfl, _⟩ := hp2
          simp only [reqNil]
          have hb12 := (Below.refl w11.heap.size w11).alloc (Nat.le_refl _) (.cells #[.string ⟨#[]⟩, .string ⟨#[]⟩, .string ⟨#[]⟩, .string ⟨#[]⟩, .slice none 0 0, .int .i64 0] 27)
          have hx12 := heap_alloc_new w11 (.cells #[.string ⟨#[]⟩, .string ⟨#[]⟩, .string ⟨#[]⟩, .string ⟨#[]⟩, .slice none 0 0, .int .i64 0] 27)
          go_upto_region 10 with fail
          generalize w11.alloc (.cells #[.string ⟨#[]⟩, .string ⟨#[]⟩, .string ⟨#[]⟩, .string ⟨#[]⟩, .slice none 0 0, .int .i64 0] 27) = w12 at hb12 hx12 ⊢
          have HB12 := Kp.mk (HB11.out.trans (hb12.mono HB11.out.size))
          have hlt6 : w5.heap.size < w6.heap.size := lt_of_heap HX6.out
          have hx6' := (HB12.out.block _ hlt6).trans HX6.out
          have y0 : w12.cell? ⟨w5.heap.size, 0, none⟩ = some (.string ⟨#[]⟩) := by rw [cell_of_blk hx6']; rfl
          have y1 : w12.cell? ⟨w5.heap.size, 1, none⟩ = some (.string ⟨#[]⟩) := by rw [cell_of_blk hx6']; rfl
          have y2 : w12.cell? ⟨w5.heap.size, 2, none⟩ = some (.string ⟨#[]⟩) := by rw [cell_of_blk hx6']; rfl
          have y3 : w12.cell? ⟨w5.heap.size, 3, none⟩ = some (.string ⟨#[]⟩) := by rw [cell_of_blk hx6']; rfl
          have y4 : w12.cell? ⟨w5.heap.size, 4, none⟩ = some (.slice none 0 0) := by rw [cell_of_blk hx6']; rfl
          have y5 : w12.cell? ⟨w5.heap.size, 5, none⟩ = some (.int .i64 0) := by rw [cell_of_blk hx6']; rfl
          have z0 : w12.cell? ⟨w11.heap.size, 0, none⟩ = some (.string ⟨#[]⟩) := by rw [cell_of_blk hx12]; rfl
          have z1 : w12.cell? ⟨w11.heap.size, 1, none⟩ = some (.string ⟨#[]⟩) := by rw [cell_of_blk hx12]; rfl
          have z2 : w12.cell? ⟨w11.heap.size, 2, none⟩ = some (.string ⟨#[]⟩) := by rw [cell_of_blk hx12]; rfl
          have z3 : w12.cell? ⟨w11.heap.size, 3, none⟩ = some (.string ⟨#[]⟩) := by rw [cell_of_blk hx12]; rfl
          have z4 : w12.cell? ⟨w11.heap.size, 4, none⟩ = some (.slice none 0 0) := by rw [cell_of_blk hx12]; rfl
          have z5 : w12.cell? ⟨w11.heap.size, 5, none⟩ = some (.int .i64 0) := by rw [cell_of_blk hx12]; rfl
          clear hb12 hx12 hx6' hck2 hck
          go_wp2_with fail
          refine (same_true (fs := []) (cp := 0) (cp' := 0) (hnil _) (hnil _) _ _ _ _ _).mono ?_
          rintro e w13 ⟨rfl, hb⟩
          have HB13 := Kp.mk (HB12.out.trans (hb.mono HB12.out.size))
          clear hb
          go_wp2_with fail
          refine (awake_any _).mono ?_
          rintro e w14 ⟨rfl, hb⟩
          have HB14 := Kp.mk (HB13.out.trans (hb.mono HB13.out.size))
          clear hb
          go_wp2_with fail
          go_ret
          exact ⟨rfl, HB6.out.trans (HB14.out.mono HB6.out.size)⟩
      | ok st1 =>
        cases r2 with
        | error c2 => exact absurd HO.out (by simp [EqvR])
        | ok st2 =>
          have HE : Kp (Eqv st1 st2) := ⟨HO.out⟩
          obtain ⟨fv, rfl, hrowf, _⟩ := hp
          obtain ⟨Af, cf, rfl⟩ := row_slice hrowf
          have HFf := Kp.mk (FsAt.of_row hrowf (by have := check_size HRr.out; have := HLlen.out; omega))
          clear hrowf
          simp only [reqVal]
          have hb6 := (Below.refl w5.heap.size w5).alloc (Nat.le_refl _) (.cells #[.string st1.m, .string st1.s, .string st1.a, .string st1.p, .slice Af st1.fields.length cf, .int .i64 st1.len] 27)
          have hx6 := heap_alloc_new w5 (.cells #[.string st1.m, .string st1.s, .string st1.a, .string st1.p, .slice Af st1.fields.length cf, .int .i64 st1.len] 27)
          go_wp2_with fail
          generalize w5.alloc (.cells #[.string st1.m, .string st1.s, .string st1.a, .string st1.p, .slice Af st1.fields.length cf, .int .i64 st1.len] 27) = w6 at hb6 hx6 ⊢
          have HB6 := Kp.mk (HB5.out.trans (hb6.mono HB5.out.size))
          have HX6 := Kp.mk hx6
          have HFf6 := Kp.mk (HFf.out.below hb6)
          clear hb6 hx6
          refine (line_of _).mono ?_
          rintro e w7 ⟨rfl, hw7⟩
          have hrow7 := line_row w6
          have hb7 := (Below.refl w6.heap.size w6).alloc (Nat.le_refl _) (.cells (flCells lineFs).toArray 37)
          rw [← hw7] at hrow7 hb7
          have HR7 := Kp.mk hrow7
          have HB7 := Kp.mk hb7
          clear hrow7 hb7 hw7
          go_wp2_with fail
          refine (copy_any ((H.out.below HB6.out).below HB7.out)).mono ?_
          rintro e w8 ⟨rfl, hrow, hb8⟩
          have HB8 := Kp.mk (HB7.out.trans (hb8.mono HB7.out.size))
          have HC8 := Kp.mk (FsAt.of_row hrow hlenA)
          have HR8 := Kp.mk (row_keep HR7.out hb8)
          clear hrow hb8
          have hBs8 := HB8.out.size
          go_wp2_with (at_builtin; refine wpList_append_own_at _ rfl (.tmp 53) (.tmp 55) 22 rfl w6.heap.size 37 i0 (.agg #[.string ⟨#[]⟩, .string ⟨#[]⟩]) 2 32 Tryd.underlying22 hi hz0 hz1 hz2 rfl (by decide) (.slice (some ⟨w6.heap.size, 0, none⟩) 4 4) 4 (flCells lineFs) rfl HR8.out ⟨w7.heap.size, 0, none⟩ fs.length fs.length (flCells fs) rfl (flCells_length fs) HC8.out.cells (flCells_one fs) (by unfold maxLen; omega) (by omega) hBs8 ?_)
          intro v9 w9 hown hg _ hat9
          have hown' := line_app hown
          obtain ⟨A9, c9, rfl⟩ := row_slice hown'
          have HB9 := Kp.mk (HB8.out.grown (row := some w6.heap.size) hg HB8.out.size (fun k hk => by cases hk; exact Nat.le_refl _))
          rw [← HL2.out] at hown'
          rw [← HL2.out]
          have HF9 := Kp.mk (FsAt.of_row hown' HL2len.out)
          clear hown hg hat9 hown'
          go_wp2_with fail
          (with_reducible refine (wide_any _).mono ?_)
          rintro e w10 ⟨rfl, hb⟩
          have HB10 := Kp.mk (HB9.out.trans (hb.mono HB9.out.size))
          have HF10 := Kp.mk (HF9.out.below hb)
          clear hb
          go_wp2_with fail
          have hck2 := check_any (w := w10) (cp := c9) (c := 1048576) (s := 1073741824) HF10.out HLZ2.out
          rw [HRr2.out] at hck2
          refine hck2.mono ?_
          intro e w11 hp2
          have HB11 := Kp.mk (HB10.out.trans ((ck_below hp2).mono HB10.out.size))
          obtain ⟨fv2, rfl, hrow2, _⟩ := hp2
          obtain ⟨Af2, cf2, rfl⟩ := row_slice hrow2
          have HFf2 := Kp.mk (FsAt.of_row hrow2 (by have := check_size HRr2.out; have := HL2len.out; omega))
          clear hrow2
          simp only [reqVal]
          rw [← HE.out.flds] at HFf2
          rw [← HE.out.m, ← HE.out.s, ← HE.out.a_, ← HE.out.p, ← HE.out.flds, ← HE.out.len]
          have hb12 := (Below.refl w11.heap.size w11).alloc (Nat.le_refl _) (.cells #[.string st1.m, .string st1.s, .string st1.a, .string st1.p, .slice Af2 st1.fields.length cf2, .int .i64 st1.len] 27)
          have hx12 := heap_alloc_new w11 (.cells #[.string st1.m, .string st1.s, .string st1.a, .string st1.p, .slice Af2 st1.fields.length cf2, .int .i64 st1.len] 27)
          go_upto_region 10 with fail
          generalize w11.alloc (.cells #[.string st1.m, .string st1.s, .string st1.a, .string st1.p, .slice Af2 st1.fields.length cf2, .int .i64 st1.len] 27) = w12 at hb12 hx12 ⊢
          have HB12 := Kp.mk (HB11.out.trans (hb12.mono HB11.out.size))
          have hlt6 : w5.heap.size < w6.heap.size := lt_of_heap HX6.out
          have hx6' := (HB12.out.block _ hlt6).trans HX6.out
          have y0 : w12.cell? ⟨w5.heap.size, 0, none⟩ = some (.string st1.m) := by rw [cell_of_blk hx6']; rfl
          have y1 : w12.cell? ⟨w5.heap.size, 1, none⟩ = some (.string st1.s) := by rw [cell_of_blk hx6']; rfl
          have y2 : w12.cell? ⟨w5.heap.size, 2, none⟩ = some (.string st1.a) := by rw [cell_of_blk hx6']; rfl
          have y3 : w12.cell? ⟨w5.heap.size, 3, none⟩ = some (.string st1.p) := by rw [cell_of_blk hx6']; rfl
          have y4 : w12.cell? ⟨w5.heap.size, 4, none⟩ = some (.slice Af st1.fields.length cf) := by rw [cell_of_blk hx6']; rfl
          have y5 : w12.cell? ⟨w5.heap.size, 5, none⟩ = some (.int .i64 st1.len) := by rw [cell_of_blk hx6']; rfl
          have z0 : w12.cell? ⟨w11.heap.size, 0, none⟩ = some (.string st1.m) := by rw [cell_of_blk hx12]; rfl
          have z1 : w12.cell? ⟨w11.heap.size, 1, none⟩ = some (.string st1.s) := by rw [cell_of_blk hx12]; rfl
          have z2 : w12.cell? ⟨w11.heap.size, 2, none⟩ = some (.string st1.a) := by rw [cell_of_blk hx12]; rfl
          have z3 : w12.cell? ⟨w11.heap.size, 3, none⟩ = some (.string st1.p) := by rw [cell_of_blk hx12]; rfl
          have z4 : w12.cell? ⟨w11.heap.size, 4, none⟩ = some (.slice Af2 st1.fields.length cf2) := by rw [cell_of_blk hx12]; rfl
          have z5 : w12.cell? ⟨w11.heap.size, 5, none⟩ = some (.int .i64 st1.len) := by rw [cell_of_blk hx12]; rfl
          have HFa := Kp.mk ((HFf6.out.below HB12.out))
          have HFb := Kp.mk (HFf2.out.below hb12)
          clear hb12 hx12 hx6' hck2 hck
          go_wp2_with fail
          refine (same_true (fs := st1.fields) (cp := cf) (cp' := cf2) HFa.out HFb.out _ _ _ _ _).mono ?_
          rintro e w13 ⟨rfl, hb⟩
          have HB13 := Kp.mk (HB12.out.trans (hb.mono HB12.out.size))
          clear hb
          go_wp2_with fail
          refine (awake_any _).mono ?_
          rintro e w14 ⟨rfl, hb⟩
          have HB14 := Kp.mk (HB13.out.trans (hb.mono HB13.out.size))
          clear hb
          go_wp2_with fail
          go_ret
          exact ⟨rfl, HB6.out.trans (HB14.out.mono HB6.out.size)⟩

end Go.Proofs.YtohhdoibkopoiaaDoor.Msg
