/- The contracts of message.Trailers and of the reference's. Printed by gen_trail.py. -/
import Derived.Test.YtohhdoibkopoiaaDoorRefVal
set_option linter.unusedVariables false
set_option linter.unusedSimpArgs false
namespace Go.Proofs.YtohhdoibkopoiaaDoor.Msg
open Go.RowKit Go.Proofs.YtohhdoibkopoiaaDoor.Mp

theorem Below.of_eq {w w' : World} (B : Nat) (h : w = w') : Below B w w' := h ▸ Below.refl _ _

def endB (n : List UInt8) : Bool := n == [99, 111, 110, 116, 101, 110, 116, 45, 108, 101, 110, 103, 116, 104] || n == [104, 111, 115, 116] || n == [116, 101]
def trail1 (f : Fl) : Int :=
  if pseudoB f.n = true then 182
  else if everyB nameR f.n = false then 180
  else if valueB f.v = false then 181
  else if (hopB f.n.data.toList f.v.data.toList || endB f.n.data.toList) = true then 184
  else 0
def trailL : List Fl → Int
  | [] => 0
  | f :: r => if trail1 f = 0 then trailL r else trail1 f
def trailF (fs : List Fl) (c s : Int) : Int := if muchB fs c s = true then 185 else trailL fs

set_option maxRecDepth 100000 in
set_option maxHeartbeats 1000000 in
theorem Trailers_any {w : World} {A : Option Addr} {fs : List Fl} {cp : Nat} (h : FsAt w A fs) (hsz : ∀ f ∈ fs, f.n.size ≤ 9223372036854775807 ∧ f.v.size ≤ 9223372036854775807) (c s : Int) :
    Calls Tryd.prog 22 #[.slice A fs.length cp, .int .i64 c, .int .i64 s] w fun e w' => e = .returned (.int .i64 (trailF fs c s)) ∧ Below w.heap.size w w' := by
  have hlen : fs.length ≤ 9223372036854775807 := by have := h.len; omega
  have H := Kp.mk h
  have HZ := Kp.mk hsz
  clear h hsz
  cases hm : muchB fs c s with
  | true =>
    have HM := Kp.mk hm
    have HT : Kp (trailF fs c s = 185) := ⟨by unfold trailF; rw [hm]; rfl⟩
    clear hm
    go_enter Tryd.func22, Tryd.ntmps22
    go_wp2_with (first | (go_at_call 30; (with_reducible refine (much_any H.out c s).mono ?_); rintro e w1 ⟨rfl, hq⟩; rw [HM.out]; have HB0 := Kp.mk hq; clear hq))
    go_ret
    exact ⟨by rw [HT.out]; rfl, HB0.out⟩
  | false =>
    have HM := Kp.mk hm
    have HT : Kp (trailF fs c s = trailL fs) := ⟨by unfold trailF; rw [hm]; rfl⟩
    clear hm
    go_enter Tryd.func22, Tryd.ntmps22
    go_wp2_with (first | (go_at_call 30; (with_reducible refine (much_any H.out c s).mono ?_); rintro e w1 ⟨rfl, hq⟩; rw [HM.out]; have HB0 := Kp.mk hq; clear hq))
    go_loopw [7] (fun i wr => ∃ k : Nat, k ≤ fs.length ∧ i = .int .i64 k ∧ Kp (trailL fs = trailL (fs.drop k)) ∧ Kp (Below w.heap.size w wr)) (fun i _ => fs.length - (intOf i).toNat)
    case atStart => exact ⟨0, Nat.zero_le _, rfl, ⟨rfl⟩, HB0⟩
    case round =>
      obtain ⟨k, hk, rfl, HK, HB⟩ := hrel
      by_cases hlt : k < fs.length
      · obtain ⟨ad, rfl, h1, h2⟩ := (H.out.below HB.out).at_ k hlt
        have hzx := HZ.out _ (List.getElem_mem hlt)
        have hdrop := HK.out
        rw [List.drop_eq_getElem_cons hlt] at hdrop
        obtain ⟨x, hx⟩ : ∃ x, x = fs[k]'hlt := ⟨_, rfl⟩
        rw [← hx] at h1 h2 hzx hdrop
        have HD := Kp.mk hdrop
        have hzn := hzx.1
        have hzv := hzx.2
        have hB0 := HB.out.size
        have HB1 := Kp.mk (HB.out.alloc hB0 (.cells #[.string x.n, .string x.v] 37))
        have HX := Kp.mk (heap_alloc_new wr (.cells #[.string x.n, .string x.v] 37))
        clear hx hzx hdrop
        cases hp : pseudoB x.n with
        | true =>
          have HP := Kp.mk hp
          have HR : Kp (trailF fs c s = 182) := ⟨by rw [HT.out, HD.out]; simp [trailL, trail1, hp]⟩
          clear hp
          go_wp2_with (first | (go_at_call 37; (with_reducible refine (pseudo_any x.n hzn _).mono ?_); rintro e w2 ⟨rfl, hq⟩; rw [HP.out]; have HB2 := Kp.mk (HB1.out.trans (Below.of_eq _ hq)); have HX2 := Kp.mk (heap_kept (Below.of_eq _ hq) HX.out); have cn2 : w2.cell? ⟨wr.heap.size, 0, none⟩ = some (.string x.n) := (by rw [cell_of_blk HX2.out]; rfl); have cv2 : w2.cell? ⟨wr.heap.size, 1, none⟩ = some (.string x.v) := (by rw [cell_of_blk HX2.out]; rfl); clear hq))
          go_ret
          exact ⟨by rw [HR.out]; rfl, HB2.out⟩
        | false =>
          have HP := Kp.mk hp
          cases hn : everyB nameR x.n with
          | false =>
            have HN := Kp.mk hn
            have HR : Kp (trailF fs c s = 180) := ⟨by rw [HT.out, HD.out]; simp [trailL, trail1, hp, hn]⟩
            clear hp hn
            go_wp2_with (first | (go_at_call 37; (with_reducible refine (pseudo_any x.n hzn _).mono ?_); rintro e w2 ⟨rfl, hq⟩; rw [HP.out]; have HB2 := Kp.mk (HB1.out.trans (Below.of_eq _ hq)); have HX2 := Kp.mk (heap_kept (Below.of_eq _ hq) HX.out); have cn2 : w2.cell? ⟨wr.heap.size, 0, none⟩ = some (.string x.n) := (by rw [cell_of_blk HX2.out]; rfl); have cv2 : w2.cell? ⟨wr.heap.size, 1, none⟩ = some (.string x.v) := (by rw [cell_of_blk HX2.out]; rfl); clear hq) | (go_at_call 19; (with_reducible refine (name_any x.n hzn _).mono ?_); rintro e w3 ⟨rfl, hq⟩; rw [HN.out]; have HB3 := Kp.mk (HB2.out.trans (Below.of_eq _ hq)); have HX3 := Kp.mk (heap_kept (Below.of_eq _ hq) HX2.out); have cn3 : w3.cell? ⟨wr.heap.size, 0, none⟩ = some (.string x.n) := (by rw [cell_of_blk HX3.out]; rfl); have cv3 : w3.cell? ⟨wr.heap.size, 1, none⟩ = some (.string x.v) := (by rw [cell_of_blk HX3.out]; rfl); clear hq))
            go_ret
            exact ⟨by rw [HR.out]; rfl, HB3.out⟩
          | true =>
            have HN := Kp.mk hn
            cases hv : valueB x.v with
            | false =>
              have HV := Kp.mk hv
              have HR : Kp (trailF fs c s = 181) := ⟨by rw [HT.out, HD.out]; simp [trailL, trail1, hp, hn, hv]⟩
              clear hp hn hv
              go_wp2_with (first | (go_at_call 37; (with_reducible refine (pseudo_any x.n hzn _).mono ?_); rintro e w2 ⟨rfl, hq⟩; rw [HP.out]; have HB2 := Kp.mk (HB1.out.trans (Below.of_eq _ hq)); have HX2 := Kp.mk (heap_kept (Below.of_eq _ hq) HX.out); have cn2 : w2.cell? ⟨wr.heap.size, 0, none⟩ = some (.string x.n) := (by rw [cell_of_blk HX2.out]; rfl); have cv2 : w2.cell? ⟨wr.heap.size, 1, none⟩ = some (.string x.v) := (by rw [cell_of_blk HX2.out]; rfl); clear hq) | (go_at_call 19; (with_reducible refine (name_any x.n hzn _).mono ?_); rintro e w3 ⟨rfl, hq⟩; rw [HN.out]; have HB3 := Kp.mk (HB2.out.trans (Below.of_eq _ hq)); have HX3 := Kp.mk (heap_kept (Below.of_eq _ hq) HX2.out); have cn3 : w3.cell? ⟨wr.heap.size, 0, none⟩ = some (.string x.n) := (by rw [cell_of_blk HX3.out]; rfl); have cv3 : w3.cell? ⟨wr.heap.size, 1, none⟩ = some (.string x.v) := (by rw [cell_of_blk HX3.out]; rfl); clear hq) | (go_at_call 20; (with_reducible refine (Value_any x.v hzv _).mono ?_); rintro e w4 ⟨rfl, hq⟩; rw [HV.out]; have HB4 := Kp.mk (HB3.out.trans (Below.of_eq _ hq)); have HX4 := Kp.mk (heap_kept (Below.of_eq _ hq) HX3.out); have cn4 : w4.cell? ⟨wr.heap.size, 0, none⟩ = some (.string x.n) := (by rw [cell_of_blk HX4.out]; rfl); have cv4 : w4.cell? ⟨wr.heap.size, 1, none⟩ = some (.string x.v) := (by rw [cell_of_blk HX4.out]; rfl); clear hq))
              go_ret
              exact ⟨by rw [HR.out]; rfl, HB4.out⟩
            | true =>
              have HV := Kp.mk hv
              cases hh : hopB x.n.data.toList x.v.data.toList with
              | true =>
                have HH := Kp.mk hh
                have HR : Kp (trailF fs c s = 184) := ⟨by rw [HT.out, HD.out]; simp [trailL, trail1, hp, hn, hv, hh]⟩
                clear hp hn hv hh
                go_wp2_with (first | (go_at_call 37; (with_reducible refine (pseudo_any x.n hzn _).mono ?_); rintro e w2 ⟨rfl, hq⟩; rw [HP.out]; have HB2 := Kp.mk (HB1.out.trans (Below.of_eq _ hq)); have HX2 := Kp.mk (heap_kept (Below.of_eq _ hq) HX.out); have cn2 : w2.cell? ⟨wr.heap.size, 0, none⟩ = some (.string x.n) := (by rw [cell_of_blk HX2.out]; rfl); have cv2 : w2.cell? ⟨wr.heap.size, 1, none⟩ = some (.string x.v) := (by rw [cell_of_blk HX2.out]; rfl); clear hq) | (go_at_call 19; (with_reducible refine (name_any x.n hzn _).mono ?_); rintro e w3 ⟨rfl, hq⟩; rw [HN.out]; have HB3 := Kp.mk (HB2.out.trans (Below.of_eq _ hq)); have HX3 := Kp.mk (heap_kept (Below.of_eq _ hq) HX2.out); have cn3 : w3.cell? ⟨wr.heap.size, 0, none⟩ = some (.string x.n) := (by rw [cell_of_blk HX3.out]; rfl); have cv3 : w3.cell? ⟨wr.heap.size, 1, none⟩ = some (.string x.v) := (by rw [cell_of_blk HX3.out]; rfl); clear hq) | (go_at_call 20; (with_reducible refine (Value_any x.v hzv _).mono ?_); rintro e w4 ⟨rfl, hq⟩; rw [HV.out]; have HB4 := Kp.mk (HB3.out.trans (Below.of_eq _ hq)); have HX4 := Kp.mk (heap_kept (Below.of_eq _ hq) HX3.out); have cn4 : w4.cell? ⟨wr.heap.size, 0, none⟩ = some (.string x.n) := (by rw [cell_of_blk HX4.out]; rfl); have cv4 : w4.cell? ⟨wr.heap.size, 1, none⟩ = some (.string x.v) := (by rw [cell_of_blk HX4.out]; rfl); clear hq) | (go_at_call 16; (with_reducible refine (Hop_any x.n x.v _).mono ?_); rintro e w5 ⟨rfl, hq⟩; rw [HH.out]; have HB5 := Kp.mk (HB4.out.trans (hq.mono (Nat.le_trans HB4.out.size (Nat.le_refl _)))); have HX5 := Kp.mk (heap_kept hq HX4.out); have cn5 : w5.cell? ⟨wr.heap.size, 0, none⟩ = some (.string x.n) := (by rw [cell_of_blk HX5.out]; rfl); have cv5 : w5.cell? ⟨wr.heap.size, 1, none⟩ = some (.string x.v) := (by rw [cell_of_blk HX5.out]; rfl); clear hq))
                go_ret
                exact ⟨by rw [HR.out]; rfl, HB5.out⟩
              | false =>
                have HH := Kp.mk hh
                cases q0 : (x.n.toList == [116, 101]) with
                | true =>
                  have HR : Kp (trailF fs c s = 184) := ⟨by rw [HT.out, HD.out]; have e0 := q0; rw [ByteArray.toList_eq] at e0; simp [trailL, trail1, endB, hp, hn, hv, hh, beq_iff_eq.1 e0]⟩
                  clear hp hn hv hh
                  go_wp2_with (first | (go_at_call 37; (with_reducible refine (pseudo_any x.n hzn _).mono ?_); rintro e w2 ⟨rfl, hq⟩; rw [HP.out]; have HB2 := Kp.mk (HB1.out.trans (Below.of_eq _ hq)); have HX2 := Kp.mk (heap_kept (Below.of_eq _ hq) HX.out); have cn2 : w2.cell? ⟨wr.heap.size, 0, none⟩ = some (.string x.n) := (by rw [cell_of_blk HX2.out]; rfl); have cv2 : w2.cell? ⟨wr.heap.size, 1, none⟩ = some (.string x.v) := (by rw [cell_of_blk HX2.out]; rfl); clear hq) | (go_at_call 19; (with_reducible refine (name_any x.n hzn _).mono ?_); rintro e w3 ⟨rfl, hq⟩; rw [HN.out]; have HB3 := Kp.mk (HB2.out.trans (Below.of_eq _ hq)); have HX3 := Kp.mk (heap_kept (Below.of_eq _ hq) HX2.out); have cn3 : w3.cell? ⟨wr.heap.size, 0, none⟩ = some (.string x.n) := (by rw [cell_of_blk HX3.out]; rfl); have cv3 : w3.cell? ⟨wr.heap.size, 1, none⟩ = some (.string x.v) := (by rw [cell_of_blk HX3.out]; rfl); clear hq) | (go_at_call 20; (with_reducible refine (Value_any x.v hzv _).mono ?_); rintro e w4 ⟨rfl, hq⟩; rw [HV.out]; have HB4 := Kp.mk (HB3.out.trans (Below.of_eq _ hq)); have HX4 := Kp.mk (heap_kept (Below.of_eq _ hq) HX3.out); have cn4 : w4.cell? ⟨wr.heap.size, 0, none⟩ = some (.string x.n) := (by rw [cell_of_blk HX4.out]; rfl); have cv4 : w4.cell? ⟨wr.heap.size, 1, none⟩ = some (.string x.v) := (by rw [cell_of_blk HX4.out]; rfl); clear hq) | (go_at_call 16; (with_reducible refine (Hop_any x.n x.v _).mono ?_); rintro e w5 ⟨rfl, hq⟩; rw [HH.out]; have HB5 := Kp.mk (HB4.out.trans (hq.mono (Nat.le_trans HB4.out.size (Nat.le_refl _)))); have HX5 := Kp.mk (heap_kept hq HX4.out); have cn5 : w5.cell? ⟨wr.heap.size, 0, none⟩ = some (.string x.n) := (by rw [cell_of_blk HX5.out]; rfl); have cv5 : w5.cell? ⟨wr.heap.size, 1, none⟩ = some (.string x.v) := (by rw [cell_of_blk HX5.out]; rfl); clear hq))
                  go_ret
                  exact ⟨by rw [HR.out]; rfl, HB5.out⟩
                | false =>
                  cases q1 : (x.n.toList == [104, 111, 115, 116]) with
                  | true =>
                    have HR : Kp (trailF fs c s = 184) := ⟨by rw [HT.out, HD.out]; have e1 := q1; rw [ByteArray.toList_eq] at e1; simp [trailL, trail1, endB, hp, hn, hv, hh, beq_iff_eq.1 e1]⟩
                    clear hp hn hv hh
                    go_wp2_with (first | (go_at_call 37; (with_reducible refine (pseudo_any x.n hzn _).mono ?_); rintro e w2 ⟨rfl, hq⟩; rw [HP.out]; have HB2 := Kp.mk (HB1.out.trans (Below.of_eq _ hq)); have HX2 := Kp.mk (heap_kept (Below.of_eq _ hq) HX.out); have cn2 : w2.cell? ⟨wr.heap.size, 0, none⟩ = some (.string x.n) := (by rw [cell_of_blk HX2.out]; rfl); have cv2 : w2.cell? ⟨wr.heap.size, 1, none⟩ = some (.string x.v) := (by rw [cell_of_blk HX2.out]; rfl); clear hq) | (go_at_call 19; (with_reducible refine (name_any x.n hzn _).mono ?_); rintro e w3 ⟨rfl, hq⟩; rw [HN.out]; have HB3 := Kp.mk (HB2.out.trans (Below.of_eq _ hq)); have HX3 := Kp.mk (heap_kept (Below.of_eq _ hq) HX2.out); have cn3 : w3.cell? ⟨wr.heap.size, 0, none⟩ = some (.string x.n) := (by rw [cell_of_blk HX3.out]; rfl); have cv3 : w3.cell? ⟨wr.heap.size, 1, none⟩ = some (.string x.v) := (by rw [cell_of_blk HX3.out]; rfl); clear hq) | (go_at_call 20; (with_reducible refine (Value_any x.v hzv _).mono ?_); rintro e w4 ⟨rfl, hq⟩; rw [HV.out]; have HB4 := Kp.mk (HB3.out.trans (Below.of_eq _ hq)); have HX4 := Kp.mk (heap_kept (Below.of_eq _ hq) HX3.out); have cn4 : w4.cell? ⟨wr.heap.size, 0, none⟩ = some (.string x.n) := (by rw [cell_of_blk HX4.out]; rfl); have cv4 : w4.cell? ⟨wr.heap.size, 1, none⟩ = some (.string x.v) := (by rw [cell_of_blk HX4.out]; rfl); clear hq) | (go_at_call 16; (with_reducible refine (Hop_any x.n x.v _).mono ?_); rintro e w5 ⟨rfl, hq⟩; rw [HH.out]; have HB5 := Kp.mk (HB4.out.trans (hq.mono (Nat.le_trans HB4.out.size (Nat.le_refl _)))); have HX5 := Kp.mk (heap_kept hq HX4.out); have cn5 : w5.cell? ⟨wr.heap.size, 0, none⟩ = some (.string x.n) := (by rw [cell_of_blk HX5.out]; rfl); have cv5 : w5.cell? ⟨wr.heap.size, 1, none⟩ = some (.string x.v) := (by rw [cell_of_blk HX5.out]; rfl); clear hq))
                    go_ret
                    exact ⟨by rw [HR.out]; rfl, HB5.out⟩
                  | false =>
                    cases q2 : (x.n.toList == [99, 111, 110, 116, 101, 110, 116, 45, 108, 101, 110, 103, 116, 104]) with
                    | true =>
                      have HR : Kp (trailF fs c s = 184) := ⟨by rw [HT.out, HD.out]; have e2 := q2; rw [ByteArray.toList_eq] at e2; simp [trailL, trail1, endB, hp, hn, hv, hh, beq_iff_eq.1 e2]⟩
                      clear hp hn hv hh
                      go_wp2_with (first | (go_at_call 37; (with_reducible refine (pseudo_any x.n hzn _).mono ?_); rintro e w2 ⟨rfl, hq⟩; rw [HP.out]; have HB2 := Kp.mk (HB1.out.trans (Below.of_eq _ hq)); have HX2 := Kp.mk (heap_kept (Below.of_eq _ hq) HX.out); have cn2 : w2.cell? ⟨wr.heap.size, 0, none⟩ = some (.string x.n) := (by rw [cell_of_blk HX2.out]; rfl); have cv2 : w2.cell? ⟨wr.heap.size, 1, none⟩ = some (.string x.v) := (by rw [cell_of_blk HX2.out]; rfl); clear hq) | (go_at_call 19; (with_reducible refine (name_any x.n hzn _).mono ?_); rintro e w3 ⟨rfl, hq⟩; rw [HN.out]; have HB3 := Kp.mk (HB2.out.trans (Below.of_eq _ hq)); have HX3 := Kp.mk (heap_kept (Below.of_eq _ hq) HX2.out); have cn3 : w3.cell? ⟨wr.heap.size, 0, none⟩ = some (.string x.n) := (by rw [cell_of_blk HX3.out]; rfl); have cv3 : w3.cell? ⟨wr.heap.size, 1, none⟩ = some (.string x.v) := (by rw [cell_of_blk HX3.out]; rfl); clear hq) | (go_at_call 20; (with_reducible refine (Value_any x.v hzv _).mono ?_); rintro e w4 ⟨rfl, hq⟩; rw [HV.out]; have HB4 := Kp.mk (HB3.out.trans (Below.of_eq _ hq)); have HX4 := Kp.mk (heap_kept (Below.of_eq _ hq) HX3.out); have cn4 : w4.cell? ⟨wr.heap.size, 0, none⟩ = some (.string x.n) := (by rw [cell_of_blk HX4.out]; rfl); have cv4 : w4.cell? ⟨wr.heap.size, 1, none⟩ = some (.string x.v) := (by rw [cell_of_blk HX4.out]; rfl); clear hq) | (go_at_call 16; (with_reducible refine (Hop_any x.n x.v _).mono ?_); rintro e w5 ⟨rfl, hq⟩; rw [HH.out]; have HB5 := Kp.mk (HB4.out.trans (hq.mono (Nat.le_trans HB4.out.size (Nat.le_refl _)))); have HX5 := Kp.mk (heap_kept hq HX4.out); have cn5 : w5.cell? ⟨wr.heap.size, 0, none⟩ = some (.string x.n) := (by rw [cell_of_blk HX5.out]; rfl); have cv5 : w5.cell? ⟨wr.heap.size, 1, none⟩ = some (.string x.v) := (by rw [cell_of_blk HX5.out]; rfl); clear hq))
                      go_ret
                      exact ⟨by rw [HR.out]; rfl, HB5.out⟩
                    | false =>
                      have HR : Kp (trailL fs = trailL (fs.drop (k + 1))) := ⟨by
                        rw [HD.out]
                        have he : endB x.n.data.toList = false := by unfold endB; rw [← ByteArray.toList_eq, q2, q1, q0]; rfl
                        simp [trailL, trail1, hp, hn, hv, hh, he]⟩
                      clear hp hn hv hh
                      go_wp2_with (first | (go_at_call 37; (with_reducible refine (pseudo_any x.n hzn _).mono ?_); rintro e w2 ⟨rfl, hq⟩; rw [HP.out]; have HB2 := Kp.mk (HB1.out.trans (Below.of_eq _ hq)); have HX2 := Kp.mk (heap_kept (Below.of_eq _ hq) HX.out); have cn2 : w2.cell? ⟨wr.heap.size, 0, none⟩ = some (.string x.n) := (by rw [cell_of_blk HX2.out]; rfl); have cv2 : w2.cell? ⟨wr.heap.size, 1, none⟩ = some (.string x.v) := (by rw [cell_of_blk HX2.out]; rfl); clear hq) | (go_at_call 19; (with_reducible refine (name_any x.n hzn _).mono ?_); rintro e w3 ⟨rfl, hq⟩; rw [HN.out]; have HB3 := Kp.mk (HB2.out.trans (Below.of_eq _ hq)); have HX3 := Kp.mk (heap_kept (Below.of_eq _ hq) HX2.out); have cn3 : w3.cell? ⟨wr.heap.size, 0, none⟩ = some (.string x.n) := (by rw [cell_of_blk HX3.out]; rfl); have cv3 : w3.cell? ⟨wr.heap.size, 1, none⟩ = some (.string x.v) := (by rw [cell_of_blk HX3.out]; rfl); clear hq) | (go_at_call 20; (with_reducible refine (Value_any x.v hzv _).mono ?_); rintro e w4 ⟨rfl, hq⟩; rw [HV.out]; have HB4 := Kp.mk (HB3.out.trans (Below.of_eq _ hq)); have HX4 := Kp.mk (heap_kept (Below.of_eq _ hq) HX3.out); have cn4 : w4.cell? ⟨wr.heap.size, 0, none⟩ = some (.string x.n) := (by rw [cell_of_blk HX4.out]; rfl); have cv4 : w4.cell? ⟨wr.heap.size, 1, none⟩ = some (.string x.v) := (by rw [cell_of_blk HX4.out]; rfl); clear hq) | (go_at_call 16; (with_reducible refine (Hop_any x.n x.v _).mono ?_); rintro e w5 ⟨rfl, hq⟩; rw [HH.out]; have HB5 := Kp.mk (HB4.out.trans (hq.mono (Nat.le_trans HB4.out.size (Nat.le_refl _)))); have HX5 := Kp.mk (heap_kept hq HX4.out); have cn5 : w5.cell? ⟨wr.heap.size, 0, none⟩ = some (.string x.n) := (by rw [cell_of_blk HX5.out]; rfl); have cv5 : w5.cell? ⟨wr.heap.size, 1, none⟩ = some (.string x.v) := (by rw [cell_of_blk HX5.out]; rfl); clear hq))
                      go_roundw
                      case rel => exact ⟨k + 1, by omega, by go_num, HR, HB5⟩
                      case measure => simp [intOf]; omega
      · have HR : Kp (trailF fs c s = 0) := ⟨by rw [HT.out, HK.out, List.drop_eq_nil_of_le (by omega)]; rfl⟩
        go_wp2
        go_ret
        exact ⟨by rw [HR.out]; rfl, HB.out⟩

set_option maxRecDepth 100000 in
set_option maxHeartbeats 1000000 in
theorem trailers_any {w : World} {A : Option Addr} {fs : List Fl} {cp : Nat} (h : FsAt w A fs) (hsz : ∀ f ∈ fs, f.n.size ≤ 9223372036854775807 ∧ f.v.size ≤ 9223372036854775807) (c s : Int) :
    Calls Tryd.prog 21 #[.slice A fs.length cp, .agg #[.int .i64 c, .int .i64 s]] w fun e w' => e = .returned (.int .i64 (trailF fs c s)) ∧ Below w.heap.size w w' := by
  have hlen : fs.length ≤ 9223372036854775807 := by have := h.len; omega
  have H := Kp.mk h
  have HZ := Kp.mk hsz
  have HPf := Kp.mk (fun n => Tryd.strings_HasPrefix n ⟨#[58]⟩)
  clear h hsz
  cases hm : muchB fs c s with
  | true =>
    have HM := Kp.mk hm
    have HT : Kp (trailF fs c s = 185) := ⟨by unfold trailF; rw [hm]; rfl⟩
    clear hm
    go_enter Tryd.func21, Tryd.ntmps21
    go_wp2_with (first | (go_at_call 26; (with_reducible refine (tooMuch_any (H.out.below ((Below.refl _ _).alloc (Nat.le_refl _) _)) c s).mono ?_); rintro e w1 ⟨rfl, hq⟩; rw [HM.out]; have HB0 := Kp.mk (((Below.refl w.heap.size w).alloc (Nat.le_refl _) (.cells #[.int .i64 c, .int .i64 s] 24)).trans (hq.mono (by simp))); clear hq))
    go_ret
    exact ⟨by rw [HT.out]; rfl, HB0.out⟩
  | false =>
    have HM := Kp.mk hm
    have HT : Kp (trailF fs c s = trailL fs) := ⟨by unfold trailF; rw [hm]; rfl⟩
    clear hm
    go_enter Tryd.func21, Tryd.ntmps21
    go_wp2_with (first | (go_at_call 26; (with_reducible refine (tooMuch_any (H.out.below ((Below.refl _ _).alloc (Nat.le_refl _) _)) c s).mono ?_); rintro e w1 ⟨rfl, hq⟩; rw [HM.out]; have HB0 := Kp.mk (((Below.refl w.heap.size w).alloc (Nat.le_refl _) (.cells #[.int .i64 c, .int .i64 s] 24)).trans (hq.mono (by simp))); clear hq))
    go_loopw [12] (fun i wr => ∃ k : Nat, k ≤ fs.length ∧ i = .int .i64 k ∧ Kp (trailL fs = trailL (fs.drop k)) ∧ Kp (Below w.heap.size w wr)) (fun i _ => fs.length - (intOf i).toNat)
    case atStart => exact ⟨0, Nat.zero_le _, rfl, ⟨rfl⟩, HB0⟩
    case round =>
      obtain ⟨k, hk, rfl, HK, HB⟩ := hrel
      by_cases hlt : k < fs.length
      · obtain ⟨ad, rfl, h1, h2⟩ := (H.out.below HB.out).at_ k hlt
        have hzx := HZ.out _ (List.getElem_mem hlt)
        have hdrop := HK.out
        rw [List.drop_eq_getElem_cons hlt] at hdrop
        obtain ⟨x, hx⟩ : ∃ x, x = fs[k]'hlt := ⟨_, rfl⟩
        rw [← hx] at h1 h2 hzx hdrop
        have HD := Kp.mk hdrop
        have hzn := hzx.1
        have hzv := hzx.2
        have hB0 := HB.out.size
        have HB1 := Kp.mk (HB.out.alloc hB0 (.cells #[.string x.n, .string x.v] 37))
        have HX := Kp.mk (heap_alloc_new wr (.cells #[.string x.n, .string x.v] 37))
        clear hx hzx hdrop
        cases hp : pseudoB x.n with
        | true =>
          have HP := Kp.mk hp
          have HR : Kp (trailF fs c s = 182) := ⟨by rw [HT.out, HD.out]; simp [trailL, trail1, hp]⟩
          clear hp
          go_wp2_with (first | (go_at_call 39; refine (HPf.out x.n _).mono ?_; rintro e w2 ⟨rfl, hq⟩; rw [show Lib.hasPrefix x.n.data.toList [58] = pseudoB x.n from rfl, HP.out]; have HB2 := Kp.mk (HB1.out.trans (Below.of_eq _ hq.symm)); have HX2 := Kp.mk (heap_kept (Below.of_eq _ hq.symm) HX.out); have cn2 : w2.cell? ⟨wr.heap.size, 0, none⟩ = some (.string x.n) := (by rw [cell_of_blk HX2.out]; rfl); have cv2 : w2.cell? ⟨wr.heap.size, 1, none⟩ = some (.string x.v) := (by rw [cell_of_blk HX2.out]; rfl); clear hq))
          go_ret
          exact ⟨by rw [HR.out]; rfl, HB2.out⟩
        | false =>
          have HP := Kp.mk hp
          cases hn : everyB nameR x.n with
          | false =>
            have HN := Kp.mk hn
            have HR : Kp (trailF fs c s = 180) := ⟨by rw [HT.out, HD.out]; simp [trailL, trail1, hp, hn]⟩
            clear hp hn
            go_wp2_with (first | (go_at_call 39; refine (HPf.out x.n _).mono ?_; rintro e w2 ⟨rfl, hq⟩; rw [show Lib.hasPrefix x.n.data.toList [58] = pseudoB x.n from rfl, HP.out]; have HB2 := Kp.mk (HB1.out.trans (Below.of_eq _ hq.symm)); have HX2 := Kp.mk (heap_kept (Below.of_eq _ hq.symm) HX.out); have cn2 : w2.cell? ⟨wr.heap.size, 0, none⟩ = some (.string x.n) := (by rw [cell_of_blk HX2.out]; rfl); have cv2 : w2.cell? ⟨wr.heap.size, 1, none⟩ = some (.string x.v) := (by rw [cell_of_blk HX2.out]; rfl); clear hq) | (go_at_call 40; (with_reducible refine (rightName_any x.n hzn _).mono ?_); rintro e w3 ⟨rfl, hq⟩; rw [HN.out]; have HB3 := Kp.mk (HB2.out.trans (hq.mono (Nat.le_trans HB2.out.size (Nat.le_refl _)))); have HX3 := Kp.mk (heap_kept hq HX2.out); have cn3 : w3.cell? ⟨wr.heap.size, 0, none⟩ = some (.string x.n) := (by rw [cell_of_blk HX3.out]; rfl); have cv3 : w3.cell? ⟨wr.heap.size, 1, none⟩ = some (.string x.v) := (by rw [cell_of_blk HX3.out]; rfl); clear hq))
            go_ret
            exact ⟨by rw [HR.out]; rfl, HB3.out⟩
          | true =>
            have HN := Kp.mk hn
            cases hv : valueB x.v with
            | false =>
              have HV := Kp.mk hv
              have HR : Kp (trailF fs c s = 181) := ⟨by rw [HT.out, HD.out]; simp [trailL, trail1, hp, hn, hv]⟩
              clear hp hn hv
              go_wp2_with (first | (go_at_call 39; refine (HPf.out x.n _).mono ?_; rintro e w2 ⟨rfl, hq⟩; rw [show Lib.hasPrefix x.n.data.toList [58] = pseudoB x.n from rfl, HP.out]; have HB2 := Kp.mk (HB1.out.trans (Below.of_eq _ hq.symm)); have HX2 := Kp.mk (heap_kept (Below.of_eq _ hq.symm) HX.out); have cn2 : w2.cell? ⟨wr.heap.size, 0, none⟩ = some (.string x.n) := (by rw [cell_of_blk HX2.out]; rfl); have cv2 : w2.cell? ⟨wr.heap.size, 1, none⟩ = some (.string x.v) := (by rw [cell_of_blk HX2.out]; rfl); clear hq) | (go_at_call 40; (with_reducible refine (rightName_any x.n hzn _).mono ?_); rintro e w3 ⟨rfl, hq⟩; rw [HN.out]; have HB3 := Kp.mk (HB2.out.trans (hq.mono (Nat.le_trans HB2.out.size (Nat.le_refl _)))); have HX3 := Kp.mk (heap_kept hq HX2.out); have cn3 : w3.cell? ⟨wr.heap.size, 0, none⟩ = some (.string x.n) := (by rw [cell_of_blk HX3.out]; rfl); have cv3 : w3.cell? ⟨wr.heap.size, 1, none⟩ = some (.string x.v) := (by rw [cell_of_blk HX3.out]; rfl); clear hq) | (go_at_call 41; (with_reducible refine (rightValue_any x.v hzv _).mono ?_); rintro e w4 ⟨rfl, hq⟩; rw [HV.out]; have HB4 := Kp.mk (HB3.out.trans (hq.mono (Nat.le_trans HB3.out.size (Nat.le_refl _)))); have HX4 := Kp.mk (heap_kept hq HX3.out); have cn4 : w4.cell? ⟨wr.heap.size, 0, none⟩ = some (.string x.n) := (by rw [cell_of_blk HX4.out]; rfl); have cv4 : w4.cell? ⟨wr.heap.size, 1, none⟩ = some (.string x.v) := (by rw [cell_of_blk HX4.out]; rfl); clear hq))
              go_ret
              exact ⟨by rw [HR.out]; rfl, HB4.out⟩
            | true =>
              have HV := Kp.mk hv
              cases hh : hopB x.n.data.toList x.v.data.toList with
              | true =>
                have HH := Kp.mk hh
                have HR : Kp (trailF fs c s = 184) := ⟨by rw [HT.out, HD.out]; simp [trailL, trail1, hp, hn, hv, hh]⟩
                clear hp hn hv hh
                go_wp2_with (first | (go_at_call 39; refine (HPf.out x.n _).mono ?_; rintro e w2 ⟨rfl, hq⟩; rw [show Lib.hasPrefix x.n.data.toList [58] = pseudoB x.n from rfl, HP.out]; have HB2 := Kp.mk (HB1.out.trans (Below.of_eq _ hq.symm)); have HX2 := Kp.mk (heap_kept (Below.of_eq _ hq.symm) HX.out); have cn2 : w2.cell? ⟨wr.heap.size, 0, none⟩ = some (.string x.n) := (by rw [cell_of_blk HX2.out]; rfl); have cv2 : w2.cell? ⟨wr.heap.size, 1, none⟩ = some (.string x.v) := (by rw [cell_of_blk HX2.out]; rfl); clear hq) | (go_at_call 40; (with_reducible refine (rightName_any x.n hzn _).mono ?_); rintro e w3 ⟨rfl, hq⟩; rw [HN.out]; have HB3 := Kp.mk (HB2.out.trans (hq.mono (Nat.le_trans HB2.out.size (Nat.le_refl _)))); have HX3 := Kp.mk (heap_kept hq HX2.out); have cn3 : w3.cell? ⟨wr.heap.size, 0, none⟩ = some (.string x.n) := (by rw [cell_of_blk HX3.out]; rfl); have cv3 : w3.cell? ⟨wr.heap.size, 1, none⟩ = some (.string x.v) := (by rw [cell_of_blk HX3.out]; rfl); clear hq) | (go_at_call 41; (with_reducible refine (rightValue_any x.v hzv _).mono ?_); rintro e w4 ⟨rfl, hq⟩; rw [HV.out]; have HB4 := Kp.mk (HB3.out.trans (hq.mono (Nat.le_trans HB3.out.size (Nat.le_refl _)))); have HX4 := Kp.mk (heap_kept hq HX3.out); have cn4 : w4.cell? ⟨wr.heap.size, 0, none⟩ = some (.string x.n) := (by rw [cell_of_blk HX4.out]; rfl); have cv4 : w4.cell? ⟨wr.heap.size, 1, none⟩ = some (.string x.v) := (by rw [cell_of_blk HX4.out]; rfl); clear hq) | (go_at_call 42; (with_reducible refine (hop_any x.n x.v _).mono ?_); rintro e w5 ⟨rfl, hq⟩; rw [HH.out]; have HB5 := Kp.mk (HB4.out.trans (hq.mono (Nat.le_trans HB4.out.size (Nat.le_refl _)))); have HX5 := Kp.mk (heap_kept hq HX4.out); have cn5 : w5.cell? ⟨wr.heap.size, 0, none⟩ = some (.string x.n) := (by rw [cell_of_blk HX5.out]; rfl); have cv5 : w5.cell? ⟨wr.heap.size, 1, none⟩ = some (.string x.v) := (by rw [cell_of_blk HX5.out]; rfl); clear hq))
                go_ret
                exact ⟨by rw [HR.out]; rfl, HB5.out⟩
              | false =>
                have HH := Kp.mk hh
                cases q0 : (x.n.toList == [99, 111, 110, 116, 101, 110, 116, 45, 108, 101, 110, 103, 116, 104]) with
                | true =>
                  have HR : Kp (trailF fs c s = 184) := ⟨by rw [HT.out, HD.out]; have e0 := q0; rw [ByteArray.toList_eq] at e0; simp [trailL, trail1, endB, hp, hn, hv, hh, beq_iff_eq.1 e0]⟩
                  clear hp hn hv hh
                  go_wp2_with (first | (go_at_call 39; refine (HPf.out x.n _).mono ?_; rintro e w2 ⟨rfl, hq⟩; rw [show Lib.hasPrefix x.n.data.toList [58] = pseudoB x.n from rfl, HP.out]; have HB2 := Kp.mk (HB1.out.trans (Below.of_eq _ hq.symm)); have HX2 := Kp.mk (heap_kept (Below.of_eq _ hq.symm) HX.out); have cn2 : w2.cell? ⟨wr.heap.size, 0, none⟩ = some (.string x.n) := (by rw [cell_of_blk HX2.out]; rfl); have cv2 : w2.cell? ⟨wr.heap.size, 1, none⟩ = some (.string x.v) := (by rw [cell_of_blk HX2.out]; rfl); clear hq) | (go_at_call 40; (with_reducible refine (rightName_any x.n hzn _).mono ?_); rintro e w3 ⟨rfl, hq⟩; rw [HN.out]; have HB3 := Kp.mk (HB2.out.trans (hq.mono (Nat.le_trans HB2.out.size (Nat.le_refl _)))); have HX3 := Kp.mk (heap_kept hq HX2.out); have cn3 : w3.cell? ⟨wr.heap.size, 0, none⟩ = some (.string x.n) := (by rw [cell_of_blk HX3.out]; rfl); have cv3 : w3.cell? ⟨wr.heap.size, 1, none⟩ = some (.string x.v) := (by rw [cell_of_blk HX3.out]; rfl); clear hq) | (go_at_call 41; (with_reducible refine (rightValue_any x.v hzv _).mono ?_); rintro e w4 ⟨rfl, hq⟩; rw [HV.out]; have HB4 := Kp.mk (HB3.out.trans (hq.mono (Nat.le_trans HB3.out.size (Nat.le_refl _)))); have HX4 := Kp.mk (heap_kept hq HX3.out); have cn4 : w4.cell? ⟨wr.heap.size, 0, none⟩ = some (.string x.n) := (by rw [cell_of_blk HX4.out]; rfl); have cv4 : w4.cell? ⟨wr.heap.size, 1, none⟩ = some (.string x.v) := (by rw [cell_of_blk HX4.out]; rfl); clear hq) | (go_at_call 42; (with_reducible refine (hop_any x.n x.v _).mono ?_); rintro e w5 ⟨rfl, hq⟩; rw [HH.out]; have HB5 := Kp.mk (HB4.out.trans (hq.mono (Nat.le_trans HB4.out.size (Nat.le_refl _)))); have HX5 := Kp.mk (heap_kept hq HX4.out); have cn5 : w5.cell? ⟨wr.heap.size, 0, none⟩ = some (.string x.n) := (by rw [cell_of_blk HX5.out]; rfl); have cv5 : w5.cell? ⟨wr.heap.size, 1, none⟩ = some (.string x.v) := (by rw [cell_of_blk HX5.out]; rfl); clear hq))
                  go_ret
                  exact ⟨by rw [HR.out]; rfl, HB5.out⟩
                | false =>
                  cases q1 : (x.n.toList == [104, 111, 115, 116]) with
                  | true =>
                    have HR : Kp (trailF fs c s = 184) := ⟨by rw [HT.out, HD.out]; have e1 := q1; rw [ByteArray.toList_eq] at e1; simp [trailL, trail1, endB, hp, hn, hv, hh, beq_iff_eq.1 e1]⟩
                    clear hp hn hv hh
                    go_wp2_with (first | (go_at_call 39; refine (HPf.out x.n _).mono ?_; rintro e w2 ⟨rfl, hq⟩; rw [show Lib.hasPrefix x.n.data.toList [58] = pseudoB x.n from rfl, HP.out]; have HB2 := Kp.mk (HB1.out.trans (Below.of_eq _ hq.symm)); have HX2 := Kp.mk (heap_kept (Below.of_eq _ hq.symm) HX.out); have cn2 : w2.cell? ⟨wr.heap.size, 0, none⟩ = some (.string x.n) := (by rw [cell_of_blk HX2.out]; rfl); have cv2 : w2.cell? ⟨wr.heap.size, 1, none⟩ = some (.string x.v) := (by rw [cell_of_blk HX2.out]; rfl); clear hq) | (go_at_call 40; (with_reducible refine (rightName_any x.n hzn _).mono ?_); rintro e w3 ⟨rfl, hq⟩; rw [HN.out]; have HB3 := Kp.mk (HB2.out.trans (hq.mono (Nat.le_trans HB2.out.size (Nat.le_refl _)))); have HX3 := Kp.mk (heap_kept hq HX2.out); have cn3 : w3.cell? ⟨wr.heap.size, 0, none⟩ = some (.string x.n) := (by rw [cell_of_blk HX3.out]; rfl); have cv3 : w3.cell? ⟨wr.heap.size, 1, none⟩ = some (.string x.v) := (by rw [cell_of_blk HX3.out]; rfl); clear hq) | (go_at_call 41; (with_reducible refine (rightValue_any x.v hzv _).mono ?_); rintro e w4 ⟨rfl, hq⟩; rw [HV.out]; have HB4 := Kp.mk (HB3.out.trans (hq.mono (Nat.le_trans HB3.out.size (Nat.le_refl _)))); have HX4 := Kp.mk (heap_kept hq HX3.out); have cn4 : w4.cell? ⟨wr.heap.size, 0, none⟩ = some (.string x.n) := (by rw [cell_of_blk HX4.out]; rfl); have cv4 : w4.cell? ⟨wr.heap.size, 1, none⟩ = some (.string x.v) := (by rw [cell_of_blk HX4.out]; rfl); clear hq) | (go_at_call 42; (with_reducible refine (hop_any x.n x.v _).mono ?_); rintro e w5 ⟨rfl, hq⟩; rw [HH.out]; have HB5 := Kp.mk (HB4.out.trans (hq.mono (Nat.le_trans HB4.out.size (Nat.le_refl _)))); have HX5 := Kp.mk (heap_kept hq HX4.out); have cn5 : w5.cell? ⟨wr.heap.size, 0, none⟩ = some (.string x.n) := (by rw [cell_of_blk HX5.out]; rfl); have cv5 : w5.cell? ⟨wr.heap.size, 1, none⟩ = some (.string x.v) := (by rw [cell_of_blk HX5.out]; rfl); clear hq))
                    go_ret
                    exact ⟨by rw [HR.out]; rfl, HB5.out⟩
                  | false =>
                    cases q2 : (x.n.toList == [116, 101]) with
                    | true =>
                      have HR : Kp (trailF fs c s = 184) := ⟨by rw [HT.out, HD.out]; have e2 := q2; rw [ByteArray.toList_eq] at e2; simp [trailL, trail1, endB, hp, hn, hv, hh, beq_iff_eq.1 e2]⟩
                      clear hp hn hv hh
                      go_wp2_with (first | (go_at_call 39; refine (HPf.out x.n _).mono ?_; rintro e w2 ⟨rfl, hq⟩; rw [show Lib.hasPrefix x.n.data.toList [58] = pseudoB x.n from rfl, HP.out]; have HB2 := Kp.mk (HB1.out.trans (Below.of_eq _ hq.symm)); have HX2 := Kp.mk (heap_kept (Below.of_eq _ hq.symm) HX.out); have cn2 : w2.cell? ⟨wr.heap.size, 0, none⟩ = some (.string x.n) := (by rw [cell_of_blk HX2.out]; rfl); have cv2 : w2.cell? ⟨wr.heap.size, 1, none⟩ = some (.string x.v) := (by rw [cell_of_blk HX2.out]; rfl); clear hq) | (go_at_call 40; (with_reducible refine (rightName_any x.n hzn _).mono ?_); rintro e w3 ⟨rfl, hq⟩; rw [HN.out]; have HB3 := Kp.mk (HB2.out.trans (hq.mono (Nat.le_trans HB2.out.size (Nat.le_refl _)))); have HX3 := Kp.mk (heap_kept hq HX2.out); have cn3 : w3.cell? ⟨wr.heap.size, 0, none⟩ = some (.string x.n) := (by rw [cell_of_blk HX3.out]; rfl); have cv3 : w3.cell? ⟨wr.heap.size, 1, none⟩ = some (.string x.v) := (by rw [cell_of_blk HX3.out]; rfl); clear hq) | (go_at_call 41; (with_reducible refine (rightValue_any x.v hzv _).mono ?_); rintro e w4 ⟨rfl, hq⟩; rw [HV.out]; have HB4 := Kp.mk (HB3.out.trans (hq.mono (Nat.le_trans HB3.out.size (Nat.le_refl _)))); have HX4 := Kp.mk (heap_kept hq HX3.out); have cn4 : w4.cell? ⟨wr.heap.size, 0, none⟩ = some (.string x.n) := (by rw [cell_of_blk HX4.out]; rfl); have cv4 : w4.cell? ⟨wr.heap.size, 1, none⟩ = some (.string x.v) := (by rw [cell_of_blk HX4.out]; rfl); clear hq) | (go_at_call 42; (with_reducible refine (hop_any x.n x.v _).mono ?_); rintro e w5 ⟨rfl, hq⟩; rw [HH.out]; have HB5 := Kp.mk (HB4.out.trans (hq.mono (Nat.le_trans HB4.out.size (Nat.le_refl _)))); have HX5 := Kp.mk (heap_kept hq HX4.out); have cn5 : w5.cell? ⟨wr.heap.size, 0, none⟩ = some (.string x.n) := (by rw [cell_of_blk HX5.out]; rfl); have cv5 : w5.cell? ⟨wr.heap.size, 1, none⟩ = some (.string x.v) := (by rw [cell_of_blk HX5.out]; rfl); clear hq))
                      go_ret
                      exact ⟨by rw [HR.out]; rfl, HB5.out⟩
                    | false =>
                      have HR : Kp (trailL fs = trailL (fs.drop (k + 1))) := ⟨by
                        rw [HD.out]
                        have he : endB x.n.data.toList = false := by unfold endB; rw [← ByteArray.toList_eq, q0, q1, q2]; rfl
                        simp [trailL, trail1, hp, hn, hv, hh, he]⟩
                      clear hp hn hv hh
                      go_wp2_with (first | (go_at_call 39; refine (HPf.out x.n _).mono ?_; rintro e w2 ⟨rfl, hq⟩; rw [show Lib.hasPrefix x.n.data.toList [58] = pseudoB x.n from rfl, HP.out]; have HB2 := Kp.mk (HB1.out.trans (Below.of_eq _ hq.symm)); have HX2 := Kp.mk (heap_kept (Below.of_eq _ hq.symm) HX.out); have cn2 : w2.cell? ⟨wr.heap.size, 0, none⟩ = some (.string x.n) := (by rw [cell_of_blk HX2.out]; rfl); have cv2 : w2.cell? ⟨wr.heap.size, 1, none⟩ = some (.string x.v) := (by rw [cell_of_blk HX2.out]; rfl); clear hq) | (go_at_call 40; (with_reducible refine (rightName_any x.n hzn _).mono ?_); rintro e w3 ⟨rfl, hq⟩; rw [HN.out]; have HB3 := Kp.mk (HB2.out.trans (hq.mono (Nat.le_trans HB2.out.size (Nat.le_refl _)))); have HX3 := Kp.mk (heap_kept hq HX2.out); have cn3 : w3.cell? ⟨wr.heap.size, 0, none⟩ = some (.string x.n) := (by rw [cell_of_blk HX3.out]; rfl); have cv3 : w3.cell? ⟨wr.heap.size, 1, none⟩ = some (.string x.v) := (by rw [cell_of_blk HX3.out]; rfl); clear hq) | (go_at_call 41; (with_reducible refine (rightValue_any x.v hzv _).mono ?_); rintro e w4 ⟨rfl, hq⟩; rw [HV.out]; have HB4 := Kp.mk (HB3.out.trans (hq.mono (Nat.le_trans HB3.out.size (Nat.le_refl _)))); have HX4 := Kp.mk (heap_kept hq HX3.out); have cn4 : w4.cell? ⟨wr.heap.size, 0, none⟩ = some (.string x.n) := (by rw [cell_of_blk HX4.out]; rfl); have cv4 : w4.cell? ⟨wr.heap.size, 1, none⟩ = some (.string x.v) := (by rw [cell_of_blk HX4.out]; rfl); clear hq) | (go_at_call 42; (with_reducible refine (hop_any x.n x.v _).mono ?_); rintro e w5 ⟨rfl, hq⟩; rw [HH.out]; have HB5 := Kp.mk (HB4.out.trans (hq.mono (Nat.le_trans HB4.out.size (Nat.le_refl _)))); have HX5 := Kp.mk (heap_kept hq HX4.out); have cn5 : w5.cell? ⟨wr.heap.size, 0, none⟩ = some (.string x.n) := (by rw [cell_of_blk HX5.out]; rfl); have cv5 : w5.cell? ⟨wr.heap.size, 1, none⟩ = some (.string x.v) := (by rw [cell_of_blk HX5.out]; rfl); clear hq))
                      go_roundw
                      case rel => exact ⟨k + 1, by omega, by go_num, HR, HB5⟩
                      case measure => simp [intOf]; omega
      · have HR : Kp (trailF fs c s = 0) := ⟨by rw [HT.out, HK.out, List.drop_eq_nil_of_le (by omega)]; rfl⟩
        go_wp2
        go_ret
        exact ⟨by rw [HR.out]; rfl, HB.out⟩

end Go.Proofs.YtohhdoibkopoiaaDoor.Msg

