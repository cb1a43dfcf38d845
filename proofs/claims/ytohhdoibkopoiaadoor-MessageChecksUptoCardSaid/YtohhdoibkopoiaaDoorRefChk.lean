/- The reference's find, Length, path, authority. -/
import Derived.Test.YtohhdoibkopoiaaDoorChecksPlain
set_option linter.unusedVariables false
set_option linter.unusedSimpArgs false
namespace Go.Proofs.YtohhdoibkopoiaaDoor.Msg
open Go.RowKit Go.Proofs.YtohhdoibkopoiaaDoor.Mp

theorem pick_at {fs : List Fl} {nm : ByteArray} {k : Nat} (hk : k < fs.length) (h0 : pick (pairsOf (fs.take k)) nm = none) (he : (fs[k]'hk).n.data.toList = nm.data.toList) : pick (pairsOf fs) nm = some (fs[k]'hk).v := by
  have hfs : fs = fs.take k ++ (fs[k]'hk :: fs.drop (k + 1)) := by rw [← List.drop_eq_getElem_cons hk, List.take_append_drop]
  conv => lhs; rw [hfs]
  rw [pairs_append, pick_app_none h0]
  exact pick_one_eq he _

theorem pick_succ {fs : List Fl} {nm : ByteArray} {k : Nat} (hk : k < fs.length) (h0 : pick (pairsOf (fs.take k)) nm = none) (he : (fs[k]'hk).n.data.toList ≠ nm.data.toList) : pick (pairsOf (fs.take (k + 1))) nm = none := by
  rw [List.take_succ_eq_append_getElem hk, pairs_append, pick_app_none h0]
  exact pick_one_ne he _

theorem find_any {w : World} {A : Option Addr} {fs : List Fl} {cp : Nat} (h : FsAt w A fs) (nm : ByteArray) :
    Calls Tryd.prog 32 #[.slice A fs.length cp, .string nm] w fun e w' => e = .returned (oneVal (pick (pairsOf fs) nm)) ∧ w = w' := by
  have hlen : fs.length ≤ 9223372036854775807 := by have := h.len; omega
  have H := Kp.mk h
  clear h
  go_enter Tryd.func32, Tryd.ntmps32
  go_wp2
  go_loop [6] (fun i => ∃ k : Nat, k ≤ fs.length ∧ i = .int .i64 k ∧ Kp (pick (pairsOf (fs.take k)) nm = none)) (fun i => fs.length - (intOf i).toNat)
  case atStart => exact ⟨0, Nat.zero_le _, rfl, ⟨rfl⟩⟩
  case round =>
    obtain ⟨k, hk, rfl, HP⟩ := hrel
    by_cases hlt : k < fs.length
    · obtain ⟨ad, rfl, h1, h2⟩ := H.out.at_ k hlt
      have hY := pick_at hlt HP.out
      have hN := pick_succ hlt HP.out
      obtain ⟨x, hx⟩ : ∃ x, x = fs[k]'hlt := ⟨_, rfl⟩
      rw [← hx] at h1 h2 hY hN
      clear hx
      have HY := Kp.mk hY
      have HN := Kp.mk hN
      clear hY hN
      cases hq : (x.n.toList == nm.toList) with
      | true =>
        have HT := Kp.mk (HY.out (by rw [← ByteArray.toList_eq, ← ByteArray.toList_eq]; exact beq_iff_eq.1 hq))
        go_wp2
        go_ret2
        exact ⟨by rw [HT.out]; rfl, rfl⟩
      | false =>
        have HT := Kp.mk (HN.out (by rw [← ByteArray.toList_eq, ← ByteArray.toList_eq]; exact beq_eq_false_iff_ne.1 hq))
        go_wp2
        go_round
        case rel => exact ⟨k + 1, by omega, by go_num, HT⟩
        case measure => simp [intOf]; omega
    · have HT : Kp (pick (pairsOf fs) nm = none) := ⟨by have := HP.out; rwa [List.take_of_length_le (by omega)] at this⟩
      go_wp2
      go_ret2
      exact ⟨by rw [HT.out]; rfl, rfl⟩

theorem dg_succ (s : ByteArray) (k : Nat) (hlt : k < s.size) (h : allB dgR (s.data.toList.take k) = true) (hd : 48 ≤ (s[k]'hlt).toNat ∧ (s[k]'hlt).toNat ≤ 57) : allB dgR (s.data.toList.take (k + 1)) = true :=
  everyB_take s k hlt h (by unfold dgR; simp; omega)

theorem num_le {k : Nat} {l : Int} (h : l < 10 ^ k) (hk : k ≤ 14) : l ≤ 100000000000000 := by
  have h5 : (10 : Int) ^ k ≤ 10 ^ 14 := by
    have : (10 : Nat) ^ k ≤ 10 ^ 14 := Nat.pow_le_pow_right (by omega) (by omega)
    exact_mod_cast this
  omega

theorem numB_lt (s : ByteArray) (k : Nat) (hk : k ≤ s.size) (h : allB dgR (s.data.toList.take k) = true) : 0 ≤ numB (s.data.toList.take k) ∧ numB (s.data.toList.take k) < 10 ^ k := by
  have h1 : allB dgR (⟨(s.data.toList.take k).toArray⟩ : ByteArray).data.toList = true := h
  have h2 := numB_bound ⟨(s.data.toList.take k).toArray⟩ h1 k (by show k ≤ (s.data.toList.take k).toArray.size; simp; omega)
  simpa [List.take_take] using h2

theorem Length_any (s : ByteArray) (hs : s.size ≤ 9223372036854775807) (w : World) :
    Calls Tryd.prog 36 #[.string s] w fun e w' => e = .returned (.int .i64 (lenI s)) ∧ w = w' := by
  by_cases h1 : s.size < 1
  · have HF : Kp (lenI s = -1) := ⟨by unfold lenI lengthB; rw [if_neg (by intro e; rw [everyB_empty (by omega)] at e; exact absurd e.2 (by decide))]⟩
    have h1' : ((s.size : Int) < 1) := by omega
    go_enter Tryd.func36, Tryd.ntmps36
    go_wp2
    go_ret
    exact ⟨by rw [HF.out]; rfl, rfl⟩
  · have h1' : ¬ ((s.size : Int) < 1) := by omega
    by_cases h2 : 15 < s.size
    · have HF : Kp (lenI s = -1) := ⟨by unfold lenI lengthB; rw [if_neg (by omega)]⟩
      have h2' : ((s.size : Int) > 15) := by omega
      go_enter Tryd.func36, Tryd.ntmps36
      go_wp2
      go_ret
      exact ⟨by rw [HF.out]; rfl, rfl⟩
    · have h2' : ¬ ((s.size : Int) > 15) := by omega
      go_enter Tryd.func36, Tryd.ntmps36
      go_wp2
      go_loop [3, 4] (fun v i => ∃ k : Nat, k ≤ s.size ∧ i = .int .i64 k ∧ v = .int .i64 (numB (s.data.toList.take k)) ∧ Kp (allB dgR (s.data.toList.take k) = true)) (fun _ i => s.size - (intOf i).toNat)
      case atStart => exact ⟨0, Nat.zero_le _, rfl, rfl, ⟨rfl⟩⟩
      case round =>
        obtain ⟨k, hk, rfl, rfl, HP⟩ := hrel
        by_cases hlt : k < s.size
        · have hN : dgR (s[k]'hlt).toNat = false → Kp (lenI s = -1) := fun h => ⟨by unfold lenI lengthB; rw [if_neg]; intro e; have := e.2; unfold everyB at this; rw [allB_of_false dgR s k hlt h] at this; simp at this⟩
          have HN := Kp.mk hN
          have HY := Kp.mk (dg_succ s k hlt HP.out)
          have HE := Kp.mk (numB_take_succ s k hlt)
          have hb0 : 0 ≤ numB (s.data.toList.take k) := (numB_lt s k hk HP.out).1
          have hb1 : numB (s.data.toList.take k) ≤ 100000000000000 := num_le (numB_lt s k hk HP.out).2 (by omega)
          obtain ⟨n, hn⟩ : ∃ n, n = numB (s.data.toList.take k) := ⟨_, rfl⟩
          rw [← hn] at hb0 hb1 HE ⊢
          clear hN hn
          by_cases d1 : ((s[k]'hlt).toNat : Int) < 48
          · have HT := HN.out (by unfold dgR; simp; omega)
            go_wp2
            go_ret
            exact ⟨by rw [HT.out]; rfl, rfl⟩
          · by_cases d2 : ((s[k]'hlt).toNat : Int) > 57
            · have HT := HN.out (by unfold dgR; simp; omega)
              go_wp2
              go_ret
              exact ⟨by rw [HT.out]; rfl, rfl⟩
            · have HT := Kp.mk (HY.out ⟨by omega, by omega⟩)
              go_wp2
              go_round
              case rel => exact ⟨k + 1, by omega, by go_num, by rw [HE.out]; congr 1; omega, HT⟩
              case measure => simp [intOf]; omega
        · have hall : allB dgR s.data.toList = true := by have := HP.out; rwa [List.take_of_length_le (by simp; omega)] at this
          have hlen : lenI s = numB (s.data.toList.take k) := by
            rw [List.take_of_length_le (show s.data.toList.length ≤ k by rw [Array.length_toList]; exact Nat.le_of_not_lt hlt)]
            unfold lenI lengthB
            rw [if_pos ⟨by omega, everyB_of_all hall (by omega)⟩]
          have HT := Kp.mk hlen
          clear hlen hall
          go_wp2
          go_ret
          exact ⟨by rw [HT.out]; rfl, rfl⟩

theorem pfx0 (s : ByteArray) (c : UInt8) (hz : 0 < s.size) : Lib.hasPrefix s.data.toList [c] = (((s[0]'hz).toNat : Int) == (c.toNat : Int)) := by
  obtain ⟨⟨l⟩⟩ := s
  cases l with
  | nil => exact absurd hz (by decide)
  | cons a l =>
    show Lib.hasPrefix (a :: l) [c] = ((a.toNat : Int) == (c.toNat : Int))
    by_cases ha : a = c
    · subst ha; simp [Lib.hasPrefix]
    · have h2 : ((a.toNat : Int) == (c.toNat : Int)) = false := by
        simp only [beq_eq_false_iff_ne, ne_eq]
        intro e
        exact ha (UInt8.toNat.inj (show a.toNat = c.toNat by omega))
      rw [h2]
      show List.isPrefixOf [c] (a :: l) = false
      simp only [List.isPrefixOf, Bool.and_eq_false_imp, beq_iff_eq]
      exact fun e => absurd e.symm ha

theorem pfx_empty {s : ByteArray} (c : UInt8) (hz : ¬ 0 < s.size) : Lib.hasPrefix s.data.toList [c] = false := by
  obtain ⟨⟨l⟩⟩ := s
  cases l with
  | nil => rfl
  | cons a l => exact absurd (show 0 < (l.length + 1) by omega) hz

set_option maxHeartbeats 400000 in
theorem path_any (m p : ByteArray) (hs : p.size ≤ 9223372036854775807) (w : World) :
    Calls Tryd.prog 34 #[.string m, .string p] w fun e w' => e = .returned (.bool (pathB m p)) ∧ w = w' := by
  have hm0 := ByteArray.toList_eq m
  have hp0 := ByteArray.toList_eq p
  by_cases h1 : m.data.toList = [79, 80, 84, 73, 79, 78, 83]
  · by_cases h2 : p.data.toList = [42]
    · have HF : Kp (pathB m p = true) := ⟨by unfold pathB; rw [if_pos ⟨h1, h2⟩]⟩
      have h1' : (m.toList == [79, 80, 84, 73, 79, 78, 83]) = true := by rw [hm0, h1]; rfl
      have h2' : (p.toList == [42]) = true := by rw [hp0, h2]; rfl
      clear h1 h2 hm0 hp0
      go_enter Tryd.func34, Tryd.ntmps34
      go_wp2
      go_ret
      exact ⟨by rw [HF.out]; rfl, rfl⟩
    · have HF : Kp (pathB m p = (Lib.hasPrefix p.data.toList [47] && everyB pathR p)) := ⟨by unfold pathB; rw [if_neg (fun h => h2 h.2)]⟩
      have h1' : (m.toList == [79, 80, 84, 73, 79, 78, 83]) = true := by rw [hm0, h1]; rfl
      have h2' : (p.toList == [42]) = false := by rw [hp0]; simpa using h2
      clear h1 h2 hm0 hp0
      by_cases hz : 0 < p.size
      · have hz1 : ¬ ((p.size : Int) < 1) := by omega
        have hp0 := pfx0 p 47 hz
        have hlt0 : 0 < p.size := hz
        by_cases h47 : ((p[0]'hz).toNat : Int) = 47
        · have HPX : Kp (Lib.hasPrefix p.data.toList [47] = true) := ⟨by rw [hp0]; exact beq_iff_eq.2 h47⟩
          clear hp0
          go_enter Tryd.func34, Tryd.ntmps34
          go_wp2
          go_loop [5] (fun i => ∃ k : Nat, k ≤ p.size ∧ i = .int .i64 k ∧ Kp (allB pathR (p.data.toList.take k) = true)) (fun i => p.size - (intOf i).toNat)
          case atStart => exact ⟨0, Nat.zero_le _, rfl, ⟨rfl⟩⟩
          case round =>
            obtain ⟨k, hk, rfl, HP⟩ := hrel
            by_cases hlt : k < p.size
            · have HN := Kp.mk (show pathR (p[k]'hlt).toNat = false → Kp (pathB m p = false) from fun h => ⟨by rw [HF.out]; unfold everyB; rw [allB_of_false pathR p k hlt h]; simp⟩)
              have HY := Kp.mk (everyB_take (p := pathR) p k hlt HP.out)
              by_cases d1 : ((p[k]'hlt).toNat : Int) < 33
              · have HT := HN.out (by unfold pathR; simp; omega)
                go_wp2
                go_ret
                exact ⟨by rw [HT.out]; rfl, rfl⟩
              · by_cases d2 : ((p[k]'hlt).toNat : Int) > 126
                · have HT := HN.out (by unfold pathR; simp; omega)
                  go_wp2
                  go_ret
                  exact ⟨by rw [HT.out]; rfl, rfl⟩
                · by_cases d3 : (p[k]'hlt).toNat = 35
                  · have d3' : (((p[k]'hlt).toNat : Int) == 35) = true := by rw [d3]; rfl
                    have HT := HN.out (by unfold pathR; rw [d3]; decide)
                    clear d3
                    go_wp2
                    go_ret
                    exact ⟨by rw [HT.out]; rfl, rfl⟩
                  · have d3' : (((p[k]'hlt).toNat : Int) == 35) = false := by simp only [beq_eq_false_iff_ne, ne_eq]; omega
                    have HT := Kp.mk (HY.out (by unfold pathR; simp; omega))
                    clear d3
                    go_wp2
                    go_round
                    case rel => exact ⟨k + 1, by omega, by go_num, HT⟩
                    case measure => simp [intOf]; omega
            · have hall : allB pathR p.data.toList = true := by have := HP.out; rwa [List.take_of_length_le (by simp; omega)] at this
              have HT : Kp (pathB m p = true) := ⟨by rw [HF.out, HPX.out, everyB_of_all hall hz]; rfl⟩
              go_wp2
              go_ret
              exact ⟨by rw [HT.out]; rfl, rfl⟩
        · have HT : Kp (pathB m p = false) := ⟨by rw [HF.out, hp0, show ((((p[0]'hz).toNat : Int) == ((47 : UInt8).toNat : Int)) = false) from beq_eq_false_iff_ne.2 h47]; rfl⟩
          clear hp0
          go_enter Tryd.func34, Tryd.ntmps34
          go_wp2
          go_ret
          exact ⟨by rw [HT.out]; rfl, rfl⟩
      · have hz1 : ((p.size : Int) < 1) := by omega
        have HT : Kp (pathB m p = false) := ⟨by rw [HF.out, pfx_empty 47 hz]; rfl⟩
        go_enter Tryd.func34, Tryd.ntmps34
        go_wp2
        go_ret
        exact ⟨by rw [HT.out]; rfl, rfl⟩
  · have HF : Kp (pathB m p = (Lib.hasPrefix p.data.toList [47] && everyB pathR p)) := ⟨by unfold pathB; rw [if_neg (fun h => h1 h.1)]⟩
    have h1' : (m.toList == [79, 80, 84, 73, 79, 78, 83]) = false := by rw [hm0]; simpa using h1
    clear h1 hm0 hp0
    by_cases hz : 0 < p.size
    · have hz1 : ¬ ((p.size : Int) < 1) := by omega
      have hp0 := pfx0 p 47 hz
      have hlt0 : 0 < p.size := hz
      by_cases h47 : ((p[0]'hz).toNat : Int) = 47
      · have HPX : Kp (Lib.hasPrefix p.data.toList [47] = true) := ⟨by rw [hp0]; exact beq_iff_eq.2 h47⟩
        clear hp0
        go_enter Tryd.func34, Tryd.ntmps34
        go_wp2
        go_loop [5] (fun i => ∃ k : Nat, k ≤ p.size ∧ i = .int .i64 k ∧ Kp (allB pathR (p.data.toList.take k) = true)) (fun i => p.size - (intOf i).toNat)
        case atStart => exact ⟨0, Nat.zero_le _, rfl, ⟨rfl⟩⟩
        case round =>
          obtain ⟨k, hk, rfl, HP⟩ := hrel
          by_cases hlt : k < p.size
          · have HN := Kp.mk (show pathR (p[k]'hlt).toNat = false → Kp (pathB m p = false) from fun h => ⟨by rw [HF.out]; unfold everyB; rw [allB_of_false pathR p k hlt h]; simp⟩)
            have HY := Kp.mk (everyB_take (p := pathR) p k hlt HP.out)
            by_cases d1 : ((p[k]'hlt).toNat : Int) < 33
            · have HT := HN.out (by unfold pathR; simp; omega)
              go_wp2
              go_ret
              exact ⟨by rw [HT.out]; rfl, rfl⟩
            · by_cases d2 : ((p[k]'hlt).toNat : Int) > 126
              · have HT := HN.out (by unfold pathR; simp; omega)
                go_wp2
                go_ret
                exact ⟨by rw [HT.out]; rfl, rfl⟩
              · by_cases d3 : (p[k]'hlt).toNat = 35
                · have d3' : (((p[k]'hlt).toNat : Int) == 35) = true := by rw [d3]; rfl
                  have HT := HN.out (by unfold pathR; rw [d3]; decide)
                  clear d3
                  go_wp2
                  go_ret
                  exact ⟨by rw [HT.out]; rfl, rfl⟩
                · have d3' : (((p[k]'hlt).toNat : Int) == 35) = false := by simp only [beq_eq_false_iff_ne, ne_eq]; omega
                  have HT := Kp.mk (HY.out (by unfold pathR; simp; omega))
                  clear d3
                  go_wp2
                  go_round
                  case rel => exact ⟨k + 1, by omega, by go_num, HT⟩
                  case measure => simp [intOf]; omega
          · have hall : allB pathR p.data.toList = true := by have := HP.out; rwa [List.take_of_length_le (by simp; omega)] at this
            have HT : Kp (pathB m p = true) := ⟨by rw [HF.out, HPX.out, everyB_of_all hall hz]; rfl⟩
            go_wp2
            go_ret
            exact ⟨by rw [HT.out]; rfl, rfl⟩
      · have HT : Kp (pathB m p = false) := ⟨by rw [HF.out, hp0, show ((((p[0]'hz).toNat : Int) == ((47 : UInt8).toNat : Int)) = false) from beq_eq_false_iff_ne.2 h47]; rfl⟩
        clear hp0
        go_enter Tryd.func34, Tryd.ntmps34
        go_wp2
        go_ret
        exact ⟨by rw [HT.out]; rfl, rfl⟩
    · have hz1 : ((p.size : Int) < 1) := by omega
      have HT : Kp (pathB m p = false) := ⟨by rw [HF.out, pfx_empty 47 hz]; rfl⟩
      go_enter Tryd.func34, Tryd.ntmps34
      go_wp2
      go_ret
      exact ⟨by rw [HT.out]; rfl, rfl⟩

def authC (c : UInt8) : Bool := alnR c.toNat || hasB ⟨#[45, 46, 95, 126, 58, 91, 93, 37]⟩ c

set_option maxRecDepth 100000 in
theorem authC_eq (c : UInt8) : authC c = authR c.toNat := by
  obtain ⟨n, hn⟩ : ∃ n : Fin 256, UInt8.ofNat n.val = c := ⟨⟨c.toNat, c.toNat_lt⟩, by simp⟩
  revert n hn
  intro n hn
  subst hn
  revert n
  decide

set_option maxHeartbeats 400000 in
theorem authority_any (s : ByteArray) (hs : s.size ≤ 9223372036854775807) (w : World) :
    Calls Tryd.prog 35 #[.string s] w fun e w' => e = .returned (.bool (everyB authR s)) ∧ w = w' := by
  go_enter Tryd.func35, Tryd.ntmps35
  go_wp2
  go_loop [3] (fun i => ∃ k : Nat, k ≤ s.size ∧ i = .int .i64 k ∧ Kp (allB authR (s.data.toList.take k) = true)) (fun i => s.size - (intOf i).toNat)
  case atStart => exact ⟨0, Nat.zero_le _, rfl, ⟨rfl⟩⟩
  case round =>
    obtain ⟨k, hk, rfl, HP⟩ := hrel
    by_cases hlt : k < s.size
    · have HN := Kp.mk (show authR (s[k]'hlt).toNat = false → Kp (everyB authR s = false) from fun h => ⟨by unfold everyB; rw [allB_of_false authR s k hlt h]; rfl⟩)
      have HY := Kp.mk (everyB_take (p := authR) s k hlt HP.out)
      have hE := authC_eq (s[k]'hlt)
      unfold authC at hE
      have HE := Kp.mk hE
      clear hE
      cases ha : alnR (s[k]'hlt).toNat with
      | true =>
        have HA := Kp.mk ha
        have HT := Kp.mk (HY.out (by rw [← HE.out, ha]; rfl))
        clear ha
        go_wp2_with (first | (go_at_call 49; refine (alnum_any _ _).mono ?_; rintro e w' ⟨rfl, rfl⟩; rw [HA.out]))
        go_round
        case rel => exact ⟨k + 1, by omega, by go_num, HT⟩
        case measure => simp [intOf]; omega
      | false =>
        have HA := Kp.mk ha
        cases hb : hasB ⟨#[45, 46, 95, 126, 58, 91, 93, 37]⟩ (s[k]'hlt) with
        | true =>
          have HBb := Kp.mk hb
          have HT := Kp.mk (HY.out (by rw [← HE.out, ha, hb]; rfl))
          clear ha hb
          go_wp2_with (first | (go_at_call 49; refine (alnum_any _ _).mono ?_; rintro e w' ⟨rfl, rfl⟩; rw [HA.out]) | (go_at_call 50; refine (in_any _ (by decide) _ _).mono ?_; rintro e w' ⟨rfl, rfl⟩; rw [HBb.out]))
          go_round
          case rel => exact ⟨k + 1, by omega, by go_num, HT⟩
          case measure => simp [intOf]; omega
        | false =>
          have HBb := Kp.mk hb
          have HT := HN.out (by rw [← HE.out, ha, hb]; rfl)
          clear ha hb
          go_wp2_with (first | (go_at_call 49; refine (alnum_any _ _).mono ?_; rintro e w' ⟨rfl, rfl⟩; rw [HA.out]) | (go_at_call 50; refine (in_any _ (by decide) _ _).mono ?_; rintro e w' ⟨rfl, rfl⟩; rw [HBb.out]))
          go_ret
          exact ⟨by rw [HT.out]; rfl, rfl⟩
    · have hall : allB authR s.data.toList = true := by have := HP.out; rwa [List.take_of_length_le (by simp; omega)] at this
      by_cases hz : 0 < s.size
      · have HT : Kp (everyB authR s = true) := ⟨everyB_of_all hall hz⟩
        have hz' : ((s.size : Int) > 0) := by omega
        go_wp2
        go_ret
        exact ⟨by rw [HT.out]; rfl, rfl⟩
      · have HT : Kp (everyB authR s = false) := ⟨everyB_empty hz⟩
        go_wp2
        go_ret
        exact ⟨by rw [HT.out]; rfl, rfl⟩

end Go.Proofs.YtohhdoibkopoiaaDoor.Msg
