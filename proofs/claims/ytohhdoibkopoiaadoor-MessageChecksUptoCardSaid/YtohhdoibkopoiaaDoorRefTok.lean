/- The reference's small functions: alnum, in, Token, Name, Hop, pseudo, much. -/
import Derived.Test.YtohhdoibkopoiaaDoorMsgMuch
set_option linter.unusedVariables false
set_option linter.unusedSimpArgs false
namespace Go.Proofs.YtohhdoibkopoiaaDoor.Msg
open Go.RowKit Go.Proofs.YtohhdoibkopoiaaDoor.Mp

def alnR (r : Int) : Bool := loR r || upR r || dgR r

theorem alnum_any (c : Int) (w : World) :
    Calls Tryd.prog 49 #[.int .u8 c] w fun e w' => e = .returned (.bool (alnR c)) ∧ w = w' := by
  have HV : ∀ b : Bool, alnR c = b → Kp (alnR c = b) := fun _ h => ⟨h⟩
  have HV' := Kp.mk HV
  clear HV
  by_cases h1 : 97 ≤ c <;> by_cases h2 : c ≤ 122 <;> by_cases h3 : 65 ≤ c <;> by_cases h4 : c ≤ 90 <;> by_cases h5 : 48 ≤ c <;> by_cases h6 : c ≤ 57 <;> first
    | omega
    | (have HT : Kp (alnR c = true) := ⟨by simp [alnR, loR, upR, dgR, h1, h2, h3, h4, h5, h6]⟩
       go_enter Tryd.func49, Tryd.ntmps49
       go_wp2
       go_ret
       exact ⟨by rw [HT.out]; rfl, rfl⟩)
    | (have HT : Kp (alnR c = false) := ⟨by simp [alnR, loR, upR, dgR, h1, h2, h3, h4, h5, h6]⟩
       go_enter Tryd.func49, Tryd.ntmps49
       go_wp2
       go_ret
       exact ⟨by rw [HT.out]; rfl, rfl⟩)

def hasB (s : ByteArray) (c : UInt8) : Bool := s.data.toList.contains c

theorem in_any (s : ByteArray) (hs : s.size ≤ 9223372036854775807) (c : UInt8) (w : World) :
    Calls Tryd.prog 50 #[.string s, .int .u8 c.toNat] w fun e w' => e = .returned (.bool (hasB s c)) ∧ w = w' := by
  go_enter Tryd.func50, Tryd.ntmps50
  go_wp2
  go_loop [5] (fun i => ∃ k : Nat, k ≤ s.size ∧ i = .int .i64 k ∧ Kp ((s.data.toList.take k).contains c = false)) (fun i => s.size - (intOf i).toNat)
  case atStart => exact ⟨0, Nat.zero_le _, rfl, ⟨rfl⟩⟩
  case round =>
    obtain ⟨k, hk, rfl, HP⟩ := hrel
    by_cases hlt : k < s.size
    · cases hq : ((s[k]'hlt) == c) with
      | true =>
        have hq1 : (s[k]'hlt) = c := beq_iff_eq.1 hq
        have hq2 : (((s[k]'hlt).toNat : Int) == (c.toNat : Int)) = true := by rw [hq1]; simp
        have HT : Kp (hasB s c = true) := ⟨by
          unfold hasB
          rw [← hq1]
          simp only [List.contains_eq_mem, decide_eq_true_eq]
          show s.data[k] ∈ _
          simp⟩
        clear hq hq1
        go_wp2
        go_ret
        exact ⟨by rw [HT.out]; rfl, rfl⟩
      | false =>
        have hq1 : ¬ (s[k]'hlt) = c := by simpa using hq
        have hq2 : (((s[k]'hlt).toNat : Int) == (c.toNat : Int)) = false := by
          simp only [beq_eq_false_iff_ne, ne_eq]
          intro e
          exact hq1 (UInt8.toNat.inj (by omega))
        have HT : Kp ((s.data.toList.take (k + 1)).contains c = false) := ⟨by
          rw [List.take_succ_eq_append_getElem (by simpa using hlt)]
          have h1 := HP.out
          simp only [List.contains_eq_mem, decide_eq_false_iff_not] at h1 ⊢
          simp only [List.mem_append, not_or]
          refine ⟨h1, ?_⟩
          simp only [List.mem_singleton]
          exact fun e => hq1 e.symm⟩
        clear hq hq1
        go_wp2
        go_round
        case rel => exact ⟨k + 1, by omega, by go_num, HT⟩
        case measure => simp [intOf]; omega
    · have HT : Kp (hasB s c = false) := ⟨by unfold hasB; have := HP.out; rwa [List.take_of_length_le (by simp; omega)] at this⟩
      go_wp2
      go_ret
      exact ⟨by rw [HT.out]; rfl, rfl⟩

theorem alnR_tok (c : UInt8) (h : alnR c.toNat = true) : tokR c.toNat = true := by
  unfold tokR; unfold alnR at h; rw [h]; rfl

def tokB (c : UInt8) : Bool := alnR c.toNat || hasB ⟨#[33, 35, 36, 37, 38, 39, 42, 43, 45, 46, 94, 95, 124, 126]⟩ c || c.toNat == 96

theorem everyB_of_all {p : Int → Bool} {s : ByteArray} (h : allB p s.data.toList = true) (hz : 0 < s.size) : everyB p s = true := by
  obtain ⟨⟨l⟩⟩ := s
  cases l with
  | nil => exact absurd hz (by decide)
  | cons a l => unfold everyB; rw [h]; rfl

theorem everyB_empty {p : Int → Bool} {s : ByteArray} (hz : ¬ 0 < s.size) : everyB p s = false := by
  obtain ⟨⟨l⟩⟩ := s
  cases l with
  | nil => rfl
  | cons a l => exact absurd (show 0 < (l.length + 1) by omega) hz

set_option maxRecDepth 100000 in
theorem tokB_eq (c : UInt8) : tokB c = tokR c.toNat := by
  obtain ⟨n, hn⟩ : ∃ n : Fin 256, UInt8.ofNat n.val = c := ⟨⟨c.toNat, c.toNat_lt⟩, by simp⟩
  revert n hn
  intro n hn
  subst hn
  revert n
  decide

theorem everyB_take {p : Int → Bool} (s : ByteArray) (k : Nat) (hlt : k < s.size) (h : allB p (s.data.toList.take k) = true) (hp : p ((s[k]'hlt).toNat) = true) : allB p (s.data.toList.take (k + 1)) = true := by
  rw [allB_take_succ p s k hlt, h, hp]; rfl

set_option maxHeartbeats 400000 in
theorem token_any (s : ByteArray) (hs : s.size ≤ 9223372036854775807) (w : World) :
    Calls Tryd.prog 33 #[.string s] w fun e w' => e = .returned (.bool (everyB tokR s)) ∧ w = w' := by
  go_enter Tryd.func33, Tryd.ntmps33
  go_wp2
  go_loop [3] (fun i => ∃ k : Nat, k ≤ s.size ∧ i = .int .i64 k ∧ Kp (allB tokR (s.data.toList.take k) = true)) (fun i => s.size - (intOf i).toNat)
  case atStart => exact ⟨0, Nat.zero_le _, rfl, ⟨rfl⟩⟩
  case round =>
    obtain ⟨k, hk, rfl, HP⟩ := hrel
    by_cases hlt : k < s.size
    · have hN : tokR (s[k]'hlt).toNat = false → Kp (everyB tokR s = false) := fun h => ⟨by unfold everyB; rw [allB_of_false tokR s k hlt h]; rfl⟩
      have hY := everyB_take s k hlt HP.out
      have hE := tokB_eq (s[k]'hlt)
      unfold tokB at hE
      have HN := Kp.mk hN
      have HY := Kp.mk hY
      have HE := Kp.mk hE
      clear hN hY hE
      cases ha : alnR (s[k]'hlt).toNat with
      | true =>
        have HA := Kp.mk ha
        have HT := Kp.mk (HY.out (by rw [← HE.out, ha]; rfl))
        clear ha
        go_wp2_with (first | (go_at_call 49; refine (alnum_any _ _).mono ?_; rintro e w' ⟨rfl, rfl⟩; rw [HA.out]))
        go_round
        case rel => exact ⟨k + 1, by omega, by go_num, HT⟩
        case measure => simp [intOf]; omega
      | false =>
        have HA := Kp.mk ha
        cases hb : hasB ⟨#[33, 35, 36, 37, 38, 39, 42, 43, 45, 46, 94, 95, 124, 126]⟩ (s[k]'hlt) with
        | true =>
          have HBb := Kp.mk hb
          have HT := Kp.mk (HY.out (by rw [← HE.out, ha, hb]; rfl))
          clear ha hb
          go_wp2_with (first | (go_at_call 49; refine (alnum_any _ _).mono ?_; rintro e w' ⟨rfl, rfl⟩; rw [HA.out]) | (go_at_call 50; refine (in_any _ (by decide) _ _).mono ?_; rintro e w' ⟨rfl, rfl⟩; rw [HBb.out]))
          go_round
          case rel => exact ⟨k + 1, by omega, by go_num, HT⟩
          case measure => simp [intOf]; omega
        | false =>
          have HBb := Kp.mk hb
          by_cases hc : (s[k]'hlt).toNat = 96
          · have hc' : (((s[k]'hlt).toNat : Int) == 96) = true := by rw [hc]; rfl
            have HT := Kp.mk (HY.out (by rw [← HE.out, ha, hb, hc]; rfl))
            clear ha hb hc
            go_wp2_with (first | (go_at_call 49; refine (alnum_any _ _).mono ?_; rintro e w' ⟨rfl, rfl⟩; rw [HA.out]) | (go_at_call 50; refine (in_any _ (by decide) _ _).mono ?_; rintro e w' ⟨rfl, rfl⟩; rw [HBb.out]))
            go_round
            case rel => exact ⟨k + 1, by omega, by go_num, HT⟩
            case measure => simp [intOf]; omega
          · have hc' : (((s[k]'hlt).toNat : Int) == 96) = false := by simp only [beq_eq_false_iff_ne, ne_eq]; omega
            have HT := HN.out (by rw [← HE.out, ha, hb]; simpa using hc)
            clear ha hb hc
            go_wp2_with (first | (go_at_call 49; refine (alnum_any _ _).mono ?_; rintro e w' ⟨rfl, rfl⟩; rw [HA.out]) | (go_at_call 50; refine (in_any _ (by decide) _ _).mono ?_; rintro e w' ⟨rfl, rfl⟩; rw [HBb.out]))
            go_ret
            exact ⟨by rw [HT.out]; rfl, rfl⟩
    · have hall : allB tokR s.data.toList = true := by have := HP.out; rwa [List.take_of_length_le (by simp; omega)] at this
      by_cases hz : 0 < s.size
      · have HT : Kp (everyB tokR s = true) := ⟨everyB_of_all hall hz⟩
        have hz' : ((s.size : Int) > 0) := by omega
        go_wp2
        go_ret
        exact ⟨by rw [HT.out]; rfl, rfl⟩
      · have HT : Kp (everyB tokR s = false) := ⟨everyB_empty hz⟩
        go_wp2
        go_ret
        exact ⟨by rw [HT.out]; rfl, rfl⟩

theorem nameR_tok {c : Int} (h : upR c = false) : nameR c = tokR c := by unfold nameR; rw [h]; simp

theorem everyB_name (s : ByteArray) (h : allB (fun c => !upR c) s.data.toList = true) : everyB nameR s = everyB tokR s := by
  unfold everyB
  congr 1
  unfold allB at h ⊢
  rw [List.all_eq_true] at h
  rw [Bool.eq_iff_iff, List.all_eq_true, List.all_eq_true]
  constructor
  · intro h2 c hc; rw [← nameR_tok (by simpa using h c hc)]; exact h2 c hc
  · intro h2 c hc; rw [nameR_tok (by simpa using h c hc)]; exact h2 c hc

set_option maxHeartbeats 400000 in
theorem name_any (s : ByteArray) (hs : s.size ≤ 9223372036854775807) (w : World) :
    Calls Tryd.prog 19 #[.string s] w fun e w' => e = .returned (.bool (everyB nameR s)) ∧ w = w' := by
  go_enter Tryd.func19, Tryd.ntmps19
  go_wp2
  go_loop [3] (fun i => ∃ k : Nat, k ≤ s.size ∧ i = .int .i64 k ∧ Kp (allB (fun c => !upR c) (s.data.toList.take k) = true)) (fun i => s.size - (intOf i).toNat)
  case atStart => exact ⟨0, Nat.zero_le _, rfl, ⟨rfl⟩⟩
  case round =>
    obtain ⟨k, hk, rfl, HP⟩ := hrel
    by_cases hlt : k < s.size
    · have HN := Kp.mk (show upR (s[k]'hlt).toNat = true → Kp (everyB nameR s = false) from fun h => ⟨by unfold everyB; rw [allB_of_false nameR s k hlt (by unfold nameR; rw [h]; simp)]; rfl⟩)
      have HY := Kp.mk (show upR (s[k]'hlt).toNat = false → _ from fun h => everyB_take (p := fun c => !upR c) s k hlt HP.out (by rw [h]; rfl))
      by_cases h1 : 65 ≤ ((s[k]'hlt).toNat : Int)
      · by_cases h2 : ((s[k]'hlt).toNat : Int) ≤ 90
        · have HT := HN.out (by simp [upR, h1, h2])
          go_wp2
          go_ret
          exact ⟨by rw [HT.out]; rfl, rfl⟩
        · have HT := Kp.mk (HY.out (by simp only [upR, h1, h2]; rfl))
          go_wp2
          go_round
          case rel => exact ⟨k + 1, by omega, by go_num, HT⟩
          case measure => simp [intOf]; omega
      · have HT := Kp.mk (HY.out (by simp only [upR, h1]; rfl))
        go_wp2
        go_round
        case rel => exact ⟨k + 1, by omega, by go_num, HT⟩
        case measure => simp [intOf]; omega
    · have HT : Kp (everyB nameR s = everyB tokR s) := ⟨everyB_name s (by have := HP.out; rwa [List.take_of_length_le (show s.data.toList.length ≤ k by rw [Array.length_toList]; exact Nat.le_of_not_lt hlt)] at this)⟩
      go_wp2_with (first | (go_at_call 33; refine (token_any _ hs _).mono ?_; rintro e w' ⟨rfl, rfl⟩))
      go_ret
      exact ⟨by rw [HT.out]; rfl, rfl⟩

def pseudoB (s : ByteArray) : Bool := Lib.hasPrefix s.data.toList [58]

theorem pseudo_any (s : ByteArray) (hs : s.size ≤ 9223372036854775807) (w : World) :
    Calls Tryd.prog 37 #[.string s] w fun e w' => e = .returned (.bool (pseudoB s)) ∧ w = w' := by
  by_cases hz : 0 < s.size
  · have hz' : ((s.size : Int) > 0) := by omega
    have hp : pseudoB s = (((s[0]'hz).toNat : Int) == 58) := by
      unfold pseudoB
      obtain ⟨⟨l⟩⟩ := s
      cases l with
      | nil => exact absurd hz (by decide)
      | cons a l =>
        show Lib.hasPrefix (a :: l) [58] = ((a.toNat : Int) == 58)
        by_cases ha : a = 58
        · subst ha; simp [Lib.hasPrefix]
        · have h2 : ((a.toNat : Int) == 58) = false := by
            simp only [beq_eq_false_iff_ne, ne_eq]
            intro e
            exact ha (UInt8.toNat.inj (show a.toNat = 58 by omega))
          rw [h2]
          show List.isPrefixOf [58] (a :: l) = false
          simp only [List.isPrefixOf, Bool.and_eq_false_imp, beq_iff_eq]
          exact fun e => absurd e.symm ha
    have HP := Kp.mk hp
    clear hp
    go_enter Tryd.func37, Tryd.ntmps37
    go_wp2
    go_ret
    exact ⟨by rw [HP.out]; rfl, rfl⟩
  · have HP : Kp (pseudoB s = false) := ⟨by
      unfold pseudoB
      obtain ⟨⟨l⟩⟩ := s
      cases l with
      | nil => rfl
      | cons a l => exact absurd (show 0 < (l.length + 1) by omega) hz⟩
    go_enter Tryd.func37, Tryd.ntmps37
    go_wp2
    go_ret
    exact ⟨by rw [HP.out]; rfl, rfl⟩

theorem Hop_any (n v : ByteArray) (w : World) :
    Calls Tryd.prog 16 #[.agg #[.string n, .string v]] w fun e w' => e = .returned (.bool (hopB n.data.toList v.data.toList)) ∧ Below w.heap.size w w' := by
  have hn0 := ByteArray.toList_eq n
  have hv0 := ByteArray.toList_eq v
  rw [← hn0, ← hv0]
  clear hn0 hv0
  have HE := Kp.mk (rfl : hopB n.toList v.toList = hopB n.toList v.toList)
  go_enter Tryd.func16, Tryd.ntmps16
  go_wp2
  all_goals
    go_ret
    refine ⟨?_, (Below.refl _ _).alloc (Nat.le_refl _) _⟩
    first | (simp_all [hopB]; done) | (simp_all [hopB, bne]; done)

end Go.Proofs.YtohhdoibkopoiaaDoor.Msg
