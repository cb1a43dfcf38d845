/- The contracts of message.must, rightValue, rightPath, length, hop. -/
import Derived.Test.YtaaofanhjolikaaGreatDoorMsgTok
import Derived.WalkLawsBesides
set_option linter.unusedVariables false
set_option linter.unusedSimpArgs false
namespace Go.Proofs.YtaaofanhjolikaaGreatDoor.Msg
open Go.RowKit

def refusal (c : Int) : List PanicEntry := [{ v := .iface 171 (.agg #[.int .i64 c]), recovered := false }]

theorem must_ok (c : Int) (w : World) :
    Calls Tryz.prog 74 #[.bool true, .int .i64 c] w fun e w' => e = .returned (.tuple #[]) ∧ w = w' := by
  go_enter Tryz.func74, Tryz.ntmps74
  go_wp2
  go_end0
  exact ⟨rfl, rfl⟩

theorem must_no (c : Int) (w : World) :
    Calls Tryz.prog 74 #[.bool false, .int .i64 c] w fun e w' => e = .panicked (refusal c) ∧ w = w' := by
  go_enter Tryz.func74, Tryz.ntmps74
  go_wp2
  exact ⟨rfl, rfl, rfl⟩

/-! ### values -/
def okV (c : UInt8) : Bool := !((decide (c.toNat < 32) && c.toNat != 9) || c.toNat == 127)
def valueB (s : ByteArray) : Bool := s.data.toList.all okV && (Lib.trimS s.data.toList [32, 9] == s.data.toList)

theorem okV_take_succ (s : ByteArray) (k : Nat) (h : k < s.size) : (s.data.toList.take (k + 1)).all okV = ((s.data.toList.take k).all okV && okV (s[k]'h)) := by
  rw [List.take_succ_eq_append_getElem (by simpa using h), List.all_append]
  simp
  rfl

theorem okV_of_false (s : ByteArray) (k : Nat) (h : k < s.size) (hp : okV (s[k]'h) = false) : s.data.toList.all okV = false := by
  rw [List.all_eq_false]
  refine ⟨s[k]'h, ?_, by simp [hp]⟩
  show s.data[k] ∈ _
  simp

theorem rightValue_any (s : ByteArray) (hs : s.size ≤ 9223372036854775807) (w : World) :
    Calls Tryz.prog 84 #[.string s] w fun e w' => e = .returned (.bool (valueB s)) ∧ Below w.heap.size w w' := by
  go_enter Tryz.func84, Tryz.ntmps84
  go_wp2
  go_loop [2, 7] (fun v i => v = .bool false ∧ ∃ k : Nat, k ≤ s.size ∧ i = .int .i64 k ∧ Kp ((s.data.toList.take k).all okV = true)) (fun _ i => s.size - (intOf i).toNat)
  case atStart => exact ⟨rfl, 0, Nat.zero_le _, rfl, ⟨rfl⟩⟩
  case round =>
    obtain ⟨rfl, k, hk, rfl, HP⟩ := hrel
    by_cases hlt : k < s.size
    · have hT : ∀ b : Bool, okV (s[k]'hlt) = b → Kp (okV (s[k]'hlt) = b) := fun _ h => ⟨h⟩
      have hV : okV (s[k]'hlt) = false → Kp (valueB s = false) := fun h => ⟨by unfold valueB; rw [okV_of_false s k hlt h]; rfl⟩
      have HT := Kp.mk hT
      have HV := Kp.mk hV
      clear hT hV
      go_wp2
      · have h9 : ((s[k]'hlt).toNat : Int) = 9 := by assumption
        have HO := HT.out true (by unfold okV; have : (s[k]'hlt).toNat = 9 := by omega
                                   simp [this])
        go_round
        case rel => exact ⟨rfl, k + 1, by omega, by go_num, ⟨by rw [okV_take_succ s k hlt, HP.out, HO.out]; rfl⟩⟩
        case measure => simp [intOf]; omega
      · have h1 : ((s[k]'hlt).toNat : Int) < 32 := by assumption
        have h9 : ¬ ((s[k]'hlt).toNat : Int) = 9 := by assumption
        go_ret
        refine ⟨?_, Below.refl _ _⟩
        rw [(HV.out (by unfold okV; have h2 : ¬ (s[k]'hlt).toNat = 9 := by omega
                        have h3 : (s[k]'hlt).toNat < 32 := by omega
                        simp [h2, h3])).out]
        rfl
      · have h1 : (((s[k]'hlt).toNat : Int) == 127) = true := by assumption
        go_ret
        refine ⟨?_, Below.refl _ _⟩
        rw [(HV.out (by unfold okV; have h2 : (s[k]'hlt).toNat = 127 := by have := beq_iff_eq.1 h1; omega
                        simp [h2])).out]
        rfl
      · have h1 : ¬ ((s[k]'hlt).toNat : Int) < 32 := by assumption
        have h2 : (((s[k]'hlt).toNat : Int) == 127) = false := by assumption
        have HO := HT.out true (by unfold okV
                                   have h3 : ¬ (s[k]'hlt).toNat < 32 := by omega
                                   have h4 : ¬ (s[k]'hlt).toNat = 127 := by have := beq_eq_false_iff_ne.1 h2; omega
                                   simp [h3, h4])
        go_round
        case rel => exact ⟨rfl, k + 1, by omega, by go_num, ⟨by rw [okV_take_succ s k hlt, HP.out, HO.out]; rfl⟩⟩
        case measure => simp [intOf]; omega
    · have hall : s.data.toList.all okV = true := by
        have h1 := HP.out
        rwa [List.take_of_length_le (by simp; omega)] at h1
      have hfin : valueB s = ((⟨(Lib.trimS s.data.toList [32, 9]).toArray⟩ : ByteArray).toList == s.toList) := by
        unfold valueB
        rw [hall, ByteArray.toList_eq, ByteArray.toList_eq]
        simp
      have HF := Kp.mk hfin
      clear hfin hall
      have hT := Tryz.strings_Trim_ws s w hs
      generalize (⟨(Lib.trimS s.data.toList [32, 9]).toArray⟩ : ByteArray) = r at hT HF
      have HT := Kp.mk hT
      clear hT
      go_wp2_with (go_at_call 112; refine HT.out.mono ?_; rintro e w' ⟨rfl, hb⟩)
      go_ret
      exact ⟨by rw [HF.out]; rfl, hb⟩

/-! ### paths -/
def pathB (m p : ByteArray) : Bool :=
  if m.data.toList = [79, 80, 84, 73, 79, 78, 83] ∧ p.data.toList = [42] then true else Lib.hasPrefix p.data.toList [47] && everyB pathR p

theorem rightPath_any (m p : ByteArray) (hs : p.size ≤ 9223372036854775807) (w : World) :
    Calls Tryz.prog 106 #[.string m, .string p] w fun e w' => e = .returned (.bool (pathB m p)) ∧ Below w.heap.size w w' := by
  have hm0 := ByteArray.toList_eq m
  have hp0 := ByteArray.toList_eq p
  by_cases h1 : m.data.toList = [79, 80, 84, 73, 79, 78, 83]
  · by_cases h2 : p.data.toList = [42]
    · have HF : Kp (pathB m p = true) := ⟨by unfold pathB; rw [if_pos ⟨h1, h2⟩]⟩
      have h1' : m.toList = [79, 80, 84, 73, 79, 78, 83] := by rw [hm0, h1]
      have h2' : p.toList = [42] := by rw [hp0, h2]
      clear h1 h2 hm0 hp0
      go_enter Tryz.func106, Tryz.ntmps106
      go_wp2
      go_ret
      exact ⟨by rw [HF.out]; rfl, Below.refl _ _⟩
    · have HF : Kp (pathB m p = (Lib.hasPrefix p.data.toList [47] && everyB pathR p)) := ⟨by unfold pathB; rw [if_neg (fun h => h2 h.2)]⟩
      have h1' : m.toList = [79, 80, 84, 73, 79, 78, 83] := by rw [hm0, h1]
      have h2' : (p.toList == [42]) = false := by rw [hp0]; simpa using h2
      clear h1 h2 hm0 hp0
      have hpre := Tryz.strings_HasPrefix p ⟨#[47]⟩
      cases h3 : Lib.hasPrefix p.data.toList [47]
      · have H3 := Kp.mk h3
        clear h3
        go_enter Tryz.func106, Tryz.ntmps106
        go_wp2_with (go_at_call 82; refine (hpre _).mono ?_; rintro e w' ⟨rfl, rfl⟩; rw [H3.out])
        go_ret
        exact ⟨by rw [HF.out, H3.out]; rfl, Below.refl _ _⟩
      · have H3 := Kp.mk h3
        clear h3
        go_enter Tryz.func106, Tryz.ntmps106
        go_wp2_with (first | (go_at_call 82; refine (hpre _).mono ?_; rintro e w' ⟨rfl, rfl⟩; rw [H3.out]) | (go_at_call 104; refine (everyPath_any _ hs _).mono ?_; rintro e w' ⟨rfl, hb⟩))
        go_ret
        exact ⟨by rw [HF.out, H3.out]; rfl, hb⟩
  · have HF : Kp (pathB m p = (Lib.hasPrefix p.data.toList [47] && everyB pathR p)) := ⟨by unfold pathB; rw [if_neg (fun h => h1 h.1)]⟩
    have h1' : (m.toList == [79, 80, 84, 73, 79, 78, 83]) = false := by rw [hm0]; simpa using h1
    clear h1 hm0 hp0
    have hpre := Tryz.strings_HasPrefix p ⟨#[47]⟩
    cases h3 : Lib.hasPrefix p.data.toList [47]
    · have H3 := Kp.mk h3
      clear h3
      go_enter Tryz.func106, Tryz.ntmps106
      go_wp2_with (go_at_call 82; refine (hpre _).mono ?_; rintro e w' ⟨rfl, rfl⟩; rw [H3.out])
      go_ret
      exact ⟨by rw [HF.out, H3.out]; rfl, Below.refl _ _⟩
    · have H3 := Kp.mk h3
      clear h3
      go_enter Tryz.func106, Tryz.ntmps106
      go_wp2_with (first | (go_at_call 82; refine (hpre _).mono ?_; rintro e w' ⟨rfl, rfl⟩; rw [H3.out]) | (go_at_call 104; refine (everyPath_any _ hs _).mono ?_; rintro e w' ⟨rfl, hb⟩))
      go_ret
      exact ⟨by rw [HF.out, H3.out]; rfl, hb⟩

/-! ### lengths -/
def numB (l : List UInt8) : Int := l.foldl (fun n c => 10 * n + ((c.toNat : Int) - 48)) 0
def lengthB (s : ByteArray) : Option Int := if s.size ≤ 15 ∧ everyB dgR s = true then some (numB s.data.toList) else none

theorem numB_take_succ (s : ByteArray) (k : Nat) (h : k < s.size) : numB (s.data.toList.take (k + 1)) = 10 * numB (s.data.toList.take k) + (((s[k]'h).toNat : Int) - 48) := by
  unfold numB
  rw [List.take_succ_eq_append_getElem (by simpa using h), List.foldl_append]
  rfl

theorem dg_at (s : ByteArray) (h : allB dgR s.data.toList = true) (k : Nat) (hk : k < s.size) : 48 ≤ (s[k]'hk).toNat ∧ (s[k]'hk).toNat ≤ 57 := by
  unfold allB at h
  rw [List.all_eq_true] at h
  have h1 := h (s[k]'hk) (by show s.data[k] ∈ _; simp)
  simp [dgR] at h1
  omega

theorem numB_bound (s : ByteArray) (h : allB dgR s.data.toList = true) : ∀ k : Nat, k ≤ s.size → 0 ≤ numB (s.data.toList.take k) ∧ numB (s.data.toList.take k) < 10 ^ k
  | 0, _ => by simp [numB]
  | k + 1, hk => by
    obtain ⟨h1, h2⟩ := numB_bound s h k (by omega)
    have h3 := dg_at s h k (by omega)
    rw [numB_take_succ s k (by omega), Int.pow_succ]
    omega

def lenVal : Option Int → Value
  | some n => .tuple #[.int .i64 n, .bool true]
  | none => .tuple #[.int .i64 0, .bool false]

theorem length_any (s : ByteArray) (hs : s.size ≤ 9223372036854775807) (w : World) :
    Calls Tryz.prog 102 #[.string s] w fun e w' => e = .returned (lenVal (lengthB s)) ∧ Below w.heap.size w w' := by
  by_cases h1 : s.size ≤ 15
  · cases h2 : everyB dgR s
    · have HF : Kp (lengthB s = none) := ⟨by unfold lengthB; rw [if_neg (by simp [h2])]⟩
      have H2 := Kp.mk h2
      clear h2
      go_enter Tryz.func102, Tryz.ntmps102
      go_wp2_with (go_at_call 104; refine (everyDigit_any _ hs _).mono ?_; rintro e w' ⟨rfl, hb⟩; rw [H2.out]; have HB := Kp.mk hb; clear hb)
      go_ret2
      exact ⟨by rw [HF.out]; rfl, HB.out⟩
    · have HF : Kp (lengthB s = some (numB s.data.toList)) := ⟨by unfold lengthB; rw [if_pos ⟨h1, h2⟩]⟩
      have H2 := Kp.mk h2
      clear h2
      go_enter Tryz.func102, Tryz.ntmps102
      go_wp2_with (go_at_call 104; refine (everyDigit_any _ hs _).mono ?_; rintro e w' ⟨rfl, hb⟩; rw [H2.out]; have HB := Kp.mk hb; clear hb)
      have hall : allB dgR s.data.toList = true := by
        have h3 := H2.out
        unfold everyB at h3
        rw [Bool.and_eq_true] at h3
        exact h3.1
      have HA := Kp.mk hall
      clear hall
      go_loopw [4] (fun v wr => ∃ k : Nat, k ≤ s.size ∧ v = .int .i64 (numB (s.data.toList.take k)) ∧ Kp (wr.heap[w'.heap.size]? = some (.stringIter s k)) ∧ Kp (Below w.heap.size w wr)) (fun _ wr => s.size - wr.iterPos w'.heap.size)
      case atStart => exact ⟨0, Nat.zero_le _, rfl, ⟨World.iter_heap _ _ _⟩, ⟨HB.out.alloc HB.out.size _⟩⟩
      case round =>
        obtain ⟨k, hk, rfl, HI, HB2⟩ := hrel
        have hpos : wr.iterPos w'.heap.size = k := by simp [World.iterPos, HI.out]
        have HPOS := Kp.mk hpos
        clear hpos
        by_cases hp1 : k < s.size
        · have hd := dg_at s HA.out k hp1
          have hnx : ∀ ty, (Instr.next (.pointer (some ⟨w'.heap.size, 0, none⟩)) true ty).run Tryz.prog wr = _ := fun ty => Lib.run_next_ascii_at wr w'.heap.size s k ty HI.out hp1 (by omega)
          have hb0 : 0 ≤ numB (s.data.toList.take k) := (numB_bound s HA.out k hk).1
          have hb1 : numB (s.data.toList.take k) ≤ 100000000000000 := by
            have h4 := (numB_bound s HA.out k hk).2
            have h5 : (10 : Int) ^ k ≤ 10 ^ 14 := by
              have : (10 : Nat) ^ k ≤ 10 ^ 14 := Nat.pow_le_pow_right (by omega) (by omega)
              exact_mod_cast this
            omega
          have HE := Kp.mk (numB_take_succ s k hp1)
          go_wp2
          have hI2 := Lib.iterAt_heap wr w'.heap.size s k (k + 1) HI.out
          go_roundw
          case rel => exact ⟨k + 1, by omega, by rw [HE.out], ⟨hI2⟩, ⟨Lib.below_iterAt HB2.out HB.out.size s _⟩⟩
          case measure =>
            have h1 : (wr.iterAt w'.heap.size s (k + 1)).iterPos w'.heap.size = k + 1 := by simp [World.iterPos, hI2]
            rw [h1, HPOS.out]; omega
        · have hnx : ∀ ty, (Instr.next (.pointer (some ⟨w'.heap.size, 0, none⟩)) true ty).run Tryz.prog wr = _ := fun ty => Lib.run_next_end_at wr w'.heap.size s k ty HI.out hp1
          go_wp2
          go_ret2
          refine ⟨?_, HB2.out⟩
          rw [HF.out, List.take_of_length_le (by first | (simp; done) | (simp; omega))]
          rfl
  · have HF : Kp (lengthB s = none) := ⟨by unfold lengthB; rw [if_neg (by omega)]⟩
    go_enter Tryz.func102, Tryz.ntmps102
    go_wp2
    go_ret2
    exact ⟨by rw [HF.out]; rfl, Below.refl _ _⟩

/-! ### fields that belong to a connection -/
def hopB (n v : List UInt8) : Bool :=
  n == [99, 111, 110, 110, 101, 99, 116, 105, 111, 110] || n == [107, 101, 101, 112, 45, 97, 108, 105, 118, 101] || n == [112, 114, 111, 120, 121, 45, 99, 111, 110, 110, 101, 99, 116, 105, 111, 110] ||
    n == [116, 114, 97, 110, 115, 102, 101, 114, 45, 101, 110, 99, 111, 100, 105, 110, 103] || n == [117, 112, 103, 114, 97, 100, 101] || (n == [116, 101] && v != [116, 114, 97, 105, 108, 101, 114, 115])

theorem hop_any (n v : ByteArray) (w : World) :
    Calls Tryz.prog 85 #[.agg #[.string n, .string v]] w fun e w' => e = .returned (.bool (hopB n.data.toList v.data.toList)) ∧ Below w.heap.size w w' := by
  have hn0 := ByteArray.toList_eq n
  have hv0 := ByteArray.toList_eq v
  rw [← hn0, ← hv0]
  clear hn0 hv0
  go_enter Tryz.func85, Tryz.ntmps85
  go_wp2
  all_goals
    go_ret
    refine ⟨?_, (Below.refl _ _).alloc (Nat.le_refl _) _⟩
    first | (simp_all [hopB]; done) | (simp_all [hopB, bne]; done)

end Go.Proofs.YtaaofanhjolikaaGreatDoor.Msg
