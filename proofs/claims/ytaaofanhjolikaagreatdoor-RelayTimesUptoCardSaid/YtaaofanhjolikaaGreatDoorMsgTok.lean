/- The contracts of message's questions on tokens, names, paths and authorities: hasRune, tokenRune, the literals, rightName, rightPath, rightAuthority. -/
import Derived.Test.YtaaofanhjolikaaGreatDoorMsgRunes
import Derived.Test.YtaaofanhjolikaaGreatDoorShelf
set_option linter.unusedVariables false
set_option linter.unusedSimpArgs false
namespace Go.Proofs.YtaaofanhjolikaaGreatDoor.Msg
open Go.RowKit

/-- hasRune at a text of bytes below 128. -/
def runesOf (s : ByteArray) : List Int := s.data.toList.map fun c => (c.toNat : Int)

theorem runesOf_take_succ (s : ByteArray) (k : Nat) (h : k < s.size) : (runesOf s).take (k + 1) = (runesOf s).take k ++ [((s[k]'h).toNat : Int)] := by
  unfold runesOf
  rw [← List.map_take, ← List.map_take, List.take_succ_eq_append_getElem (by simpa using h), List.map_append]
  rfl

theorem hasRune_any (s : ByteArray) (hs : ∀ (k : Nat) (h : k < s.size), (s[k]'h).toNat < 128) (hsz : s.size ≤ 9223372036854775807) (r : Int) (w : World) :
    Calls Tryz.prog 143 #[.string s, .int .i32 r] w fun e w' => e = .returned (.bool ((runesOf s).contains r)) ∧ Below w.heap.size w w' := by
  have HS := Kp.mk hs
  clear hs
  go_enter Tryz.func143, Tryz.ntmps143
  go_wp2
  go_loopw [4] (fun v wr => v = .bool false ∧ ∃ pos, pos ≤ s.size ∧ Kp (wr.heap[w.heap.size]? = some (.stringIter s pos)) ∧ Kp (((runesOf s).take pos).contains r = false) ∧ Kp (Below w.heap.size w wr)) (fun _ wr => s.size - wr.iterPos w.heap.size)
  case atStart => exact ⟨rfl, 0, Nat.zero_le _, ⟨World.iter_heap _ _ _⟩, ⟨rfl⟩, ⟨(Below.refl _ _).alloc (Nat.le_refl _) _⟩⟩
  case round =>
    obtain ⟨rfl, pos, hle, HI, HP, HB⟩ := hrel
    have hpos : wr.iterPos w.heap.size = pos := by simp [World.iterPos, HI.out]
    have HPOS := Kp.mk hpos
    clear hpos
    by_cases hp1 : pos < s.size
    · have hnx : ∀ ty, (Instr.next (.pointer (some ⟨w.heap.size, 0, none⟩)) true ty).run Tryz.prog wr = _ := fun ty => Lib.run_next_ascii_at wr w.heap.size s pos ty HI.out hp1 (HS.out pos hp1)
      by_cases hq : ((s[pos]'hp1).toNat : Int) = r
      · have hfin : (runesOf s).contains r = true := by
          rw [List.contains_iff_mem]
          unfold runesOf
          rw [List.mem_map]
          exact ⟨s[pos]'hp1, by show s.data[pos] ∈ _; simp, hq⟩
        have HF := Kp.mk hfin
        have hq2 : (((s[pos]'hp1).toNat : Int) == r) = true := by simpa using hq
        clear hq hfin
        go_wp2
        go_ret
        exact ⟨by rw [HF.out]; rfl, below_at HB.out (Nat.le_refl _) s _⟩
      · have hq2 : (((s[pos]'hp1).toNat : Int) == r) = false := by simpa using hq
        have HQ := Kp.mk hq
        clear hq
        go_wp2
        have hI2 := Lib.iterAt_heap wr w.heap.size s pos (pos + 1) HI.out
        go_roundw
        case rel =>
          refine ⟨rfl, pos + 1, by omega, ⟨hI2⟩, ⟨?_⟩, ⟨below_at HB.out (Nat.le_refl _) s _⟩⟩
          rw [runesOf_take_succ s pos hp1, ← Bool.not_eq_true, List.contains_iff_mem, List.mem_append]
          have h1 := HP.out
          rw [← Bool.not_eq_true, List.contains_iff_mem] at h1
          rintro (h | h)
          · exact h1 h
          · simp at h; exact HQ.out h.symm
        case measure =>
          have h1 : (wr.iterAt w.heap.size s (pos + 1)).iterPos w.heap.size = pos + 1 := by simp [World.iterPos, hI2]
          rw [h1, HPOS.out]; omega
    · have hnx : ∀ ty, (Instr.next (.pointer (some ⟨w.heap.size, 0, none⟩)) true ty).run Tryz.prog wr = _ := fun ty => Lib.run_next_end_at wr w.heap.size s pos ty HI.out hp1
      go_wp2
      go_ret
      refine ⟨?_, HB.out⟩
      have hpe : pos = s.size := by omega
      have h2 := HP.out
      rw [hpe, List.take_of_length_le (by simp [runesOf])] at h2
      rw [h2]
      rfl

theorem special_any (r : Int) (w : World) :
    Calls Tryz.prog 143 #[.string ⟨#[33, 35, 36, 37, 38, 39, 42, 43, 45, 46, 94, 95, 124, 126, 96]⟩, .int .i32 r] w fun e w' => e = .returned (.bool (specR r)) ∧ Below w.heap.size w w' := by
  have h := hasRune_any ⟨#[33, 35, 36, 37, 38, 39, 42, 43, 45, 46, 94, 95, 124, 126, 96]⟩ (by decide) (by decide) r w
  exact h

theorem tokenRune_any (r : Int) (w : World) :
    Calls Tryz.prog 105 #[.int .i32 r] w fun e w' => e = .returned (.bool (tokR r)) ∧ Below w.heap.size w w' := by
  have hT : tokR r = (loR r || upR r || dgR r || (decide (r < 128) && specR r)) := rfl
  cases h1 : loR r
  · cases h2 : upR r
    · cases h3 : dgR r
      · by_cases h4 : r < 128
        · have HT : Kp (tokR r = specR r) := ⟨by rw [hT, h1, h2, h3]; simp [h4]⟩
          have H1 := Kp.mk h1; have H2 := Kp.mk h2; have H3 := Kp.mk h3
          clear h1 h2 h3 hT
          go_enter Tryz.func105, Tryz.ntmps105
          go_wp2_with (first | (go_at_call 142; refine (lower_any _ _).mono ?_; rintro e w' ⟨rfl, rfl⟩; rw [H1.out]) | (go_at_call 111; refine (upper_any _ _).mono ?_; rintro e w' ⟨rfl, rfl⟩; rw [H2.out]) | (go_at_call 141; refine (digit_any _ _).mono ?_; rintro e w' ⟨rfl, rfl⟩; rw [H3.out]) | (go_at_call 143; refine (special_any _ _).mono ?_; rintro e w' ⟨rfl, hb⟩))
          go_ret
          exact ⟨by rw [HT.out]; rfl, hb⟩
        · have HT : Kp (tokR r = false) := ⟨by rw [hT, h1, h2, h3]; simp [h4]⟩
          have H1 := Kp.mk h1; have H2 := Kp.mk h2; have H3 := Kp.mk h3
          clear h1 h2 h3 hT
          have h4' : decide (r < 128) = false := by simpa using h4
          go_enter Tryz.func105, Tryz.ntmps105
          go_wp2_with (first | (go_at_call 142; refine (lower_any _ _).mono ?_; rintro e w' ⟨rfl, rfl⟩; rw [H1.out]) | (go_at_call 111; refine (upper_any _ _).mono ?_; rintro e w' ⟨rfl, rfl⟩; rw [H2.out]) | (go_at_call 141; refine (digit_any _ _).mono ?_; rintro e w' ⟨rfl, rfl⟩; rw [H3.out]))
          go_ret
          exact ⟨by rw [HT.out]; rfl, Below.refl _ _⟩
      · have HT : Kp (tokR r = true) := ⟨by rw [hT, h1, h2, h3]; rfl⟩
        have H1 := Kp.mk h1; have H2 := Kp.mk h2; have H3 := Kp.mk h3
        clear h1 h2 h3 hT
        go_enter Tryz.func105, Tryz.ntmps105
        go_wp2_with (first | (go_at_call 142; refine (lower_any _ _).mono ?_; rintro e w' ⟨rfl, rfl⟩; rw [H1.out]) | (go_at_call 111; refine (upper_any _ _).mono ?_; rintro e w' ⟨rfl, rfl⟩; rw [H2.out]) | (go_at_call 141; refine (digit_any _ _).mono ?_; rintro e w' ⟨rfl, rfl⟩; rw [H3.out]))
        go_ret
        exact ⟨by rw [HT.out]; rfl, Below.refl _ _⟩
    · have HT : Kp (tokR r = true) := ⟨by rw [hT, h1, h2]; rfl⟩
      have H1 := Kp.mk h1; have H2 := Kp.mk h2
      clear h1 h2 hT
      go_enter Tryz.func105, Tryz.ntmps105
      go_wp2_with (first | (go_at_call 142; refine (lower_any _ _).mono ?_; rintro e w' ⟨rfl, rfl⟩; rw [H1.out]) | (go_at_call 111; refine (upper_any _ _).mono ?_; rintro e w' ⟨rfl, rfl⟩; rw [H2.out]))
      go_ret
      exact ⟨by rw [HT.out]; rfl, Below.refl _ _⟩
  · have HT : Kp (tokR r = true) := ⟨by rw [hT, h1]; rfl⟩
    have H1 := Kp.mk h1
    clear h1 hT
    go_enter Tryz.func105, Tryz.ntmps105
    go_wp2_with (go_at_call 142; refine (lower_any _ _).mono ?_; rintro e w' ⟨rfl, rfl⟩; rw [H1.out])
    go_ret
    exact ⟨by rw [HT.out]; rfl, Below.refl _ _⟩

/-! ### the literals -/
theorem nameLit_any (r : Int) (w : World) :
    Calls Tryz.prog 110 #[.int .i32 r] w fun e w' => e = .returned (.bool (nameR r)) ∧ Below w.heap.size w w' := by
  have hT : nameR r = (tokR r && !upR r) := rfl
  cases h1 : tokR r
  · have HT : Kp (nameR r = false) := ⟨by rw [hT, h1]; rfl⟩
    have H1 := Kp.mk h1
    clear h1 hT
    go_enter Tryz.func110, Tryz.ntmps110
    go_wp2_with (go_at_call 105; refine (tokenRune_any _ _).mono ?_; rintro e w' ⟨rfl, hb⟩; rw [H1.out]; have HB := Kp.mk hb; clear hb)
    go_ret
    exact ⟨by rw [HT.out]; rfl, HB.out⟩
  · have HT : Kp (nameR r = !upR r) := ⟨by rw [hT, h1]; rfl⟩
    have H1 := Kp.mk h1
    clear h1 hT
    go_enter Tryz.func110, Tryz.ntmps110
    go_wp2_with (first | (go_at_call 105; refine (tokenRune_any _ _).mono ?_; rintro e w' ⟨rfl, hb⟩; rw [H1.out]; have HB := Kp.mk hb; clear hb) | (go_at_call 111; refine (upper_any _ _).mono ?_; rintro e w' ⟨rfl, rfl⟩))
    go_ret
    exact ⟨by rw [HT.out]; rfl, HB.out⟩

theorem pathLit_any (r : Int) (w : World) :
    Calls Tryz.prog 144 #[.int .i32 r] w fun e w' => e = .returned (.bool (pathR r)) ∧ Below w.heap.size w w' := by
  have hT : pathR r = (decide (32 < r) && decide (r < 127) && (r != 35)) := rfl
  by_cases h1 : 32 < r
  · by_cases h2 : r < 127
    · have HT : Kp (pathR r = (r != 35)) := ⟨by rw [hT]; simp [h1, h2]⟩
      clear hT
      go_enter Tryz.func144, Tryz.ntmps144
      go_wp2
      go_ret
      exact ⟨by rw [HT.out]; rfl, Below.refl _ _⟩
    · have HT : Kp (pathR r = false) := ⟨by rw [hT]; simp [h1, h2]⟩
      clear hT
      go_enter Tryz.func144, Tryz.ntmps144
      go_wp2
      go_ret
      exact ⟨by rw [HT.out]; simp [Array.getD], Below.refl _ _⟩
  · have HT : Kp (pathR r = false) := ⟨by rw [hT]; simp [h1]⟩
    clear hT
    go_enter Tryz.func144, Tryz.ntmps144
    go_wp2
    go_ret
    exact ⟨by rw [HT.out]; simp [Array.getD], Below.refl _ _⟩

theorem asp_index (r : Int) (h0 : 0 ≤ r) (h1 : r < 128) : decide (0 ≤ Lib.indexByte (⟨#[45, 46, 95, 126, 58, 91, 93, 37]⟩ : ByteArray).data.toList r.toNat.toUInt8) = aspR r := by
  obtain ⟨n, rfl⟩ := Int.eq_ofNat_of_zero_le h0
  have h2 : ∀ m : Fin 128, decide (0 ≤ Lib.indexByte (⟨#[45, 46, 95, 126, 58, 91, 93, 37]⟩ : ByteArray).data.toList (m.val : Int).toNat.toUInt8) = aspR (m.val : Int) := by decide +kernel
  exact h2 ⟨n, by omega⟩

theorem asp_any (r : Int) (h0 : 0 ≤ r) (h1 : r < 128) (w : World) :
    Calls Tryz.prog 146 #[.string ⟨#[45, 46, 95, 126, 58, 91, 93, 37]⟩, .int .i32 r] w fun e w' => e = .returned (.bool (aspR r)) ∧ w = w' :=
  (Tryz.strings_ContainsRune_ascii _ r w h0 h1).mono fun e w' ⟨he, hw⟩ => ⟨by rw [he, asp_index r h0 h1], hw.symm⟩

theorem authLit_any (r : Int) (h0 : 0 ≤ r) (w : World) :
    Calls Tryz.prog 145 #[.int .i32 r] w fun e w' => e = .returned (.bool (authR r)) ∧ Below w.heap.size w w' := by
  have hT : authR r = (loR r || upR r || dgR r || (decide (r < 128) && aspR r)) := rfl
  cases h1 : loR r
  · cases h2 : upR r
    · cases h3 : dgR r
      · by_cases h4 : r < 128
        · have HT : Kp (authR r = aspR r) := ⟨by rw [hT, h1, h2, h3]; simp [h4]⟩
          have H1 := Kp.mk h1; have H2 := Kp.mk h2; have H3 := Kp.mk h3
          clear h1 h2 h3 hT
          go_enter Tryz.func145, Tryz.ntmps145
          go_wp2_with (first | (go_at_call 142; refine (lower_any _ _).mono ?_; rintro e w' ⟨rfl, rfl⟩; rw [H1.out]) | (go_at_call 111; refine (upper_any _ _).mono ?_; rintro e w' ⟨rfl, rfl⟩; rw [H2.out]) | (go_at_call 141; refine (digit_any _ _).mono ?_; rintro e w' ⟨rfl, rfl⟩; rw [H3.out]) | (go_at_call 146; refine (asp_any _ h0 h4 _).mono ?_; rintro e w' ⟨rfl, rfl⟩))
          go_ret
          exact ⟨by rw [HT.out]; rfl, Below.refl _ _⟩
        · have HT : Kp (authR r = false) := ⟨by rw [hT, h1, h2, h3]; simp [h4]⟩
          have H1 := Kp.mk h1; have H2 := Kp.mk h2; have H3 := Kp.mk h3
          clear h1 h2 h3 hT
          have h4' : decide (r < 128) = false := by simpa using h4
          go_enter Tryz.func145, Tryz.ntmps145
          go_wp2_with (first | (go_at_call 142; refine (lower_any _ _).mono ?_; rintro e w' ⟨rfl, rfl⟩; rw [H1.out]) | (go_at_call 111; refine (upper_any _ _).mono ?_; rintro e w' ⟨rfl, rfl⟩; rw [H2.out]) | (go_at_call 141; refine (digit_any _ _).mono ?_; rintro e w' ⟨rfl, rfl⟩; rw [H3.out]))
          go_ret
          exact ⟨by rw [HT.out]; rfl, Below.refl _ _⟩
      · have HT : Kp (authR r = true) := ⟨by rw [hT, h1, h2, h3]; rfl⟩
        have H1 := Kp.mk h1; have H2 := Kp.mk h2; have H3 := Kp.mk h3
        clear h1 h2 h3 hT
        go_enter Tryz.func145, Tryz.ntmps145
        go_wp2_with (first | (go_at_call 142; refine (lower_any _ _).mono ?_; rintro e w' ⟨rfl, rfl⟩; rw [H1.out]) | (go_at_call 111; refine (upper_any _ _).mono ?_; rintro e w' ⟨rfl, rfl⟩; rw [H2.out]) | (go_at_call 141; refine (digit_any _ _).mono ?_; rintro e w' ⟨rfl, rfl⟩; rw [H3.out]))
        go_ret
        exact ⟨by rw [HT.out]; rfl, Below.refl _ _⟩
    · have HT : Kp (authR r = true) := ⟨by rw [hT, h1, h2]; rfl⟩
      have H1 := Kp.mk h1; have H2 := Kp.mk h2
      clear h1 h2 hT
      go_enter Tryz.func145, Tryz.ntmps145
      go_wp2_with (first | (go_at_call 142; refine (lower_any _ _).mono ?_; rintro e w' ⟨rfl, rfl⟩; rw [H1.out]) | (go_at_call 111; refine (upper_any _ _).mono ?_; rintro e w' ⟨rfl, rfl⟩; rw [H2.out]))
      go_ret
      exact ⟨by rw [HT.out]; rfl, Below.refl _ _⟩
  · have HT : Kp (authR r = true) := ⟨by rw [hT, h1]; rfl⟩
    have H1 := Kp.mk h1
    clear h1 hT
    go_enter Tryz.func145, Tryz.ntmps145
    go_wp2_with (go_at_call 142; refine (lower_any _ _).mono ?_; rintro e w' ⟨rfl, rfl⟩; rw [H1.out])
    go_ret
    exact ⟨by rw [HT.out]; rfl, Below.refl _ _⟩

/-! ### every, at each of its questions -/
theorem enter_of {f : FuncId} {fn : Func} {c : Code} (hf : Tryz.prog.funcs[f]? = some fn) (hname : (fn.name == "runtime.NumGoroutine") = false) (hb : fn.body = some c) (args : Array Value) (w : World) : (callFunc f args).run Tryz.prog w = .ok (.enter f args) w := by
  have h1 : fn.name ≠ "runtime.NumGoroutine" := by simpa using hname
  simp [callFunc, hf, h1, hb, mark]

theorem everyTok_any (s : ByteArray) (hs : s.size ≤ 9223372036854775807) (w : World) :
    Calls Tryz.prog 104 #[.string s, .func (.func 105) #[] #[]] w fun e w' => e = .returned (.bool (everyB tokR s)) ∧ Below w.heap.size w w' :=
  every_any tokR (fun _ => tokR_high) _ (enter_of Tryz.func105 (by kernel_rfl) rfl) (fun r W _ _ => tokenRune_any r W) s hs w
theorem everyName_any (s : ByteArray) (hs : s.size ≤ 9223372036854775807) (w : World) :
    Calls Tryz.prog 104 #[.string s, .func (.func 110) #[] #[]] w fun e w' => e = .returned (.bool (everyB nameR s)) ∧ Below w.heap.size w w' :=
  every_any nameR (fun _ => nameR_high) _ (enter_of Tryz.func110 (by kernel_rfl) rfl) (fun r W _ _ => nameLit_any r W) s hs w
theorem everyPath_any (s : ByteArray) (hs : s.size ≤ 9223372036854775807) (w : World) :
    Calls Tryz.prog 104 #[.string s, .func (.func 144) #[] #[]] w fun e w' => e = .returned (.bool (everyB pathR s)) ∧ Below w.heap.size w w' :=
  every_any pathR (fun _ => pathR_high) _ (enter_of Tryz.func144 (by kernel_rfl) rfl) (fun r W _ _ => pathLit_any r W) s hs w
theorem everyAuth_any (s : ByteArray) (hs : s.size ≤ 9223372036854775807) (w : World) :
    Calls Tryz.prog 104 #[.string s, .func (.func 145) #[] #[]] w fun e w' => e = .returned (.bool (everyB authR s)) ∧ Below w.heap.size w w' :=
  every_any authR (fun _ => authR_high) _ (enter_of Tryz.func145 (by kernel_rfl) rfl) (fun r W h _ => authLit_any r h W) s hs w
theorem everyDigit_any (s : ByteArray) (hs : s.size ≤ 9223372036854775807) (w : World) :
    Calls Tryz.prog 104 #[.string s, .func (.func 141) #[] #[]] w fun e w' => e = .returned (.bool (everyB dgR s)) ∧ Below w.heap.size w w' :=
  every_any dgR (fun _ => dgR_high) _ (enter_of Tryz.func141 (by kernel_rfl) rfl) (fun r W _ _ => (digit_any r W).mono fun e w' ⟨he, hw⟩ => ⟨he, by rw [hw]; exact Below.refl _ _⟩) s hs w

theorem rightName_any (s : ByteArray) (hs : s.size ≤ 9223372036854775807) (w : World) :
    Calls Tryz.prog 83 #[.string s] w fun e w' => e = .returned (.bool (everyB nameR s)) ∧ Below w.heap.size w w' := by
  go_enter Tryz.func83, Tryz.ntmps83
  go_wp2_with (go_at_call 104; refine (everyName_any _ hs _).mono ?_; rintro e w' ⟨rfl, hb⟩)
  go_ret
  exact ⟨rfl, hb⟩

theorem rightAuthority_any (s : ByteArray) (hs : s.size ≤ 9223372036854775807) (w : World) :
    Calls Tryz.prog 107 #[.string s] w fun e w' => e = .returned (.bool (everyB authR s)) ∧ Below w.heap.size w w' := by
  go_enter Tryz.func107, Tryz.ntmps107
  go_wp2_with (go_at_call 104; refine (everyAuth_any _ hs _).mono ?_; rintro e w' ⟨rfl, hb⟩)
  go_ret
  exact ⟨rfl, hb⟩

end Go.Proofs.YtaaofanhjolikaaGreatDoor.Msg
