/- slices.Sorted(maps.Keys(m)) as a call of the machine of names: at a map of relay's with at most one entry. -/
import Derived.Test.YtaaofanhjolikaaGreatDoorSxHook
import Derived.Test.YtaaofanhjolikaaGreatDoorShelf3
set_option autoImplicit false
set_option relaxedAutoImplicit false
set_option linter.unusedVariables false
namespace Go.Proofs.YtaaofanhjolikaaGreatDoor.Sx
open Go Go.RowKit Go.Maps Go.Sort Go.Shelf Go.Proofs

theorem sortsI (m : Nat) : AnyZI.SortsIn Tryz.prog Tryz.sortedI_ren Fence.wide m :=
  ⟨fun blk off cap ss W hH hblk hsz => callsIn_wide.2 (AnyM.slices_Sort_int Tryz.sortI blk off cap ss W hH hblk hsz),
   fun p cap W => callsIn_wide.2 (AnyM.slices_Sort_int_none Tryz.sortI p cap W)⟩

def R0 : Value → Option (DataW Unit × List MemPlace) := fun _ => some (.nil, [])

/-- what comes: a new row of the keys, sorted -/
def SortedPost (w : World) (S : List Int → Prop) (e : Ending) (w' : World) : Prop :=
  ∃ (v : Value) (ss : List Int), e = .returned v ∧ S ss ∧ w'.ownsRow w.heap.size 3 1 v ss.length ((ss.mergeSort (fun x y => decide (x ≤ y))).map encZ) ∧ (v = .slice none 0 0 ↔ ss = []) ∧ Below w.heap.size w w'

theorem sorted_E (Bm b nn : Nat) (D0 : DataW Unit) (w : World) (hm : w.cell? ⟨Bm, 0, none⟩ = some (.map (some b))) (hown : w.ownsMap Tryz.prog 3 R0 b nn D0) (hmax : Maps.size D0 ≤ maxLen) (hbytes : Maps.size D0 * 8 ≤ 140737488355328) :
    Calls Tryz.prog 36 #[.func (.func 69) #[] #[.pointer (some ⟨Bm, 0, none⟩)]] w (SortedPost w fun ss => ss.Perm (intKeys D0)) := by
  refine (callsIn_wide (n := 5)).1 ?_
  have hBm : Bm < w.heap.size := by simpa using World.block_lt_of_cell? w ⟨Bm, 0, none⟩ hm
  have hseq : SeqGives Fence.wide 2 Tryz.prog 69 #[.pointer (some ⟨Bm, 0, none⟩)] encZ (fun ss => ss.Perm (intKeys D0)) (Maps.size D0) w :=
    AnyZI.keys_gives (ρ := Tryz.keysE_ren) Tryz.keysE Fence.wide 2 trivial rfl (by omega) Bm b nn D0 w hBm hm hown
  exact AnyZI.sorted_in (ρ := Tryz.sortedI_ren) Tryz.sortedI Fence.wide 5 trivial trivial trivial trivial rfl (by omega) (sortsI _) (enters_of Tryz.func68 (by kernel_rfl) rfl) _ _ trivial (enters_of Tryz.func69 (by kernel_rfl) rfl) _ _ hmax hbytes w hseq

theorem sorted_L (Bm b nn : Nat) (D0 : DataW Unit) (w : World) (hm : w.cell? ⟨Bm, 0, none⟩ = some (.map (some b))) (hown : w.ownsMap Tryz.prog 3 R0 b nn D0) (hmax : Maps.size D0 ≤ maxLen) (hbytes : Maps.size D0 * 8 ≤ 140737488355328) :
    Calls Tryz.prog 36 #[.func (.func 70) #[] #[.pointer (some ⟨Bm, 0, none⟩)]] w (SortedPost w fun ss => ss.Perm (intKeys D0)) := by
  refine (callsIn_wide (n := 5)).1 ?_
  have hBm : Bm < w.heap.size := by simpa using World.block_lt_of_cell? w ⟨Bm, 0, none⟩ hm
  have hseq : SeqGives Fence.wide 2 Tryz.prog 70 #[.pointer (some ⟨Bm, 0, none⟩)] encZ (fun ss => ss.Perm (intKeys D0)) (Maps.size D0) w :=
    AnyZI.keys_gives (ρ := Tryz.keysL_ren) Tryz.keysL Fence.wide 2 trivial rfl (by omega) Bm b nn D0 w hBm hm hown
  exact AnyZI.sorted_in (ρ := Tryz.sortedI_ren) Tryz.sortedI Fence.wide 5 trivial trivial trivial trivial rfl (by omega) (sortsI _) (enters_of Tryz.func68 (by kernel_rfl) rfl) _ _ trivial (enters_of Tryz.func70 (by kernel_rfl) rfl) _ _ hmax hbytes w hseq

def keyZ (k : Int) : Bool := (Lit.int .i64 k).wf
def sortedHk : Cl := fun f args h nx =>
  match f, args with
  | 36, [.fn g [.ptr n 0]] => if g == 69 || g == 70 then
    match h.get n with
    | some (.cells (.map m :: _) none) => match h.get m with
        | some (.mp [] _) => some (.sl0, h, nx)
        | some (.mp [(.int .i64 k, _, b)] c) => if keyZ k && Nat.blt b c then some (.sl nx 0 1 (.op 0), h.set nx (.cells [.int .i64 k] (some 1)), nx + 1) else none
        | _ => none
    | _ => none
    else none
  | _, _ => none

theorem fit_none (clock : Nat) : Go.WideElems.Fit Tryz.prog 3 R0 #[] clock := ⟨by simp, Go.MapKept.stamped_empty clock, by simp⟩
theorem fit_one {k : Int} {x : Value} {b clock : Nat} (hk : keyZ k = true) (hb : b < clock) : Go.WideElems.Fit Tryz.prog 3 R0 #[⟨.int .i64 k, x, b⟩] clock := by
  refine ⟨by simp [maxLen], ⟨by simpa using hb, by simp, by simp⟩, fun y hy => ?_⟩
  simp at hy; subst hy
  exact ⟨_, Go.WideElems.rd_mk (keyOf_int_mk Tryz.underlying3 hk) (show R0 x = some (.nil, []) from rfl)⟩

theorem sortedHk_sound {G : Nat} : ClSound Tryz.prog G sortedHk := by
  intro f args h nx r h' nx' he
  unfold sortedHk at he
  split at he
  · rename_i g n
    split at he
    · rename_i hgg
      refine ⟨?_, enters_of Tryz.func36 (by kernel_rfl) rfl, fun v w ar c hg has hf => ?_⟩
      · repeat' (split at he)
        all_goals first | (cases he; done) | (injection he with he; injection he with _ he; injection he with _ he; omega)
      split at he
      · rename_i m l hl
        obtain ⟨y0, l0, h0, h1, rfl⟩ := denL_cons has
        simp only [denL] at h1; injection h1 with h1; subst h1
        obtain ⟨b, hbk, pre, vs, rest, e, lo, hi, hob, hdl, hp, hfz, hopn⟩ := c.ok n _ hl
        obtain ⟨a0, t0, ha0, ht0, hvs⟩ := denL_cons hdl
        subst hvs
        have hbas : v.bas n = 0 := hopn.2 rfl
        have hpre : pre = [] := List.eq_nil_of_length_eq_zero (by omega)
        subst hpre
        simp only [den, denL, hbk, hbas, Nat.add_zero] at h0
        injection h0 with h0; subst h0
        have hcell : w.cell? ⟨b, 0, none⟩ = some a0 := by simp [World.cell?, hob]
        simp only [den] at ha0
        cases hmb : v.blk m with
        | none => rw [hmb] at ha0; cases ha0
        | some mb =>
          rw [hmb] at ha0; injection ha0 with ha0; subst ha0
          have hsort : ∀ (nn : Nat) (D0 : DataW Unit), w.ownsMap Tryz.prog 3 R0 mb nn D0 → Maps.size D0 ≤ maxLen → Maps.size D0 * 8 ≤ 140737488355328 →
              Calls Tryz.prog 36 #[.func (.func g) #[] #[.pointer (some ⟨b, 0, none⟩)]] w (SortedPost w fun ss => ss.Perm (intKeys D0)) := by
            intro nn D0 hown h1 h2
            simp only [Bool.or_eq_true, beq_iff_eq] at hgg
            rcases hgg with rfl | rfl
            · exact sorted_E b mb nn D0 w hcell hown h1 h2
            · exact sorted_L b mb nn D0 w hcell hown h1 h2
          split at he
          · rename_i clock hm
            injection he with he; injection he with e1 e2; injection e2 with e2 e3
            subst e1; subst e2; subst e3
            obtain ⟨mb', hmb', es, hes, hobm⟩ := c.ok m _ hm
            rw [hmb] at hmb'; injection hmb' with hmb'; subst hmb'
            simp only [denE] at hes; injection hes with hes; subst hes
            have hown : w.ownsMap Tryz.prog 3 R0 mb 0 (.map []) := ⟨#[], clock, hobm, fit_none clock, by simp, by simp⟩
            refine Calls.mono (hsort 0 _ hown (by simp [Maps.size]) (by simp [Maps.size])) ?_
            rintro e2 w' ⟨u, ss, rfl, hS, hrow, hnil, hbl⟩
            have hss : ss = [] := by simpa [intKeys] using hS
            obtain rfl := hnil.2 hss
            exact post_plain c hf hbl rfl
          · rename_i k x bn clock hm
            split at he
            · rename_i hk
              simp only [Bool.and_eq_true] at hk
              injection he with he; injection he with e1 e2; injection e2 with e2 e3
              subst e1; subst e2; subst e3
              obtain ⟨mb', hmb', es, hes, hobm⟩ := c.ok m _ hm
              rw [hmb] at hmb'; injection hmb' with hmb'; subst hmb'
              simp only [denE, den] at hes
              cases hx : den v x with
              | none => rw [hx] at hes; cases hes
              | some xv =>
                rw [hx] at hes; injection hes with hes; subst hes
                have hkn : bn < clock := by have := hk.2; simp [Nat.blt] at this; omega
                have hF := fit_one (x := xv) hk.1 hkn
                have hD : (#[(⟨.int .i64 k, xv, bn⟩ : MapEntry)].toList.map (Go.WideElems.rg Tryz.prog 3 R0)).foldr DataW.insert [] = [(Lit.int .i64 k, DataW.nil)] := by
                  simp only [List.map_cons, List.map_nil, List.foldr_cons, List.foldr_nil]
                  rw [Go.WideElems.rg_of (Go.WideElems.rd_mk (keyOf_int_mk Tryz.underlying3 hk.1) (show R0 xv = some (.nil, []) from rfl))]
                  rfl
                have hown : w.ownsMap Tryz.prog 3 R0 mb 1 (.map [(Lit.int .i64 k, DataW.nil)]) := ⟨_, clock, hobm, hF, by simp, by rw [← hD]⟩
                refine Calls.mono (hsort 1 _ hown (by simp [Maps.size, maxLen]) (by simp [Maps.size])) ?_
                rintro e2 w' ⟨u, ss, rfl, hS, hrow, hnil, hbl⟩
                have hss : ss = [k] := by
                  have : intKeys (DataW.map [(Lit.int .i64 k, DataW.nil (H := Unit))]) = [k] := rfl
                  rw [this] at hS
                  exact List.perm_singleton.1 hS
                subst hss
                rcases hrow.2 with ⟨h1, h2⟩ | ⟨gb, cap, cur, rfl, hge, hob2, hn1, hcm, hcs, htk⟩
                · simp at h2
                · have hcur : cur.toList = [.int .i64 k] ++ cur.toList.drop 1 := by
                    have : cur.toList.take 1 = [.int .i64 k] := by simpa using htk
                    rw [← this, List.take_append_drop]
                  refine post_new (bas := 0) (tot := cap) c hf hbl hge ⟨[], [.int .i64 k], cur.toList.drop 1, 3, 0, 0, ?_, rfl, by simp [Val.name], ⟨Nat.le_refl 0, fun k _ => by omega⟩, fun sz hs => ?_, fun e => by cases e⟩ ?_
                  · rw [hob2, List.nil_append, ← hcur]
                  · injection hs with hs; subst hs
                    have h1 : (v.name nx gb 0 cap).tot nx = cap := by simp [Val.name]
                    rw [h1]
                    simp at hcs hn1 ⊢
                    omega
                  · have h1 : (v.name nx gb 0 cap).tot nx = cap := by simp [Val.name]
                    have h2 : (v.name nx gb 0 cap).blk nx = some gb := Val.name_blk
                    have h3 : (v.name nx gb 0 cap).bas nx = 0 := by simp [Val.name]
                    have h4 : 0 + 1 ≤ cap := by simpa using hn1
                    simp [den, Cp.den, h1, h2, h3, h4]
            · cases he
          · cases he
      · cases he
    · cases he
  · cases he
end Go.Proofs.YtaaofanhjolikaaGreatDoor.Sx
