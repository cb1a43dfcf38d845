/- message.Check as a call of the machine of names: at the fields of a request of a given method. -/
import Derived.Test.YtaaofanhjolikaaGreatDoorSxHook
import Derived.Test.YtaaofanhjolikaaGreatDoorMsgChk
set_option autoImplicit false
set_option relaxedAutoImplicit false
set_option linter.unusedVariables false
namespace Go.Proofs.YtaaofanhjolikaaGreatDoor.Sx
open Go Go.RowKit Go.Proofs.YtaaofanhjolikaaGreatDoor.Msg

def getV (m : List UInt8) : List V := [.str [58, 109, 101, 116, 104, 111, 100], .str m, .str [58, 115, 99, 104, 101, 109, 101], .str [104, 116, 116, 112, 115], .str [58, 97, 117, 116, 104, 111, 114, 105, 116, 121], .str [97, 46, 98], .str [58, 112, 97, 116, 104], .str [47]]
def getF (m : List UInt8) : List Fl := [⟨⟨#[58, 109, 101, 116, 104, 111, 100]⟩, ⟨m.toArray⟩⟩, ⟨⟨#[58, 115, 99, 104, 101, 109, 101]⟩, ⟨#[104, 116, 116, 112, 115]⟩⟩, ⟨⟨#[58, 97, 117, 116, 104, 111, 114, 105, 116, 121]⟩, ⟨#[97, 46, 98]⟩⟩, ⟨⟨#[58, 112, 97, 116, 104]⟩, ⟨#[47]⟩⟩]
def getSt (m : List UInt8) : PSt := ⟨[(⟨#[58, 109, 101, 116, 104, 111, 100]⟩, ⟨m.toArray⟩), (⟨#[58, 115, 99, 104, 101, 109, 101]⟩, ⟨#[104, 116, 116, 112, 115]⟩), (⟨#[58, 97, 117, 116, 104, 111, 114, 105, 116, 121]⟩, ⟨#[97, 46, 98]⟩), (⟨#[58, 112, 97, 116, 104]⟩, ⟨#[47]⟩)], [], false, ⟨m.toArray⟩, ⟨#[104, 116, 116, 112, 115]⟩, ⟨#[97, 46, 98]⟩, ⟨#[47]⟩, [], -1⟩
def limV : V := .agg [.int .i64 50, .int .i64 4000]

def ckHk (m : List UInt8) : Cl := fun f args h nx =>
  match f, args with
  | 44, [.sl n o 4 _, lim] => match h.get n with
    | some (.cells l _) => if V.beq lim limV && V.beqL ((l.drop o).take 8) (getV m) then some (.tup [.agg [.str m, .str [104, 116, 116, 112, 115], .str [97, 46, 98], .str [47], .sl0, .int .i64 (-1)], .int .i64 0], h, nx) else none
    | _ => none
  | _, _ => none

theorem Addr.add_plain (b o j : Nat) : (⟨b, o, none⟩ : Addr).add j = ⟨b, o + j, none⟩ := by unfold Addr.add; split <;> simp_all

theorem ckHk_sound (m : List UInt8) (hm : m.length ≤ 9223372036854775807) (hck : checkF (getF m) 50 4000 = .ok (getSt m)) {G : Nat} : ClSound Tryz.prog G (ckHk m) := by
  intro f args h nx r h' nx' he
  unfold ckHk at he
  split at he
  · rename_i n o cp lim
    split at he
    · rename_i l opn hl
      split at he
      · rename_i hb
        simp only [Bool.and_eq_true] at hb
        obtain rfl := V.beq_eq hb.1
        have hb2 := V.beqL_eq hb.2
        injection he with he
        injection he with e1 e2; injection e2 with e2 e3
        subst e1; subst e2; subst e3
        refine ⟨Nat.le_refl _, enters_of Tryz.func44 (by kernel_rfl) rfl, fun v w ar c hg has hf => ?_⟩
        obtain ⟨b, vs, hbk, hvs, hat⟩ := c.blk hl
        obtain ⟨y0, l0, h0, h1, rfl⟩ := denL_cons has
        obtain ⟨y1, l1, h2, h3, rfl⟩ := denL_cons h1
        simp only [denL] at h3; injection h3 with h3; subst h3
        simp only [limV, den, denL] at h2; injection h2 with h2; subst h2
        simp only [den, hbk] at h0
        cases hcp : cp.den v n 4 with
        | none => rw [hcp] at h0; cases h0
        | some q =>
          rw [hcp] at h0; injection h0 with h0; subst h0
          have hget : ∀ j u, (getV m)[j]? = some u → ∃ z, den v u = some z ∧ w.cell? ⟨b, v.bas n + (o + j), none⟩ = some z := by
            intro j u hu
            have hu' : l[o + j]? = some u := by
              rw [← hb2] at hu
              have hj8 : j < 8 := by
                have := (List.getElem?_eq_some_iff.1 hu).1
                simp at this; omega
              rw [List.getElem?_take_of_lt hj8, List.getElem?_drop] at hu
              exact hu
            obtain ⟨z, hz, hz2⟩ := denL_get (o + j) hvs hu'
            exact ⟨z, hz, hat _ _ hz2⟩
          have hstr : ∀ j s, (getV m)[j]? = some (.str s) → w.cell? ⟨b, v.bas n + (o + j), none⟩ = some (.string ⟨s.toArray⟩) := fun j s hu => by
            obtain ⟨z, hz, hz2⟩ := hget j _ hu
            simp only [den] at hz; injection hz with hz; subst hz; exact hz2
          have hfs : FsAt w (some ⟨b, v.bas n + o, none⟩) (getF m) := by
            refine ⟨fun k hk => ⟨_, rfl, ?_, ?_⟩, show (4 + 1) * 32 ≤ 140737488355328 by decide⟩
            · rw [Addr.add_plain, Nat.add_assoc]
              have hk4 : k < 4 := hk
              have : k = 0 ∨ k = 1 ∨ k = 2 ∨ k = 3 := by omega
              rcases this with rfl | rfl | rfl | rfl <;> exact hstr _ _ rfl
            · rw [Addr.add_plain]
              have hk4 : k < 4 := hk
              have : k = 0 ∨ k = 1 ∨ k = 2 ∨ k = 3 := by omega
              rcases this with rfl | rfl | rfl | rfl <;> (simp only [Nat.add_assoc]; exact hstr _ _ rfl)
          have hsz : ∀ f ∈ getF m, f.n.size ≤ 9223372036854775807 ∧ f.v.size ≤ 9223372036854775807 := by
            intro f hf
            simp only [getF, List.mem_cons, List.not_mem_nil, or_false] at hf
            rcases hf with rfl | rfl | rfl | rfl
            · exact ⟨show 7 ≤ 9223372036854775807 by decide, by simpa [ByteArray.size] using hm⟩
            · exact ⟨by decide, by decide⟩
            · exact ⟨by decide, by decide⟩
            · exact ⟨by decide, by decide⟩
          have hcall := check_any (cp := q) (c := 50) (s := 4000) hfs hsz
          rw [hck] at hcall
          refine Calls.mono hcall ?_
          rintro e w' ⟨fv, rfl, hrow, hbl, hnil⟩
          obtain rfl := hnil rfl
          exact post_plain c hf hbl rfl
      · cases he
    · cases he
  · cases he
end Go.Proofs.YtaaofanhjolikaaGreatDoor.Sx
