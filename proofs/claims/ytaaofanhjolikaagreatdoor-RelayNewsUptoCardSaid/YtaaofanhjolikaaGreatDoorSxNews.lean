/- turnpikelaw22.RelayNews, run by the machine of names. -/
import Derived.Test.YtaaofanhjolikaaGreatDoorSxAwake
set_option autoImplicit false
set_option relaxedAutoImplicit false
set_option linter.unusedVariables false
namespace Go.Proofs.YtaaofanhjolikaaGreatDoor.Sx
open Go Go.RowKit

noncomputable def entsN : List (Nat × Func) := [(5, Tryz.f5), (10, Tryz.f10), (14, Tryz.f14), (15, Tryz.f15), (16, Tryz.f16), (17, Tryz.f17), (18, Tryz.f18), (22, Tryz.f22), (23, Tryz.f23), (35, Tryz.f35), (37, Tryz.f37), (38, Tryz.f38), (39, Tryz.f39), (43, Tryz.f43), (71, Tryz.f71)]
theorem entsN_ok : OkL Tryz.prog entsN := ⟨⟨Tryz.func5, by kernel_rfl⟩, ⟨Tryz.func10, by kernel_rfl⟩, ⟨Tryz.func14, by kernel_rfl⟩, ⟨Tryz.func15, by kernel_rfl⟩, ⟨Tryz.func16, by kernel_rfl⟩, ⟨Tryz.func17, by kernel_rfl⟩, ⟨Tryz.func18, by kernel_rfl⟩, ⟨Tryz.func22, by kernel_rfl⟩, ⟨Tryz.func23, by kernel_rfl⟩, ⟨Tryz.func35, by kernel_rfl⟩, ⟨Tryz.func37, by kernel_rfl⟩, ⟨Tryz.func38, by kernel_rfl⟩, ⟨Tryz.func39, by kernel_rfl⟩, ⟨Tryz.func43, by kernel_rfl⟩, ⟨Tryz.func71, by kernel_rfl⟩, trivial⟩
noncomputable def tbN : Nat → Option CF := tabOf Tryz.prog Gn entsN
/-- awake, as a call -/
def awHk : Cl := fun f xs h nx => match f, xs with
  | 9, [] => some (.bool true, h, nx)
  | _, _ => none
theorem awHk_sound {G : Nat} : ClSound Tryz.prog G awHk := by
  intro f args h nx r h' nx' he
  unfold awHk at he
  split at he
  · injection he with he; injection he with e1 e2; injection e2 with e2 e3
    subst e1; subst e2; subst e3
    refine ⟨Nat.le_refl _, enters_of Tryz.func9 (by kernel_rfl) rfl, fun v w ar c hg has hf => ?_⟩
    simp only [denL] at has; injection has with has; subst has
    refine Calls.mono (awake_any w) ?_
    rintro e w' ⟨rfl, hb⟩
    exact post_plain c hf hb rfl
  · cases he
def hkN : Cl := fun f xs h nx => match awHk f xs h nx with | some r => some r | none => hkG f xs h nx
theorem hkN_sound : ClSound Tryz.prog Gn hkN := ClSound.orElse awHk_sound hkG_sound
theorem tbN_ok : ∀ f cf, tbN f = some cf → FnOk Tryz.prog Gn f cf := fun f cf h => tabOf_ok entsN_ok h
theorem runsN (lf n : Nat) : ClSound Tryz.prog Gn (evCall tbN hkN lf n) := evCall_sound tbN_ok hkN_sound (by kernel_rfl) n
noncomputable def news (l : List V) : Bool := isT (evCall tbN hkN 1000 60 5 [.agg l] .lf 1000)
def big : Int := 9223372036854775807
def small : Int := -9223372036854775808
/-- the fields of a config: their least and greatest -/
def okF : List V := [.lin 0 0 1 16, .lin 0 1 1 16, .lin 0 2 0 256, .lin 0 3 1 1048576, .lin 0 4 1 100, .lin 0 5 1 1048576, .opq 6, .opq 7, .lin 0 8 0 5, .lin 0 9 64 65536, .lin 0 10 1 1048576, .lin 0 11 64 65536, .lin 0 12 1 256]
def opF : List V := [.opq 0, .opq 1, .opq 2, .opq 3, .opq 4, .opq 5, .opq 6, .opq 7, .opq 8, .opq 9, .opq 10, .opq 11, .opq 12]
def loF : List V := [.lin 0 0 small 0, .lin 0 1 small 0, .lin 0 2 small (-1), .lin 0 3 small 0, .lin 0 4 small 0, .lin 0 5 small 0, .opq 6, .opq 7, .lin 0 8 small (-1), .lin 0 9 small 63, .lin 0 10 small 0, .lin 0 11 small 63, .lin 0 12 small 0]
def hiF : List V := [.lin 0 0 17 big, .lin 0 1 17 big, .lin 0 2 257 big, .lin 0 3 1048577 big, .lin 0 4 101 big, .lin 0 5 1048577 big, .opq 6, .opq 7, .lin 0 8 6 big, .lin 0 9 65537 big, .lin 0 10 1048577 big, .lin 0 11 65537 big, .lin 0 12 257 big]
/-- good ahead of field k, bad at it, open behind it -/
def loAt (k : Nat) : List V := okF.take k ++ (loF.drop k).take 1 ++ opF.drop (k + 1)
def hiAt (k : Nat) : List V := okF.take k ++ (hiF.drop k).take 1 ++ opF.drop (k + 1)
/-- the two that are asked for in two orders -/
def fd (f d : V) : List V := okF.take 4 ++ [f, d] ++ opF.drop 6
def badPool : List (List V) := [loAt 0, hiAt 0, loAt 1, hiAt 1, loAt 2, hiAt 2, loAt 3, hiAt 3,
  fd (.lin 0 4 small 0) (.lin 0 5 1 1048576), fd (.lin 0 4 101 big) (.lin 0 5 1 1048576),
  fd (.lin 0 4 1 100) (.lin 0 5 small 0), fd (.lin 0 4 small 0) (.lin 0 5 small 0), fd (.lin 0 4 101 big) (.lin 0 5 small 0),
  fd (.lin 0 4 1 100) (.lin 0 5 1048577 big), fd (.lin 0 4 small 0) (.lin 0 5 1048577 big), fd (.lin 0 4 101 big) (.lin 0 5 1048577 big)]
def withB (b : Int) (l : List V) : List V := .int .i64 b :: l.drop 1
def ofB (b : Int) : List (List V) := [okF, loAt 8, hiAt 8, loAt 9, hiAt 9, loAt 10, hiAt 10, loAt 11, hiAt 11, loAt 12, hiAt 12].map (withB b)
theorem badPool_all : badPool.all news = true := by kernel_rfl
theorem news_1 : (ofB 1).all news = true := by kernel_rfl
end Go.Proofs.YtaaofanhjolikaaGreatDoor.Sx
