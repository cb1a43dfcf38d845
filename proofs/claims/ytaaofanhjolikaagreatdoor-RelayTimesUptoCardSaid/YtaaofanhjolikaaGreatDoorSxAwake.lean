/- turnpikelaw22.awake, run by the machine of names. -/
import Derived.Test.YtaaofanhjolikaaGreatDoorSxTable
import Derived.Test.YtaaofanhjolikaaGreatDoorSxCheck
import Derived.Test.YtaaofanhjolikaaGreatDoorSxSorted
import Derived.KernelRfl
set_option autoImplicit false
set_option relaxedAutoImplicit false
set_option linter.unusedVariables false
namespace Go.Proofs.YtaaofanhjolikaaGreatDoor.Sx
open Go Go.RowKit

noncomputable def Gn : Nat := Tryz.prog.globals.size
noncomputable def ents : List (Nat × Func) := [(6, Tryz.f6), (7, Tryz.f7), (9, Tryz.f9), (10, Tryz.f10), (11, Tryz.f11), (14, Tryz.f14), (15, Tryz.f15), (17, Tryz.f17), (18, Tryz.f18), (21, Tryz.f21), (22, Tryz.f22), (23, Tryz.f23), (24, Tryz.f24), (25, Tryz.f25), (29, Tryz.f29), (34, Tryz.f34), (35, Tryz.f35), (37, Tryz.f37), (38, Tryz.f38), (40, Tryz.f40), (41, Tryz.f41), (42, Tryz.f42), (43, Tryz.f43), (47, Tryz.f47), (48, Tryz.f48), (49, Tryz.f49), (56, Tryz.f56), (61, Tryz.f61), (62, Tryz.f62), (63, Tryz.f63), (64, Tryz.f64), (65, Tryz.f65), (66, Tryz.f66), (80, Tryz.f80), (81, Tryz.f81), (86, Tryz.f86), (88, Tryz.f88), (89, Tryz.f89), (93, Tryz.f93), (94, Tryz.f94), (95, Tryz.f95), (96, Tryz.f96), (97, Tryz.f97), (98, Tryz.f98), (113, Tryz.f113), (114, Tryz.f114), (121, Tryz.f121), (122, Tryz.f122), (124, Tryz.f124), (125, Tryz.f125), (126, Tryz.f126), (155, Tryz.f155), (156, Tryz.f156), (159, Tryz.f159), (179, Tryz.f179), (182, Tryz.f182), (183, Tryz.f183), (210, Tryz.f210)]
theorem ents_ok : OkL Tryz.prog ents := ⟨⟨Tryz.func6, by kernel_rfl⟩, ⟨Tryz.func7, by kernel_rfl⟩, ⟨Tryz.func9, by kernel_rfl⟩, ⟨Tryz.func10, by kernel_rfl⟩, ⟨Tryz.func11, by kernel_rfl⟩, ⟨Tryz.func14, by kernel_rfl⟩, ⟨Tryz.func15, by kernel_rfl⟩, ⟨Tryz.func17, by kernel_rfl⟩, ⟨Tryz.func18, by kernel_rfl⟩, ⟨Tryz.func21, by kernel_rfl⟩, ⟨Tryz.func22, by kernel_rfl⟩, ⟨Tryz.func23, by kernel_rfl⟩, ⟨Tryz.func24, by kernel_rfl⟩, ⟨Tryz.func25, by kernel_rfl⟩, ⟨Tryz.func29, by kernel_rfl⟩, ⟨Tryz.func34, by kernel_rfl⟩, ⟨Tryz.func35, by kernel_rfl⟩, ⟨Tryz.func37, by kernel_rfl⟩, ⟨Tryz.func38, by kernel_rfl⟩, ⟨Tryz.func40, by kernel_rfl⟩, ⟨Tryz.func41, by kernel_rfl⟩, ⟨Tryz.func42, by kernel_rfl⟩, ⟨Tryz.func43, by kernel_rfl⟩, ⟨Tryz.func47, by kernel_rfl⟩, ⟨Tryz.func48, by kernel_rfl⟩, ⟨Tryz.func49, by kernel_rfl⟩, ⟨Tryz.func56, by kernel_rfl⟩, ⟨Tryz.func61, by kernel_rfl⟩, ⟨Tryz.func62, by kernel_rfl⟩, ⟨Tryz.func63, by kernel_rfl⟩, ⟨Tryz.func64, by kernel_rfl⟩, ⟨Tryz.func65, by kernel_rfl⟩, ⟨Tryz.func66, by kernel_rfl⟩, ⟨Tryz.func80, by kernel_rfl⟩, ⟨Tryz.func81, by kernel_rfl⟩, ⟨Tryz.func86, by kernel_rfl⟩, ⟨Tryz.func88, by kernel_rfl⟩, ⟨Tryz.func89, by kernel_rfl⟩, ⟨Tryz.func93, by kernel_rfl⟩, ⟨Tryz.func94, by kernel_rfl⟩, ⟨Tryz.func95, by kernel_rfl⟩, ⟨Tryz.func96, by kernel_rfl⟩, ⟨Tryz.func97, by kernel_rfl⟩, ⟨Tryz.func98, by kernel_rfl⟩, ⟨Tryz.func113, by kernel_rfl⟩, ⟨Tryz.func114, by kernel_rfl⟩, ⟨Tryz.func121, by kernel_rfl⟩, ⟨Tryz.func122, by kernel_rfl⟩, ⟨Tryz.func124, by kernel_rfl⟩, ⟨Tryz.func125, by kernel_rfl⟩, ⟨Tryz.func126, by kernel_rfl⟩, ⟨Tryz.func155, by kernel_rfl⟩, ⟨Tryz.func156, by kernel_rfl⟩, ⟨Tryz.func159, by kernel_rfl⟩, ⟨Tryz.func179, by kernel_rfl⟩, ⟨Tryz.func182, by kernel_rfl⟩, ⟨Tryz.func183, by kernel_rfl⟩, ⟨Tryz.func210, by kernel_rfl⟩, trivial⟩
noncomputable def tb : Nat → Option CF := tabOf Tryz.prog Gn ents
def GET : List UInt8 := [71, 69, 84]
def hkG : Cl := fun f xs h nx => match ckHk GET f xs h nx with | some r => some r | none => sortedHk f xs h nx
theorem hkG_sound : ClSound Tryz.prog Gn hkG := ClSound.orElse (ckHk_sound GET (by decide) (by kernel_rfl)) sortedHk_sound
theorem tb_ok : ∀ f cf, tb f = some cf → FnOk Tryz.prog Gn f cf := fun f cf h => tabOf_ok ents_ok h
theorem runs (lf n : Nat) : ClSound Tryz.prog Gn (evCall tb hkG lf n) := evCall_sound tb_ok hkG_sound (by kernel_rfl) n

def isT : Option (V × Heap × Nat) → Bool
  | some (.bool true, _, _) => true
  | _ => false
theorem isT_some {o : Option (V × Heap × Nat)} (h : isT o = true) : ∃ h' nx', o = some (.bool true, h', nx') := by
  unfold isT at h; split at h
  · exact ⟨_, _, rfl⟩
  · cases h
theorem awake_runs : isT (evCall tb hkG 100000 60 9 [] .lf 1000) = true := by kernel_rfl
theorem Gn_le : Gn ≤ 1000 := Nat.le_of_ble_eq_true (by kernel_rfl)

theorem awake_any (w : World) : Calls Tryz.prog 9 #[] w fun e w' => e = .returned (.bool true) ∧ Below w.heap.size w w' := by
  obtain ⟨h', nx', he⟩ := isT_some awake_runs
  obtain ⟨_, _, hs⟩ := runs 100000 60 _ _ _ _ _ _ _ he
  refine Calls.mono (hs (v0 Gn fun _ => .bool false) w [] conc_none (v0_ok fun _ => rfl) rfl (fun n hn => ?_)) ?_
  · have := Gn_le
    have h9 : ¬ n < Gn := by omega
    simp [v0, h9]
  · rintro e w' ⟨v', y, rfl, hy, _, hext, _, _⟩
    simp only [den] at hy; injection hy with hy; subst hy
    exact ⟨rfl, below_of_ext hext (Nat.le_refl _) (fun n C b hC => by simp [T.get] at hC)⟩
end Go.Proofs.YtaaofanhjolikaaGreatDoor.Sx
