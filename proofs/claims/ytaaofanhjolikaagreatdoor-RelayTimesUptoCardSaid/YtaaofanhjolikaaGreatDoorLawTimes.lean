/- The law RelayTimes, walked whole by the machine of names: at every time it returns true, and what stood before stands. Conditions: the time is an int; strconv's table of powers of ten stands as it was laid. -/
import Derived.Test.YtaaofanhjolikaaGreatDoorSxAwk
set_option autoImplicit false
set_option relaxedAutoImplicit false
set_option linter.unusedVariables false
namespace Go.Proofs.YtaaofanhjolikaaGreatDoor.Sx
open Go Go.RowKit

noncomputable def entsT : List (Nat × Func) := [(4, Tryz.f4), (6, Tryz.f6), (7, Tryz.f7), (10, Tryz.f10), (11, Tryz.f11), (13, Tryz.f13), (14, Tryz.f14), (15, Tryz.f15), (22, Tryz.f22), (23, Tryz.f23), (24, Tryz.f24), (25, Tryz.f25), (28, Tryz.f28), (29, Tryz.f29), (30, Tryz.f30), (33, Tryz.f33), (34, Tryz.f34), (35, Tryz.f35), (37, Tryz.f37), (38, Tryz.f38), (40, Tryz.f40), (43, Tryz.f43), (45, Tryz.f45), (47, Tryz.f47), (48, Tryz.f48), (49, Tryz.f49), (53, Tryz.f53), (54, Tryz.f54), (56, Tryz.f56), (60, Tryz.f60), (61, Tryz.f61), (62, Tryz.f62), (63, Tryz.f63), (64, Tryz.f64), (65, Tryz.f65), (66, Tryz.f66), (68, Tryz.f68), (79, Tryz.f79), (80, Tryz.f80), (81, Tryz.f81), (86, Tryz.f86), (88, Tryz.f88), (89, Tryz.f89), (93, Tryz.f93), (94, Tryz.f94), (95, Tryz.f95), (96, Tryz.f96), (97, Tryz.f97), (98, Tryz.f98), (100, Tryz.f100), (101, Tryz.f101), (108, Tryz.f108), (113, Tryz.f113), (114, Tryz.f114), (121, Tryz.f121), (122, Tryz.f122), (124, Tryz.f124), (125, Tryz.f125), (126, Tryz.f126), (130, Tryz.f130), (140, Tryz.f140), (147, Tryz.f147), (155, Tryz.f155), (156, Tryz.f156), (159, Tryz.f159), (175, Tryz.f175), (179, Tryz.f179), (182, Tryz.f182), (183, Tryz.f183), (203, Tryz.f203), (204, Tryz.f204), (205, Tryz.f205), (210, Tryz.f210), (232, Tryz.f232), (233, Tryz.f233)]
theorem entsT_ok : OkL Tryz.prog entsT := ⟨⟨Tryz.func4, by kernel_rfl⟩, ⟨Tryz.func6, by kernel_rfl⟩, ⟨Tryz.func7, by kernel_rfl⟩, ⟨Tryz.func10, by kernel_rfl⟩, ⟨Tryz.func11, by kernel_rfl⟩, ⟨Tryz.func13, by kernel_rfl⟩, ⟨Tryz.func14, by kernel_rfl⟩, ⟨Tryz.func15, by kernel_rfl⟩, ⟨Tryz.func22, by kernel_rfl⟩, ⟨Tryz.func23, by kernel_rfl⟩, ⟨Tryz.func24, by kernel_rfl⟩, ⟨Tryz.func25, by kernel_rfl⟩, ⟨Tryz.func28, by kernel_rfl⟩, ⟨Tryz.func29, by kernel_rfl⟩, ⟨Tryz.func30, by kernel_rfl⟩, ⟨Tryz.func33, by kernel_rfl⟩, ⟨Tryz.func34, by kernel_rfl⟩, ⟨Tryz.func35, by kernel_rfl⟩, ⟨Tryz.func37, by kernel_rfl⟩, ⟨Tryz.func38, by kernel_rfl⟩, ⟨Tryz.func40, by kernel_rfl⟩, ⟨Tryz.func43, by kernel_rfl⟩, ⟨Tryz.func45, by kernel_rfl⟩, ⟨Tryz.func47, by kernel_rfl⟩, ⟨Tryz.func48, by kernel_rfl⟩, ⟨Tryz.func49, by kernel_rfl⟩, ⟨Tryz.func53, by kernel_rfl⟩, ⟨Tryz.func54, by kernel_rfl⟩, ⟨Tryz.func56, by kernel_rfl⟩, ⟨Tryz.func60, by kernel_rfl⟩, ⟨Tryz.func61, by kernel_rfl⟩, ⟨Tryz.func62, by kernel_rfl⟩, ⟨Tryz.func63, by kernel_rfl⟩, ⟨Tryz.func64, by kernel_rfl⟩, ⟨Tryz.func65, by kernel_rfl⟩, ⟨Tryz.func66, by kernel_rfl⟩, ⟨Tryz.func68, by kernel_rfl⟩, ⟨Tryz.func79, by kernel_rfl⟩, ⟨Tryz.func80, by kernel_rfl⟩, ⟨Tryz.func81, by kernel_rfl⟩, ⟨Tryz.func86, by kernel_rfl⟩, ⟨Tryz.func88, by kernel_rfl⟩, ⟨Tryz.func89, by kernel_rfl⟩, ⟨Tryz.func93, by kernel_rfl⟩, ⟨Tryz.func94, by kernel_rfl⟩, ⟨Tryz.func95, by kernel_rfl⟩, ⟨Tryz.func96, by kernel_rfl⟩, ⟨Tryz.func97, by kernel_rfl⟩, ⟨Tryz.func98, by kernel_rfl⟩, ⟨Tryz.func100, by kernel_rfl⟩, ⟨Tryz.func101, by kernel_rfl⟩, ⟨Tryz.func108, by kernel_rfl⟩, ⟨Tryz.func113, by kernel_rfl⟩, ⟨Tryz.func114, by kernel_rfl⟩, ⟨Tryz.func121, by kernel_rfl⟩, ⟨Tryz.func122, by kernel_rfl⟩, ⟨Tryz.func124, by kernel_rfl⟩, ⟨Tryz.func125, by kernel_rfl⟩, ⟨Tryz.func126, by kernel_rfl⟩, ⟨Tryz.func130, by kernel_rfl⟩, ⟨Tryz.func140, by kernel_rfl⟩, ⟨Tryz.func147, by kernel_rfl⟩, ⟨Tryz.func155, by kernel_rfl⟩, ⟨Tryz.func156, by kernel_rfl⟩, ⟨Tryz.func159, by kernel_rfl⟩, ⟨Tryz.func175, by kernel_rfl⟩, ⟨Tryz.func179, by kernel_rfl⟩, ⟨Tryz.func182, by kernel_rfl⟩, ⟨Tryz.func183, by kernel_rfl⟩, ⟨Tryz.func203, by kernel_rfl⟩, ⟨Tryz.func204, by kernel_rfl⟩, ⟨Tryz.func205, by kernel_rfl⟩, ⟨Tryz.func210, by kernel_rfl⟩, ⟨Tryz.func232, by kernel_rfl⟩, ⟨Tryz.func233, by kernel_rfl⟩, trivial⟩
noncomputable def tbT : Nat → Option CF := tabOf Tryz.prog Gn entsT
theorem tbT_ok : ∀ f cf, tbT f = some cf → FnOk Tryz.prog Gn f cf := fun f cf h => tabOf_ok entsT_ok h
theorem runsT (lf n : Nat) : ClSound Tryz.prog Gn (evCall tbT hkN lf n) := evCall_sound tbT_ok hkN_sound (by kernel_rfl) n
noncomputable def times (x : V) : Bool := isTP (evCall tbT hkN 1000 60 4 [x] heapP 1000)
theorem times_low : times (.lin 0 0 (-9223372036854775808) 0) = true := by kernel_rfl
theorem times_high : times (.lin 0 0 1048577 9223372036854775807) = true := by kernel_rfl
theorem times_one : times (.int .i64 1) = true := by kernel_rfl
theorem times_more : times (.lin 0 0 2 1048576) = true := by kernel_rfl

def opT (t : Int) (e : Nat) : Nat → Value
  | 1 => .int .i64 e
  | _ => .int .i64 t

theorem times_of {x : V} (hr : times x = true) {t : Int} (w : World) (e : Nat) (htab : w.heap[2]? = some (.cells pow10C.toArray e (0, 0))) (hd : den (v0 Gn (opT t e)) x = some (.int .i64 t)) :
    Calls Tryz.prog 4 #[.int .i64 t] w fun e w' => e = .returned (.bool true) ∧ Below w.heap.size w w' := by
  obtain ⟨h', nx', he, hp⟩ := isTP_some hr
  obtain ⟨_, _, hs⟩ := runsT 1000 60 _ _ _ _ _ _ _ he
  refine Calls.mono (hs _ w [.int .i64 t] (conc_P rfl htab) (v0_ok fun i => by unfold opT; split <;> rfl) (denL_mk hd rfl) (free_v0 _)) ?_
  rintro e w' hpost
  exact post_P rfl htab hp hpost

theorem RelayTimes_any (t : Int) (hr : -9223372036854775808 ≤ t ∧ t ≤ 9223372036854775807) (w : World) (e : Nat) (htab : w.heap[2]? = some (.cells pow10C.toArray e (0, 0))) :
    Calls Tryz.prog 4 #[.int .i64 t] w fun e w' => e = .returned (.bool true) ∧ Below w.heap.size w w' := by
  have dl : ∀ {lo hi : Int}, lo ≤ t → t ≤ hi → den (v0 Gn (opT t e)) (.lin 0 0 lo hi) = some (.int .i64 t) := fun h1 h2 => by
    have : (v0 Gn (opT t e)).op 0 = .int .i64 t := rfl
    simp only [den, this]
    exact (linD_mk (s := false) h1 h2).trans (by simp [sgn])
  by_cases h1 : t < 1
  · exact times_of times_low w e htab (dl hr.1 (by omega))
  by_cases h2 : 1048576 < t
  · exact times_of times_high w e htab (dl (by omega) hr.2)
  by_cases h3 : t = 1
  · subst h3; exact times_of times_one w e htab rfl
  · exact times_of times_more w e htab (dl (by omega) (by omega))
end Go.Proofs.YtaaofanhjolikaaGreatDoor.Sx
