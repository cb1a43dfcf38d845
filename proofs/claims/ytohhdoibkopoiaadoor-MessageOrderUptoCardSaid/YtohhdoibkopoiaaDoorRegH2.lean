/- Regions that leave their order open and write at their end what they read ahead: moves that no one waits for may come late; they are taken first, whatever the world. Over any program. -/
import Derived.Test.YtohhdoibkopoiaaDoorRegH
set_option linter.unusedVariables false
set_option linter.unusedSimpArgs false
namespace Go.Proofs.YtohhdoibkopoiaaDoor.Reg
open Go Go.Proofs.YtohhdoibkopoiaaDoorW.PrintLast

section
variable {P : Program} {ops : Array Oper} {Q : Exit → Act → World → Prop} {S : World → Prop} {ds : List Nat}

theorem any_weaken : ∀ (fuel : Nat) (l : Array Bool) (a : Act) (w : World), wpAnyLast P .any ops Q S ds fuel l a w → wpAnyLast P .any ops Q (fun _ => True) [] fuel l a w
  | 0, _, _, _, h => h
  | fuel + 1, _, _, _, h => ⟨h.1, fun i hi => wpOp_mono (fun a' w' h' => ⟨fun _ _ => trivial, any_weaken fuel _ a' w' h'.2⟩) (h.2 i hi)⟩
end

def held2B (ops : Array Oper) (ds pre hd tl : List Nat) : Bool :=
  Region.noSelect ops && decide (pre.length + (hd.length + tl.length) = ops.size) && headB ops [] (headB ops ds (tailB ops tl) hd) pre (Array.replicate ops.size false)

/-- THE LAW: pre, whatever the world; hd, with what each leaves under S; tl; behind those of ds nothing is shown of S. -/
theorem region_held2 {P : Program} {id : Nat} {Q : Exit → Act → World → Prop} {a : Act} {w : World} {l : List Oper} (S : World → Prop) (ds : List Nat) (pre hd : List (Nat × Value)) (tl : List Nat) (hm : P.follows .mixedOrders = true)
    (hB : (held2B l.toArray ds (pre.map (·.1)) (hd.map (·.1)) tl && (pre ++ hd).all fun x => match l.toArray[x.1]? with | some o => plainOp o.op && !skipOp o.op | none => false) = true)
    (hS : S w.drew) (h : headS P l.toArray (fun _ => True) (fun a' => headS P l.toArray S (fun a'' => tailS P l.toArray Q S ds tl a'' w.drew) hd a') pre a) : (Code.region id l.toArray true).wp P Q a w := by
  rw [Bool.and_eq_true, List.all_append, Bool.and_eq_true] at hB
  obtain ⟨hB, hp1, hp2⟩ := hB
  simp only [held2B, Bool.and_eq_true, decide_eq_true_eq] at hB
  obtain ⟨⟨hsel, hn⟩, hB⟩ := hB
  refine wp_region_noPanic (wp_region_last (S := fun _ => True) (ds := []) hm ?_)
  have h1 := any_of_head (P := P) (Q := Q) (S := fun _ => True) (ds := []) (n := hd.length + tl.length) (w := w.drew) hsel trivial
    (fun l' a' hl ha => any_weaken _ _ _ _ (any_of_head (P := P) (Q := Q) (S := S) (ds := ds) (n := tl.length) (w := w.drew) hsel hS (fun l'' a'' hl' ha' => any_of_tail tl l'' a'' w.drew hl' ha') hd l' a' (by simpa using hl) hp2 ha)) pre _ a hB hp1 h
  simp only [List.length_map] at hn
  rw [hn] at h1
  exact h1

end Go.Proofs.YtohhdoibkopoiaaDoor.Reg
