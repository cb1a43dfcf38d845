/- Contracts of the kit's or of one's own as calls of the machine of names: a call that leaves old memory, and what it hands back. Over any program. -/
import Derived.Test.YtaaofanhjolikaaGreatDoorSxCode
import Derived.Below
set_option autoImplicit false
set_option relaxedAutoImplicit false
set_option linter.unusedVariables false
namespace Go.Proofs.YtaaofanhjolikaaGreatDoor.Sx
open Go Go.RowKit
variable {P : Program} {G : Nat} {v : Val} {h : Heap} {w : World}

/-- nothing of the heap of names is turned by what leaves old memory alone -/
theorem conc_below {w' : World} (c : Conc v h w) (hb : Below w.heap.size w w') : Conc v h w' ∧ Ext v h w v h w' := by
  refine ⟨⟨fun n B hB => ?_, c.inj⟩, ⟨.refl v, hb.os, hb.tape, hb.output, hb.size, fun b hlt _ => hb.block b hlt, fun n B b h1 h2 => .inr ⟨n, B, h1, h2⟩⟩⟩
  obtain ⟨b, hb1, ho⟩ := c.ok n B hB
  exact ⟨b, hb1, by rw [hb.block b (c.lt hB hb1)]; exact ho⟩

/-- and a new block gets a name -/
theorem conc_below_new {w' : World} {n b bas tot : Nat} {B : Blk} (c : Conc v h w) (hb : Below w.heap.size w w') (hn : v.blk n = none) (hge : w.heap.size ≤ b)
    (ho : BlkOk (v.name n b bas tot) n (w'.heap[b]?) B) : Conc (v.name n b bas tot) (h.set n B) w' ∧ Ext v h w (v.name n b bas tot) (h.set n B) w' := by
  have hle := Val.le_name (v := v) (n := n) (b := b) (bas := bas) (tot := tot) hn
  have hblk : (v.name n b bas tot).blk n = some b := Val.name_blk
  refine ⟨c.put hle hblk ho (fun k _ hk => hb.block k hk) (fun m C _ hC he => ?_), ⟨hle, hb.os, hb.tape, hb.output, hb.size, fun x hx _ => hb.block x hx, fun m C x hC hx => ?_⟩⟩
  · have := c.lt hC he; omega
  · rw [T.get_set] at hC
    by_cases hm : m = n
    · subst hm; rw [hblk] at hx; injection hx with hx; exact .inl (hx ▸ hge)
    · rw [if_neg hm] at hC
      obtain ⟨y, hy, _⟩ := c.ok m C hC
      have := (hle.blk m y hy).1
      rw [hx] at this; injection this with this
      exact .inr ⟨m, C, hC, this ▸ hy⟩

theorem post_plain {w' : World} {nx : Nat} {r : V} {y : Value} (c : Conc v h w) (hf : ∀ n, nx ≤ n → v.blk n = none) (hb : Below w.heap.size w w') (hr : den v r = some y) : CallPost v h w nx r h nx (.returned y) w' := by
  obtain ⟨c1, c2⟩ := conc_below c hb
  exact ⟨v, y, rfl, hr, c1, c2, fun _ _ => rfl, hf⟩

theorem post_new {w' : World} {nx b bas tot : Nat} {B : Blk} {r : V} {y : Value} (c : Conc v h w) (hf : ∀ n, nx ≤ n → v.blk n = none) (hb : Below w.heap.size w w') (hge : w.heap.size ≤ b)
    (ho : BlkOk (v.name nx b bas tot) nx (w'.heap[b]?) B) (hr : den (v.name nx b bas tot) r = some y) : CallPost v h w nx r (h.set nx B) (nx + 1) (.returned y) w' := by
  obtain ⟨c1, c2⟩ := conc_below_new c hb (hf nx (Nat.le_refl _)) hge ho
  refine ⟨_, y, rfl, hr, c1, c2, fun n hn => ?_, fun n hn => ?_⟩
  · simp [Val.name, Nat.ne_of_lt hn]
  · have : n ≠ nx := by omega
    simp [Val.name, this]; exact hf n (by omega)

/-- two tables of contracts -/
theorem ClSound.orElse {a b : Cl} (ha : ClSound P G a) (hb : ClSound P G b) : ClSound P G fun f xs h nx => match a f xs h nx with | some r => some r | none => b f xs h nx := by
  intro f args h nx r h' nx' he
  dsimp only at he
  cases hc : a f args h nx with
  | some q => rw [hc] at he; injection he with he; subst he; exact ha _ _ _ _ _ _ _ hc
  | none => rw [hc] at he; exact hb _ _ _ _ _ _ _ he
end Go.Proofs.YtaaofanhjolikaaGreatDoor.Sx
