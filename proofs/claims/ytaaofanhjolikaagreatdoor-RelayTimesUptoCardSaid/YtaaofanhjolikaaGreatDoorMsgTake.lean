/- The contract of (*reading).take, way by way. -/
import Derived.Test.YtaaofanhjolikaaGreatDoorMsgSt
import Derived.Deep.RegionLaw
import Derived.Deep.AppendLies
import Derived.Deep.QuietTactic
import Derived.BigQuiet
import Derived.WideLaws
import Derived.WalkSpells
import Derived.Test.YtaaofanhjolikaaGreatDoorRegH
set_option linter.unusedVariables false
set_option linter.unusedSimpArgs false
namespace Go.Proofs.YtaaofanhjolikaaGreatDoor.Msg
open Go.RowKit Go.Proofs.YtaaofanhjolikaaGreatDoor.Mp

theorem qnil (W : World) (A : Option Addr) (l c : Nat) : (binOp .eql 134 (.slice A l c) (.slice none 0 0)).run Tryz.prog W = .ok (.bool A.isNone) W := Lib.run_eql_slice_nil W _ _ A l c 0 0 Tryz.underlying134

theorem rd_kept {w w' : World} {B p : Nat} {st : PSt} {mb : Nat} {hv fv : Value} {gs : List Gh} (h : RdAt w B p st mb hv fv gs) (hb : Below w.heap.size w w') : RdAt w' B p st mb hv fv gs := by
  have hg : w.grownBy w' none := ⟨hb.os, hb.tape, hb.output, hb.size, fun i hi _ => hb.block i hi⟩
  exact ⟨heap_kept hb h.blk, h.pB, h.mB, h.map.of_block (hb.block _ h.map.lt), h.ps, fun g hgm => ⟨(h.vals g hgm).1, heap_kept hb (h.vals g hgm).2.1, (h.vals g hgm).2.2⟩,
    h.hosts.kept hg (by cases hv.ownBlock <;> simp), h.flds.kept hg (by cases fv.ownBlock <;> simp), h.fnil⟩

/-- a cell of the reading is written, the rows stay -/
theorem rd_set {w : World} {B p : Nat} {st st' : PSt} {mb : Nat} {hv fv : Value} {gs : List Gh} (h : RdAt w B p st mb hv fv gs) (i : Nat) (v : Value)
    (hc : (rdCells mb hv fv st).setIfInBounds i v = rdCells mb hv fv st') (h1 : st'.ps = st.ps) (h2 : st'.hosts = st.hosts) (h3 : st'.fields = st.fields) : RdAt (w.setCell ⟨p, i, none⟩ v) B p st' mb hv fv gs := by
  have hother : ∀ k, k ≠ p → (w.setCell ⟨p, i, none⟩ v).heap[k]? = w.heap[k]? := fun k hk => Below.heap_setCell w ⟨p, i, none⟩ v k hk
  have hp : (w.setCell ⟨p, i, none⟩ v).heap[p]? = some (.cells (rdCells mb hv fv st') 136 (0, 0)) := by
    simp only [World.setCell, Array.getElem?_modify]
    simp only [if_true]
    rw [h.blk]
    simp [hc]
  have hmp : mb ≠ p := by
    intro e
    obtain ⟨es, clock, hb, _⟩ := h.map
    rw [e, h.blk] at hb
    cases hb
  have hrow : ∀ {e size n : Nat} {u : Value} {xs : List Value}, e ≠ 136 → w.ownsRow B e size u n xs → (w.setCell ⟨p, i, none⟩ v).ownsRow B e size u n xs := by
    intro e size n u xs hne ho
    obtain ⟨o1, o2⟩ := ho
    refine ⟨o1, ?_⟩
    rcases o2 with o2 | ⟨g, cap, cur, hu, hgB, hh, r⟩
    · exact Or.inl o2
    · refine Or.inr ⟨g, cap, cur, hu, hgB, ?_, r⟩
      rw [hother g ?_]
      · exact hh
      · intro e1
        rw [e1, h.blk] at hh
        injection hh with hh
        injection hh with _ ht
        exact hne ht.symm
  refine ⟨hp, h.pB, h.mB, h.map.of_block (hother mb hmp), by rw [h1]; exact h.ps, fun g hg => ⟨(h.vals g hg).1, ?_, (h.vals g hg).2.2⟩, by rw [h2]; exact hrow (by decide) h.hosts, by rw [h3]; exact hrow (by decide) h.flds, by rw [h3]; exact h.fnil⟩
  rw [hother g.b ?_]
  · exact (h.vals g hg).2.1
  · intro e1
    have := (h.vals g hg).2.1
    rw [e1, h.blk] at this
    injection this with this
    injection this with _ ht
    cases ht

theorem below_setP {w w' : World} {B p : Nat} (h : Below B w w') (hp : B ≤ p) (i : Nat) (v : Value) : Below B w (w'.setCell ⟨p, i, none⟩ v) := h.setCell hp v

section
variable {w : World} {B p : Nat} {st : PSt} {mb : Nat} {hv fv : Value} {gs : List Gh}

theorem take_unknown (h : RdAt w B p st mb hv fv gs) (n v : ByteArray) (h0 : Lib.hasPrefix n.data.toList [58] = true)
    (h1 : (n.toList == [58, 109, 101, 116, 104, 111, 100]) = false) (h2 : (n.toList == [58, 115, 99, 104, 101, 109, 101]) = false) (h3 : (n.toList == [58, 97, 117, 116, 104, 111, 114, 105, 116, 121]) = false) (h4 : (n.toList == [58, 112, 97, 116, 104]) = false) :
    Calls Tryz.prog 76 #[.pointer (some ⟨p, 0, none⟩), .agg #[.string n, .string v]] w fun e w' => e = .panicked (refusal 182) ∧ Below w.heap.size w w' := by
  have HP := Kp.mk (Tryz.strings_HasPrefix n ⟨#[58]⟩)
  have H0 := Kp.mk h0
  clear h0
  go_enter Tryz.func76, Tryz.ntmps76
  go_wp2_with (first | (go_at_call 82; refine (HP.out _).mono ?_; rintro e w' ⟨rfl, rfl⟩; rw [H0.out]) | (go_at_call 74; refine (must_no _ _).mono ?_; rintro e w' ⟨rfl, rfl⟩))
  exact ⟨rfl, rfl, (Below.refl _ _).alloc (Nat.le_refl _) _⟩

/-- the four names of pseudo fields -/
def isPs (l : List UInt8) : Bool := l == [58, 109, 101, 116, 104, 111, 100] || l == [58, 115, 99, 104, 101, 109, 101] || l == [58, 97, 117, 116, 104, 111, 114, 105, 116, 121] || l == [58, 112, 97, 116, 104]

theorem isPs_cases {l : List UInt8} (h : isPs l = true) :
    ((l == [58, 109, 101, 116, 104, 111, 100]) = true) ∨
    ((l == [58, 109, 101, 116, 104, 111, 100]) = false ∧ (l == [58, 115, 99, 104, 101, 109, 101]) = true) ∨
    ((l == [58, 109, 101, 116, 104, 111, 100]) = false ∧ (l == [58, 115, 99, 104, 101, 109, 101]) = false ∧ (l == [58, 97, 117, 116, 104, 111, 114, 105, 116, 121]) = true) ∨
    ((l == [58, 109, 101, 116, 104, 111, 100]) = false ∧ (l == [58, 115, 99, 104, 101, 109, 101]) = false ∧ (l == [58, 97, 117, 116, 104, 111, 114, 105, 116, 121]) = false ∧ (l == [58, 112, 97, 116, 104]) = true) := by
  unfold isPs at h
  cases h1 : l == [58, 109, 101, 116, 104, 111, 100] <;> cases h2 : l == [58, 115, 99, 104, 101, 109, 101] <;> cases h3 : l == [58, 97, 117, 116, 104, 111, 114, 105, 116, 121] <;> cases h4 : l == [58, 112, 97, 116, 104] <;> simp_all

set_option maxHeartbeats 800000 in
set_option maxRecDepth 100000 in
/-- behind a field that is none -/
theorem take_late (h : RdAt w B p st mb hv fv gs) (n v : ByteArray) (h0 : Lib.hasPrefix n.data.toList [58] = true) (hn : isPs n.toList = true) (hr : st.reg = true) :
    Calls Tryz.prog 76 #[.pointer (some ⟨p, 0, none⟩), .agg #[.string n, .string v]] w fun e w' => e = .panicked (refusal 182) ∧ Below w.heap.size w w' := by
  have HP := Kp.mk (Tryz.strings_HasPrefix n ⟨#[58]⟩)
  have H0 := Kp.mk h0
  clear h0
  have hplt := lt_of_heap h.blk
  have hc2 : w.cell? ⟨p, 2, none⟩ = some (.bool true) := by rw [cell_of_blk h.blk, ← hr]; rfl
  rcases isPs_cases hn with e1 | ⟨e1, e2⟩ | ⟨e1, e2, e3⟩ | ⟨e1, e2, e3, e4⟩
  all_goals
    clear hn hr h
    go_enter Tryz.func76, Tryz.ntmps76
    go_wp2_with (first | (go_at_call 82; refine (HP.out _).mono ?_; rintro e w' ⟨rfl, rfl⟩; rw [H0.out]))
    refine Reg.region_head 15 (by kernel_rfl) (by kernel_rfl) ?_
    simp only [List.take_succ_cons, List.take_zero, List.drop_succ_cons, List.drop_zero]
    repeat (refine Reg.headWp_cons (fun D hD => ?_); go_wp2)
    refine Reg.headWp_nil ?_
    go_wp2_with (go_at_call 74; refine (must_no _ _).mono ?_; rintro e w' ⟨rfl, rfl⟩)
    exact ⟨rfl, rfl, ((Below.refl _ _).alloc (Nat.le_refl _) _).drew⟩

set_option maxHeartbeats 800000 in
set_option maxRecDepth 100000 in
/-- a pseudo field that was there -/
theorem take_dup (h : RdAt w B p st mb hv fv gs) (n v : ByteArray) (h0 : Lib.hasPrefix n.data.toList [58] = true) (hn : isPs n.toList = true) (hr : st.reg = false) (hk : pick st.ps n ≠ none) :
    Calls Tryz.prog 76 #[.pointer (some ⟨p, 0, none⟩), .agg #[.string n, .string v]] w fun e w' => e = .panicked (refusal 182) ∧ Below w.heap.size w w' := by
  have HP := Kp.mk (Tryz.strings_HasPrefix n ⟨#[58]⟩)
  have H0 := Kp.mk h0
  clear h0
  have hplt := lt_of_heap h.blk
  have hc0 : w.cell? ⟨p, 0, none⟩ = some (.map (some mb)) := by rw [cell_of_blk h.blk]; rfl
  have hc2 : w.cell? ⟨p, 2, none⟩ = some (.bool false) := by rw [cell_of_blk h.blk, ← hr]; rfl
  have h1 : ∃ g : Gh, (Instr.lookup 133 (.map (some mb)) (.string n) false).run Tryz.prog ((w.alloc (.cells #[.string n, .string v] 32)).drew) = .ok (.slice (some ⟨g.b, 0, none⟩) 1 1) ((w.alloc (.cells #[.string n, .string v] 32)).drew) := by
    have h2 : RdAt ((w.alloc (.cells #[.string n, .string v] 32)).drew) B p st mb hv fv gs := rd_kept h (((Below.refl _ _).alloc (Nat.le_refl _) _).drew)
    rcases look_pseudo h2 n with ⟨e, _⟩ | ⟨g, _, _, _, e⟩
    · exact absurd e hk
    · exact ⟨g, e⟩
  obtain ⟨g, hlk⟩ := h1
  have hq := qnil
  rcases isPs_cases hn with e1 | ⟨e1, e2⟩ | ⟨e1, e2, e3⟩ | ⟨e1, e2, e3, e4⟩
  all_goals
    clear hn hr h hk
    go_enter Tryz.func76, Tryz.ntmps76
    go_wp2_with (first | (go_at_call 82; refine (HP.out _).mono ?_; rintro e w' ⟨rfl, rfl⟩; rw [H0.out]))
    refine Reg.region_head 15 (by kernel_rfl) (by kernel_rfl) ?_
    simp only [List.take_succ_cons, List.take_zero, List.drop_succ_cons, List.drop_zero]
    repeat (refine Reg.headWp_cons (fun D hD => ?_); go_wp2)
    refine Reg.headWp_nil ?_
    go_wp2_with (go_at_call 74; refine (must_no _ _).mono ?_; rintro e w' ⟨rfl, rfl⟩)
    exact ⟨rfl, rfl, ((Below.refl _ _).alloc (Nat.le_refl _) _).drew⟩

set_option maxHeartbeats 800000 in
set_option maxRecDepth 100000 in
/-- a pseudo field whose value is not right -/
theorem take_badv (h : RdAt w B p st mb hv fv gs) (n v : ByteArray) (hvs : v.size ≤ 9223372036854775807) (h0 : Lib.hasPrefix n.data.toList [58] = true) (hn : isPs n.toList = true) (hr : st.reg = false) (hk : pick st.ps n = none) (hv0 : valueB v = false) :
    Calls Tryz.prog 76 #[.pointer (some ⟨p, 0, none⟩), .agg #[.string n, .string v]] w fun e w' => e = .panicked (refusal 181) ∧ Below w.heap.size w w' := by
  have HP := Kp.mk (Tryz.strings_HasPrefix n ⟨#[58]⟩)
  have H0 := Kp.mk h0
  have HV := Kp.mk hv0
  clear h0 hv0
  have hplt := lt_of_heap h.blk
  have hc0 : w.cell? ⟨p, 0, none⟩ = some (.map (some mb)) := by rw [cell_of_blk h.blk]; rfl
  have hc2 : w.cell? ⟨p, 2, none⟩ = some (.bool false) := by rw [cell_of_blk h.blk, ← hr]; rfl
  have hlk : (Instr.lookup 133 (.map (some mb)) (.string n) false).run Tryz.prog ((w.alloc (.cells #[.string n, .string v] 32)).drew) = .ok (.slice none 0 0) ((w.alloc (.cells #[.string n, .string v] 32)).drew) := by
    have h2 : RdAt ((w.alloc (.cells #[.string n, .string v] 32)).drew) B p st mb hv fv gs := rd_kept h (((Below.refl _ _).alloc (Nat.le_refl _) _).drew)
    rcases look_pseudo h2 n with ⟨_, e⟩ | ⟨g, _, _, e, _⟩
    · exact e
    · rw [hk] at e; cases e
  have hq := qnil
  rcases isPs_cases hn with e1 | ⟨e1, e2⟩ | ⟨e1, e2, e3⟩ | ⟨e1, e2, e3, e4⟩
  all_goals
    clear hn hr h hk
    go_enter Tryz.func76, Tryz.ntmps76
    go_wp2_with (first | (go_at_call 82; refine (HP.out _).mono ?_; rintro e w' ⟨rfl, rfl⟩; rw [H0.out]))
    refine Reg.region_head 15 (by kernel_rfl) (by kernel_rfl) ?_
    simp only [List.take_succ_cons, List.take_zero, List.drop_succ_cons, List.drop_zero]
    repeat (refine Reg.headWp_cons (fun D hD => ?_); go_wp2)
    refine Reg.headWp_nil ?_
    go_wp2_with (first | (go_at_call 74; (with_reducible refine (must_ok _ _).mono ?_); rintro e w' ⟨rfl, rfl⟩) | (go_at_call 74; (with_reducible refine (must_no _ _).mono ?_); rintro e w' ⟨rfl, rfl⟩) | (go_at_call 84; refine (rightValue_any _ hvs _).mono ?_; rintro e w2 ⟨rfl, hb⟩; rw [HV.out]; have HB := Kp.mk hb; clear hb))
    exact ⟨rfl, rfl, (((Below.refl _ _).alloc (Nat.le_refl _) _).drew).trans (HB.out.mono (by simp))⟩

end

end Go.Proofs.YtaaofanhjolikaaGreatDoor.Msg
