/- What the rows of the laws over a list of fields share: the arguments opened, read again behind the call, the witness's world. -/
import Derived.Test.YtohhdoibkopoiaaDoorCards
import Derived.Test.YtohhdoibkopoiaaDoorTie
import Derived.WalkKit
import Derived.ProofKit
import Derived.OpenShut
import Derived.ReadAgain
import Derived.Deep.SlicePairs
import Derived.Deep.DeepHandedRow
import Derived.Lib.LaidTab
import Derived.Lib.SmallJoins
import Derived.Test.YtohhdoibkopoiaaDoorMsgCopy
set_option linter.unusedVariables false
set_option linter.unusedSimpArgs false
namespace Go.Proofs.YtohhdoibkopoiaaDoor.Msg
open Go.ChangeShapes Go.WideShapes Go.ChangeAt Go.RowKit Go.Deep

theorem ownK : ownKnob Tryd.prog.godebug = none := by kernel_rfl
theorem kids : Kids Tryd.prog (· < Tryd.prog.types.size) := kids_rows (by kernel_rfl) (by kernel_rfl)
theorem full : ∀ t e, t < Tryd.prog.types.size → Tryd.prog.underlying t = some (.slice e) → 0 < Tryd.prog.cellsOf e := slices_full_of Tryd.prog (by kernel_rfl)

section
variable {H : Type} {enc : TypeId × Value → H}

theorem trodAll_carry {P : Program} {W W' : World} {base : Nat} {spare : Nat → Bool} {held : Bool} : ∀ {ts : List TypeId} {vs : List Value} {ds : List (DataW H)} {ps : List MemPlace},
    DataW.TrodAll enc P W base spare held ts vs ds ps → (∀ p ∈ ps, W.sameAt W' p) → DataW.TrodAll enc P W' base spare held ts vs ds ps
  | [], [], [], _, h, _ => h
  | [], [], _ :: _, _, h, _ => h.elim
  | [], _ :: _, _, _, h, _ => h.elim
  | _ :: _, [], _, _, h, _ => h.elim
  | _ :: _, _ :: _, [], _, h, _ => h.elim
  | _ :: _, _ :: _, _ :: _, _, ⟨p, q, ⟨n, hn⟩, h2, e⟩, hs => by
    subst e
    exact ⟨p, q, ⟨n, DataW.trod_carry n _ _ _ hn (fun x hx => hs x (List.mem_append_left _ hx))⟩, trodAll_carry h2 (fun x hx => hs x (List.mem_append_right _ hx)), rfl⟩

/-- a law that leaves all old memory as it is -/
theorem post_true {f : Func} {s : ChangeSpec} {W W' : World} {args : Array Value} {ds : List (DataW H)} {before : List MemPlace} (hW : DataW.Whole enc Tryd.prog f.params.toList s.vars false W args.toList ds [] before)
    (hvars : s.vars = []) (hft : ∀ t ∈ f.params.toList, t < Tryd.prog.types.size) (hrt : f.resultTypes = #[4]) (hres : (s.fn H (ds ++ [])).results = [.lit (.bool true)]) (hargs : (s.fn H (ds ++ [])).args = ds) (hsv : (s.fn H (ds ++ [])).vars = [])
    (hb : Below W.heap.size W W') : s.post enc Tryd.prog f false true false false W args (.bool true) W' := by
  have hlt := hW.lt
  have hW2 := hW
  obtain ⟨pa, pv, hA, hV, hbef, hfz, hnd⟩ := hW
  have hV2 := hV
  rw [hvars] at hV2
  obtain ⟨_, hpv⟩ := trodVars_none hV2
  have hbp : before = pa := by rw [hbef, hpv, List.append_nil]
  subst hbp
  have hsame : ∀ p ∈ before, W.sameAt W' p := fun p hp => hb.same (hlt p hp)
  have hA' := trodAll_carry (W := W) (W' := W') hA hsame
  have hr1 : ∀ (b : Nat) (sp : Nat → Bool) (hd : Bool), DataW.TrodAll enc Tryd.prog W' b sp hd f.resultTypes.toList ((Value.bool true).resultList f.resultTypes.size) (s.fn H (ds ++ [])).results [] := by
    intro b sp hd
    rw [hres, hrt]
    exact trodAll_mk1 (shut_bool Tryd.underlying4 true)
  have ha1 : ∀ sp : Nat → Bool, (∀ p ∈ before, sp p.block = true) → DataW.TrodAll enc Tryd.prog W' 0 sp true f.params.toList args.toList (s.fn H (ds ++ [])).args before := by
    intro sp hsp
    rw [hargs]
    exact DataW.TrodAll.respare kids full hft hA' hsp
  have hv1 : ∀ sp : Nat → Bool, DataW.TrodVars enc Tryd.prog W' sp s.vars (s.fn H (ds ++ [])).vars [] := by
    intro sp
    rw [hvars, hsv]
    rfl
  have hold : ∀ p ∈ before, (fun b => decide (b < W.heap.size)) p.block = true := fun p hp => by simpa using hlt p hp
  have hk := hb.frame (· ∈ before)
  refine ⟨ds, [], before, [], before, [], hW2, hr1 _ _ _, ha1 _ hold, hv1 _, World.keptBut_mono (fun p hp => ⟨hp, Or.inr (Or.inl hp)⟩) hk, fun _ => ?_⟩
  refine ⟨ok_one (by rw [hrt]) rfl (okWide_bool_mk Tryd.underlying4 _), _, _, ([] ++ before) ++ [], ⟨[] ++ before, [], trodAll_append (ha1 _ (fun _ _ => rfl)) (hr1 _ _ _), hv1 _, rfl, ?_, ?_⟩, ?_⟩
  · intro b off hp
    have hp' : MemPlace.cell b off ∈ before := by simpa using hp
    rw [hb.frozen (p := ⟨b, off, none⟩) (hlt _ hp')]
    exact hfz b off (by rw [hbef]; simpa using Or.inl hp')
  · intro ha; cases ha
  · intro p hp _
    simpa using hp

/-- the readings of a list's elements -/
def flData (fs : List Fl) : List (DataW H) := fs.map fun f => .agg [.lit (.string f.n.data.toList), .lit (.string f.v.data.toList)]

/-- a []api.Field that came in -/
theorem open_fields {W : World} {base : Nat} {v : Value} {d : DataW H} {ps : List MemPlace} (h : DataW.Trod enc Tryd.prog W 0 (fun _ => true) true 22 v d ps) (hok : Value.okWide Tryd.prog W .any base 22 v) :
    ∃ A cp fs, v = .slice A fs.length cp ∧ (d = .nil ∧ fs = [] ∨ ∃ spare, d = .slice (flData fs) spare) ∧
      (∀ k (hk : k < fs.length), ∃ ad, A = some ad ∧ W.cell? (ad.add (k * 2)) = some (.string (fs[k]'hk).n) ∧ W.cell? ⟨(ad.add (k * 2)).block, (ad.add (k * 2)).off + 1, none⟩ = some (.string (fs[k]'hk).v)) ∧
      (∀ f ∈ fs, f.n.size ≤ 9223372036854775807 ∧ f.v.size ≤ 9223372036854775807) := by
  obtain ⟨A, len, cp, rfl⟩ := okWide_slice Tryd.underlying22 hok
  obtain ⟨fuel, hf⟩ := h
  rcases open_slice_pairs Tryd.underlying22 Tryd.underlying37 (by kernel_rfl) rfl rfl (by kernel_rfl) (by kernel_rfl) hf with ⟨hcs, hx⟩ | ⟨a, len', cap, m, n, V0, V1, D0, D1, P0, P1, hcs, hb, hl, hm, hmm, hx, hi⟩
  · have hv : Value.slice A len cp = .slice none 0 0 := by simpa [Value.cells] using hcs
    simp only [Prod.mk.injEq] at hx
    simp only [Value.slice.injEq] at hv
    obtain ⟨rfl, rfl, rfl⟩ := hv
    exact ⟨none, 0, [], rfl, .inl ⟨hx.1, rfl⟩, fun k hk => absurd hk (by simp), by simp⟩
  · have hv : Value.slice A len cp = .slice (some a) len' cap := by simpa [Value.cells] using hcs
    simp only [Prod.mk.injEq] at hx
    simp only [Value.slice.injEq] at hv
    obtain ⟨rfl, rfl, rfl⟩ := hv
    have hlm : len ≤ m := by rw [hmm]; split <;> omega
    have hstr : ∀ i, i < m → ∃ f : Fl, V0 i = .string f.n ∧ V1 i = .string f.v ∧ D0 i = .lit (.string f.n.data.toList) ∧ D1 i = .lit (.string f.v.data.toList) ∧ f.n.size ≤ maxLen ∧ f.v.size ≤ maxLen := by
      intro i him
      obtain ⟨_, _, t0, t1⟩ := hi i him
      obtain ⟨s0, e0, x0, z0⟩ := DataW.trod_string Tryd.underlying9 t0
      obtain ⟨s1, e1, x1, z1⟩ := DataW.trod_string Tryd.underlying9 t1
      simp only [List.cons.injEq, and_true] at e0 e1
      simp only [Prod.mk.injEq] at x0 x1
      exact ⟨⟨s0, s1⟩, e0, e1, x0.1, x1.1, z0, z1⟩
    haveI : Inhabited Fl := ⟨⟨⟨#[]⟩, ⟨#[]⟩⟩⟩
    obtain ⟨F, hF⟩ := choose_lt hstr
    refine ⟨some a, cp, (List.range len).map F, by simp, .inr ⟨_, by rw [hx.1]; congr 1; unfold flData; rw [List.map_map]; exact List.map_congr_left (fun i hi' => by
      obtain ⟨_, _, q0, q1, _⟩ := hF i (by have := List.mem_range.1 hi'; omega)
      simp only [Function.comp]
      rw [q0, q1])⟩, ?_, ?_⟩
    · intro k hk
      have hk' : k < len := by simpa using hk
      obtain ⟨c0, c1, _, _⟩ := hi k (by omega)
      obtain ⟨q0, q1, _⟩ := hF k (by omega)
      rw [q0] at c0
      rw [q1] at c1
      refine ⟨a, rfl, by simpa using c0, ?_⟩
      rw [add_next] at c1
      simpa using c1
    · intro f hf'
      obtain ⟨i, hi', rfl⟩ := List.mem_map.1 hf'
      obtain ⟨_, _, _, _, z0, z1⟩ := hF i (by have := List.mem_range.1 hi'; omega)
      unfold maxLen at z0 z1
      exact ⟨by omega, by omega⟩

/-- the bulk of a list bounds its length -/
theorem bulk_len {d : DataW H} {l : List (DataW H)} {fs : List Fl} (hm : d ∈ l) (hd : d = .nil ∧ fs = [] ∨ ∃ spare, d = .slice (flData fs) spare) (hk : Rows.uptoSmall H l = true) : (fs.length + 1) * 32 ≤ 140737488355328 := by
  have hone : ∀ d : DataW H, 1 ≤ Rows.uptoBulk d := by
    intro d
    cases d with
    | lit l => cases l <;> simp [Rows.uptoBulk]
    | nil => simp [Rows.uptoBulk]
    | ptr d => simp [Rows.uptoBulk]
    | slice elems spare => simp [Rows.uptoBulk]
    | agg parts => simp [Rows.uptoBulk]
    | iface t d => simp [Rows.uptoBulk]
    | map entries => simp [Rows.uptoBulk]
    | held h => simp [Rows.uptoBulk]
  have hall : ∀ l : List (DataW H), l.length ≤ Rows.uptoBulkAll l := by
    intro l
    induction l with
    | nil => simp [Rows.uptoBulkAll]
    | cons x r ih => have := hone x; simp only [Rows.uptoBulkAll, List.length_cons]; omega
  have hpart : ∀ l : List (DataW H), d ∈ l → Rows.uptoBulk d ≤ Rows.uptoBulkAll l := by
    intro l
    induction l with
    | nil => intro h; cases h
    | cons x r ih =>
      intro h
      simp only [Rows.uptoBulkAll]
      cases List.mem_cons.1 h with
      | inl e => subst e; omega
      | inr e => have := ih e; omega
  have hb : Rows.uptoBulkAll l ≤ 1048576 := of_decide_eq_true hk
  have h1 := hpart l hm
  rcases hd with ⟨_, rfl⟩ | ⟨spare, rfl⟩
  · decide
  · have h2 := hall (flData (H := H) fs)
    simp only [Rows.uptoBulk] at h1
    unfold flData at h2 h1
    rw [List.length_map] at h2
    omega

end

/-- a block of cells, written anew -/
def layCells (cs : Array Value) : Obj → Obj
  | .cells _ t frozen => .cells cs t frozen
  | o => o
def firstCells : Array Value := (Go.Pinned.utf8FirstZ.map fun (n : Nat) => Value.int .u8 (n : Int)).toArray
def rangesCells : Array Value := #[.int .u8 128, .int .u8 191, .int .u8 160, .int .u8 191, .int .u8 128, .int .u8 159, .int .u8 144, .int .u8 191, .int .u8 128, .int .u8 143, .int .u8 0, .int .u8 0, .int .u8 0, .int .u8 0, .int .u8 0, .int .u8 0, .int .u8 0, .int .u8 0, .int .u8 0, .int .u8 0, .int .u8 0, .int .u8 0, .int .u8 0, .int .u8 0, .int .u8 0, .int .u8 0, .int .u8 0, .int .u8 0, .int .u8 0, .int .u8 0, .int .u8 0, .int .u8 0]
/-- A WORLD FOR THE WITNESS: the settled one, the two listed tables laid. -/
noncomputable def laidWorld (os : Os) : World :=
  { World.holding Tryd.prog os ⟨#[], #[], []⟩ with heap := ((World.holding Tryd.prog os ⟨#[], #[], []⟩).heap.modify 1 (layCells firstCells)).modify 2 (layCells rangesCells) }

end Go.Proofs.YtohhdoibkopoiaaDoor.Msg
