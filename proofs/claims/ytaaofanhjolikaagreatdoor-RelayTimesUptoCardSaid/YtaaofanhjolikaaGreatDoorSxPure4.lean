/- A machine of names: the operations that read no memory do what the table says (2). Over any program. -/
import Derived.Test.YtaaofanhjolikaaGreatDoorSxPure3
set_option linter.unusedVariables false
set_option linter.unusedSimpArgs false
namespace Go.Proofs.YtaaofanhjolikaaGreatDoor.Sx
open Go

section
variable {P : Program} {G : Nat} {v : Val} {t : T V} {a : Act}

theorem run_info {w : World} {ty : TypeId} {i : TypeInfo} (h : P.info? ty = some i) : (typeInfo ty).run P w = .ok i w := by
  simp only [typeInfo, Sem.run_bind, run_program, Result.andThen_ok, h, Sem.run_pure]
theorem run_size {w : World} {ty n : Nat} (h : sizeOf? P ty = some n) : (sizeOf ty).run P w = .ok n w := by
  unfold sizeOf? at h
  cases hi : P.info? ty with
  | none => rw [hi] at h; cases h
  | some i => rw [hi] at h; injection h with h; subst h; simp only [sizeOf, Sem.run_bind, run_info hi, Result.andThen_ok, Sem.run_pure]
theorem run_zero {w : World} {ty : TypeId} {z : V} (h : zero? P ty = some z) : ∃ y, den v z = some y ∧ (zeroValue ty).run P w = .ok y w := by
  unfold zero? at h
  cases hi : P.info? ty with
  | none => rw [hi] at h; cases h
  | some i =>
    rw [hi] at h; simp only at h
    cases hz : i.zero with
    | none => rw [hz] at h; cases h
    | some y =>
      rw [hz] at h
      exact ⟨y, ofZero_den h, by simp only [zeroValue, Sem.run_bind, run_info hi, Result.andThen_ok, hz, Sem.run_pure]⟩
theorem run_isAgg {w : World} {ty : TypeId} {g : Bool} (h : isAggD (P.underlying ty) = some g) : (isAgg ty).run P w = .ok g w := by
  cases hu : P.underlying ty with
  | none => rw [hu] at h; cases h
  | some d =>
    rw [hu] at h
    simp only [isAgg, Sem.run_bind, run_und hu, Result.andThen_ok]
    cases d <;> simp only [isAggD] at h <;> injection h with h <;> subst h <;> rfl
theorem addr_add (b o n : Nat) : Addr.add ⟨b, o, none⟩ n = ⟨b, o + n, none⟩ := by
  unfold Addr.add; split
  · rename_i h; subst h; rfl
  · rfl
theorem part_den {w : World} {cs : List V} {ys : List Value} {off sz ty : Nat} {g : Bool} {x : V} (hc : denL v cs = some ys) (hs : sizeOf? P ty = some sz) (hg : isAggD (P.underlying ty) = some g)
    (h : (if g then some (.agg ((cs.take (off + sz)).drop off)) else cs[off]?) = some x) : ∃ y, den v x = some y ∧ (part ty ys.toArray off).run P w = .ok y w := by
  cases g with
  | true =>
    rw [if_pos rfl] at h; injection h with h; subst h
    have hd := denL_drop off (denL_take (off + sz) hc)
    refine ⟨.agg ((ys.take (off + sz)).drop off).toArray, by simp only [den, hd], ?_⟩
    simp only [part, Sem.run_bind, run_isAgg hg, Result.andThen_ok, if_true, run_size hs, Sem.run_pure]
    simp [List.drop_take]
  | false =>
    simp only [Bool.false_eq_true, if_false] at h
    obtain ⟨z, hz, hz2⟩ := denL_get off hc h
    refine ⟨z, hz, ?_⟩
    simp only [part, Sem.run_bind, run_isAgg hg, Result.andThen_ok, Bool.false_eq_true, if_false]
    simp [hz2]

theorem den_sl {n o len b q : Nat} {c : Cp} (hb : v.blk n = some b) (hq : c.den v n len = some q) : den v (.sl n o len c) = some (.slice (some ⟨b, v.bas n + o, none⟩) len q) := by
  simp only [den, hb, hq]

theorem slStr_sound {w : World} {s : List UInt8} {lo hi : Option V} {lo' hi' : Option Value} {ty : TypeId} {x : V} (hu : P.underlying ty = some .string)
    (h2 : ODen v hi hi')
    (h3 : ODen v lo lo') (h : slStr s lo hi = some x) :
    ∃ y, den v x = some y ∧ (Instr.sliceAt ty (.string ⟨s.toArray⟩) lo' hi' none).run P w = .ok y w := by
  unfold slStr at h
  cases hb : bnds none hi lo s.length s.length with
  | none => rw [hb] at h; cases h
  | some q =>
    obtain ⟨l, hh, m⟩ := q
    rw [hb] at h; simp only at h; injection h with h; subst h
    have hs : (ByteArray.mk s.toArray).size = s.length := rfl
    have hr := bnds_sound (P := P) (w := w) (b := false) (mx := none) (mx' := none) trivial h2 h3 hb
    refine ⟨_, rfl, ?_⟩
    simp only [Instr.sliceAt, Instr.slice, Sem.run_bind, run_und hu, Result.andThen_ok, hs, hr, Option.isSome_none, Bool.false_eq_true, if_false, Sem.run_pure]
    congr 2
    apply ByteArray.ext
    rw [ByteArray.data_extract]
    simp [List.drop_take]

theorem bnd_mono {q : V} {m m' d n : Nat} (hm : m ≤ m') (h : bnd (some q) m d = some n) : ∀ d', bnd (some q) m' d' = some n := by
  intro d'
  cases q <;> simp only [bnd] at h ⊢ <;> first | (cases h; done) | skip
  rename_i k i
  by_cases hb : 0 ≤ i ∧ i ≤ m
  · rw [if_pos hb] at h; rw [if_pos (by omega)]; exact h
  · rw [if_neg hb] at h; cases h
theorem bnds_none_cap {hi lo : Option V} {len cap l h m : Nat} (hc : len ≤ cap) (hb : bnds none hi lo len len = some (l, h, m)) : bnds none hi lo len cap = some (l, h, cap) := by
  have e : ∀ c, bnds none hi lo len c = match bnd hi c len with
      | none => none
      | some h => match bnd lo h 0 with
        | none => none
        | some l => some (l, h, c) := fun c => by unfold bnds; rfl
  rw [e] at hb ⊢
  cases h1 : bnd hi len len with
  | none => rw [h1] at hb; cases hb
  | some h' =>
    rw [h1] at hb
    have h2 : bnd hi cap len = some h' := by
      cases hi with
      | none => exact h1
      | some q => exact bnd_mono hc h1 len
    rw [h2]
    simp only at hb ⊢
    cases h3 : bnd lo h' 0 with
    | none => rw [h3] at hb; cases hb
    | some l' => rw [h3] at hb; simp only [Option.some.injEq, Prod.mk.injEq] at hb ⊢; exact ⟨hb.1, hb.2.1, trivial⟩
theorem bnds_some_cap {q0 : V} {hi lo : Option V} {len cap l h m : Nat} (hc : len ≤ cap) (hb : bnds (some q0) hi lo len len = some (l, h, m)) : bnds (some q0) hi lo len cap = some (l, h, m) := by
  cases hi with
  | none => simp [bnds] at hb
  | some q1 =>
    have e : ∀ c, bnds (some q0) (some q1) lo len c = match bnd (some q0) c c with
      | none => none
      | some m => match bnd (some q1) m len with
        | none => none
        | some h => match bnd lo h 0 with
          | none => none
          | some l => some (l, h, m) := fun c => by unfold bnds; rfl
    rw [e] at hb ⊢
    cases h1 : bnd (some q0) len len with
    | none => rw [h1] at hb; cases hb
    | some m' => rw [h1] at hb; rw [bnd_mono hc h1 cap]; exact hb

theorem slSl_sound {me esz : Nat} {u : V} {z : Value} {lo hi mx : Option V} {lo' hi' mx' : Option Value} {ty e : TypeId} {x : V} (hu : P.underlying ty = some (.slice e)) (hs : sizeOf? P e = some esz)
    (hn : v.blk me = none) (hz : den v u = some z)
    (h1 : ODen v mx mx')
    (h2 : ODen v hi hi')
    (h3 : ODen v lo lo') (h : slSl me esz u lo hi mx = some x) :
    ∃ v' y, Nm v v' me ∧ den v' x = some y ∧ ∀ w, (Instr.sliceAt ty z lo' hi' mx').run P w = .ok y w := by
  have hslice : ∀ (w : World) (p : Option Addr) (len cap l hh m : Nat), (Instr.sliceBounds true len cap lo' hi' mx').run P w = .ok (l, hh, m) w →
      (Instr.sliceAt ty (.slice p len cap) lo' hi' mx').run P w = .ok (.slice (if m = l then p else p.map (·.add (l * esz))) (hh - l) (m - l)) w := by
    intro w p len cap l hh m hr
    simp only [Instr.sliceAt, Instr.slice, Sem.run_bind, run_und hu, Result.andThen_ok, hr, run_size hs, Sem.run_pure]
  cases u <;> simp only [slSl] at h <;> first | (cases h; done) | skip
  case sl0 =>
    cases hb : bnds mx hi lo 0 0 with
    | none => rw [hb] at h; cases h
    | some q =>
      obtain ⟨l, hh, m⟩ := q
      rw [hb] at h; simp only at h; injection h with h; subst h
      simp only [den] at hz; injection hz with hz; subst hz
      obtain ⟨k1, k2, _, k4⟩ := bnds_le (.inl (Nat.le_refl _)) hb
      obtain rfl : m = 0 := by omega
      obtain rfl : hh = 0 := by omega
      obtain rfl : l = 0 := by omega
      exact ⟨v, .slice none 0 0, .inl rfl, rfl, fun w => hslice w none 0 0 0 0 0 (bnds_sound h1 h2 h3 hb)⟩
  case sl n o len c =>
    simp only [den] at hz
    cases hb0 : v.blk n with
    | none => rw [hb0] at hz; cases hz
    | some b =>
      cases c with
      | kn c =>
        simp only [hb0, Cp.den] at hz; injection hz with hz; subst hz
        simp only at h
        cases hb : bnds mx hi lo len c with
        | none => rw [hb] at h; cases h
        | some q =>
          obtain ⟨l, hh, m⟩ := q
          rw [hb] at h; simp only at h; injection h with h; subst h
          refine ⟨v, _, .inl rfl, ?_, fun w => hslice w _ len c l hh m (bnds_sound h1 h2 h3 hb)⟩
          rw [den_sl hb0 rfl]
          by_cases hml : m = l <;> simp [hml, addr_add, Nat.add_assoc]
      | op d =>
        simp only [hb0, Cp.den] at hz
        by_cases hd : d + len ≤ v.tot n
        · rw [if_pos hd] at hz; injection hz with hz; subst hz
          simp only at h
          cases mx with
          | some q0 =>
            simp only at h
            cases hb : bnds (some q0) hi lo len len with
            | none => rw [hb] at h; cases h
            | some q =>
              obtain ⟨l, hh, m⟩ := q
              rw [hb] at h; simp only at h; injection h with h; subst h
              have hb' : bnds (some q0) hi lo len (v.tot n - d) = some (l, hh, m) := bnds_some_cap (by omega) hb
              refine ⟨v, _, .inl rfl, ?_, fun w => hslice w _ len _ l hh m (bnds_sound h1 h2 h3 hb')⟩
              rw [den_sl hb0 rfl]
              by_cases hml : m = l <;> simp [hml, addr_add, Nat.add_assoc]
          | none =>
            simp only at h
            cases mx' with
            | some _ => exact h1.elim
            | none =>
              cases hb : bnds none hi lo len len with
              | none => rw [hb] at h; cases h
              | some q =>
                obtain ⟨l, hh, m⟩ := q
                rw [hb] at h; simp only at h
                obtain ⟨k1, k2, k3, k4⟩ := bnds_le (.inl (Nat.le_refl _)) hb
                have hm : m = len := k3 rfl
                subst hm
                have hb' : bnds none hi lo m (v.tot n - d) = some (l, hh, v.tot n - d) := bnds_none_cap (by omega) hb
                have hrun := fun w => hslice w (some ⟨b, v.bas n + o, none⟩) m (v.tot n - d) l hh (v.tot n - d) (bnds_sound (P := P) (w := w) (mx := none) (mx' := none) trivial h2 h3 hb')
                by_cases hl0 : l = 0
                · rw [if_pos hl0] at h; injection h with h; subst h; subst hl0
                  refine ⟨v, _, .inl rfl, ?_, hrun⟩
                  rw [den_sl hb0 (by simp only [Cp.den]; rw [if_pos (by omega)])]
                  by_cases hml : v.tot n - d = 0 <;> simp [hml, addr_add]
                · rw [if_neg hl0] at h
                  by_cases hlm : l < m
                  · rw [if_pos hlm] at h; injection h with h; subst h
                    refine ⟨v, _, .inl rfl, ?_, hrun⟩
                    rw [den_sl hb0 (by simp only [Cp.den]; rw [if_pos (by omega)]), if_neg (by omega)]
                    simp [addr_add, Nat.add_assoc, Nat.sub_sub]
                  · rw [if_neg hlm] at h; injection h with h; subst h
                    obtain rfl : l = m := by omega
                    obtain rfl : hh = l := by omega
                    refine ⟨v.name me b (if v.tot n - d = hh then v.bas n + o else v.bas n + o + hh * esz) (v.tot n - d - hh), _, .inr ⟨_, _, _, rfl⟩, ?_, hrun⟩
                    rw [den_sl Val.name_blk (by simp only [Cp.den, Val.name_tot]; rw [if_pos (by omega)])]
                    by_cases hml : v.tot n - d = hh <;> simp [hml, addr_add, Val.name_bas]
        · rw [if_neg hd] at hz; cases hz

theorem slArr_sound {w : World} {n esz : Nat} {u : V} {z : Value} {lo hi mx : Option V} {lo' hi' mx' : Option Value} {ty e : TypeId} {x : V} (hu : P.underlying ty = some (.array n e)) (hs : sizeOf? P e = some esz)
    (hz : den v u = some z)
    (h1 : ODen v mx mx')
    (h2 : ODen v hi hi')
    (h3 : ODen v lo lo') (h : slArr n esz u lo hi mx = some x) :
    ∃ y, den v x = some y ∧ (Instr.sliceAt ty z lo' hi' mx').run P w = .ok y w := by
  cases u <;> simp only [slArr] at h <;> first | (cases h; done) | skip
  rename_i nm o
  simp only [den] at hz
  cases hb0 : v.blk nm with
  | none => rw [hb0] at hz; cases hz
  | some b =>
    simp only [hb0] at hz; injection hz with hz; subst hz
    cases hb : bnds mx hi lo n n with
    | none => rw [hb] at h; cases h
    | some q =>
      obtain ⟨l, hh, m⟩ := q
      rw [hb] at h; simp only at h; injection h with h; subst h
      refine ⟨.slice (some (if m = l then ⟨b, v.bas nm + o, none⟩ else ⟨b, v.bas nm + o + l * esz, none⟩)) (hh - l) (m - l), ?_, ?_⟩
      · rw [den_sl hb0 rfl]
        by_cases hml : m = l <;> simp [hml, Nat.add_assoc]
      · simp only [Instr.sliceAt, Sem.run_bind, run_und hu, Result.andThen_ok, Instr.sureAddr, Sem.run_pure, bnds_sound h1 h2 h3 hb, run_size hs, addr_add]

theorem run_places {w : World} : ∀ {fs : List Field} {pl : List (Nat × Nat)}, compPlaces P fs = some pl → (fs.mapM fun f => (do pure (f.offset, ← sizeOf f.type) : Sem (Nat × Nat))).run P w = .ok pl w
  | [], pl, h => by simp only [compPlaces] at h; injection h with h; subst h; simp
  | f :: fs, pl, h => by
    simp only [compPlaces] at h
    cases hi : P.info? f.type with
    | none => rw [hi] at h; cases h
    | some i =>
      cases hr : compPlaces P fs with
      | none => rw [hi, hr] at h; cases h
      | some l =>
        rw [hi, hr] at h; injection h with h; subst h
        have hsz : sizeOf? P f.type = some i.size := by simp [sizeOf?, hi]
        simp only [List.mapM_cons, Sem.run_bind, run_size hsz, Result.andThen_ok, Sem.run_pure, run_places hr]
end
end Go.Proofs.YtaaofanhjolikaaGreatDoor.Sx
