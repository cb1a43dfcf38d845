/- A machine of names: the operations that make or write memory do what the table says. Over any program. -/
import Derived.Test.YtaaofanhjolikaaGreatDoorSxEff4
set_option linter.unusedVariables false
set_option linter.unusedSimpArgs false
namespace Go.Proofs.YtaaofanhjolikaaGreatDoor.Sx
open Go

section
variable {P : Program} {G : Nat} {v : Val} {t : T V} {a : Act} {h : Heap} {w : World}

/-- a block that is no cells is laid -/
theorem new_obj {me : Nat} {B : Blk} {o : Obj} (hh : Conc v h w) (hn : v.blk me = none) (ho : ∀ v', v.le v' → v'.bas me = 0 → BlkOk v' me (some o) B) :
    ∃ v', Conc v' (h.set me B) (w.alloc o) ∧ Ext v h w v' (h.set me B) (w.alloc o) ∧ v'.blk me = some w.heap.size ∧ v'.bas me = 0 ∧ (∀ m, m ≠ me → v'.blk m = v.blk m) := by
  have hle := Val.le_name (v := v) (n := me) (b := w.heap.size) (bas := 0) (tot := 0) hn
  obtain ⟨c1, c2⟩ := conc_new (n := me) (bas := 0) (tot := 0) (B := B) (o := o) hh hn (ho _ hle Val.name_bas)
  exact ⟨_, c1, c2, Val.name_blk, Val.name_bas, fun m hm => Val.name_other hm⟩

theorem run_setObj {r : Nat} {o o' : Obj} (hr : w.heap[r]? = some o) (hc : (match o with | .cells .. => true | _ => false) = false) : ∃ w', (setObj r o').run P w = .ok () w' ∧ Turned w w' r o' := by
  have hlt : r < w.heap.size := (Array.getElem?_eq_some_iff.1 hr).1
  refine ⟨{ w with heap := w.heap.setIfInBounds r o' }, ?_, ⟨rfl, rfl, rfl, by simp, fun k hk => ?_, ?_⟩⟩
  · simp only [setObj, Sem.run, hr]
    cases o <;> first | rfl | (simp at hc; done)
  · show (w.heap.setIfInBounds r o')[k]? = _
    rw [Array.getElem?_setIfInBounds_ne (fun e => hk e.symm)]
  · show (w.heap.setIfInBounds r o')[r]? = _
    simp [hlt]

theorem denE_append : ∀ {es fs : List (V × V × Nat)} {l m : List MapEntry}, denE v es = some l → denE v fs = some m → denE v (es ++ fs) = some (l ++ m)
  | [], fs, l, m, h1, h2 => by simp only [denE] at h1; injection h1 with h1; subst h1; exact h2
  | (k, x, n) :: es, fs, l, m, h1, h2 => by
    simp only [denE] at h1
    cases q1 : den v k with
    | none => rw [q1] at h1; cases h1
    | some ky =>
      cases q2 : den v x with
      | none => rw [q1, q2] at h1; cases h1
      | some xy =>
        cases q3 : denE v es with
        | none => rw [q1, q2, q3] at h1; cases h1
        | some l' => rw [q1, q2, q3] at h1; injection h1 with h1; subst h1; simp only [List.cons_append, denE, q1, q2, denE_append q3 h2]
theorem denE_cons {k x : V} {n : Nat} {es : List (V × V × Nat)} {l : List MapEntry} (h1 : denE v ((k, x, n) :: es) = some l) : ∃ ky xy l', den v k = some ky ∧ den v x = some xy ∧ denE v es = some l' ∧ l = ⟨ky, xy, n⟩ :: l' := by
  simp only [denE] at h1
  cases q1 : den v k with
  | none => rw [q1] at h1; cases h1
  | some ky =>
    cases q2 : den v x with
    | none => rw [q1, q2] at h1; cases h1
    | some xy =>
      cases q3 : denE v es with
      | none => rw [q1, q2, q3] at h1; cases h1
      | some l' => rw [q1, q2, q3] at h1; injection h1 with h1; exact ⟨ky, xy, l', rfl, rfl, rfl, h1.symm⟩
theorem denE_mk {k x : V} {n : Nat} {es : List (V × V × Nat)} {l : List MapEntry} {ky xy : Value} (h1 : den v k = some ky) (h2 : den v x = some xy) (h3 : denE v es = some l) : denE v ((k, x, n) :: es) = some (⟨ky, xy, n⟩ :: l) := by
  simp only [denE, h1, h2, h3]
theorem denE_set : ∀ {es : List (V × V × Nat)} {l : List MapEntry} (i : Nat) {x : V} {xy : Value}, denE v es = some l → den v x = some xy → denE v (mapSet es i x) = some (l.modify i fun e => { e with val := xy })
  | [], l, i, x, xy, h1, h2 => by simp only [denE] at h1; injection h1 with h1; subst h1; simp [mapSet, denE]
  | (k, y, n) :: es, l, 0, x, xy, h1, h2 => by
    obtain ⟨ky, yy, l', q1, q2, q3, rfl⟩ := denE_cons h1
    simp only [mapSet, List.modify_zero_cons]
    exact denE_mk q1 h2 q3
  | (k, y, n) :: es, l, i + 1, x, xy, h1, h2 => by
    obtain ⟨ky, yy, l', q1, q2, q3, rfl⟩ := denE_cons h1
    simp only [mapSet, List.modify_succ_cons]
    exact denE_mk q1 q2 (denE_set i q3 h2)
theorem denE_erase : ∀ {es : List (V × V × Nat)} {l : List MapEntry} (i : Nat), denE v es = some l → denE v (es.eraseIdx i) = some (l.eraseIdx i)
  | [], l, i, h1 => by simp only [denE] at h1; injection h1 with h1; subst h1; simp [denE]
  | (k, y, n) :: es, l, 0, h1 => by
    obtain ⟨ky, yy, l', q1, q2, q3, rfl⟩ := denE_cons h1
    simpa using q3
  | (k, y, n) :: es, l, i + 1, h1 => by
    obtain ⟨ky, yy, l', q1, q2, q3, rfl⟩ := denE_cons h1
    simp only [List.eraseIdx_cons_succ]
    exact denE_mk q1 q2 (denE_erase i q3)

/-- the key that is found is the key -/
theorem keyEq_same {kk : KK} {k k' : V} (h : keyEq kk k k' = some true) : k = k' := by
  unfold keyEq at h
  split at h <;> first | (cases h; done) | skip
  · split at h <;> first | (cases h; done) | skip
    rename_i hk; subst hk
    injection h with h; rw [beq_iff_eq] at h; rw [h]
  · injection h with h; rw [beq_iff_eq] at h; rw [h]
theorem findV_at {kk : KK} {k : V} : ∀ {es : List (V × V × Nat)} {i j : Nat} {x : V}, findV kk k es i = some (some (j, x)) → i ≤ j ∧ ∃ n, es[j - i]? = some (k, x, n)
  | [], i, j, x, h => by simp [findV] at h
  | (k', y, n) :: es, i, j, x, h => by
    simp only [findV] at h
    cases hq : keyEq kk k k' with
    | none => rw [hq] at h; cases h
    | some b =>
      rw [hq] at h
      cases b with
      | true =>
        simp only at h; injection h with h; injection h with h; injection h with h1 h2
        subst h1; subst h2
        exact ⟨Nat.le_refl _, n, by rw [Nat.sub_self, keyEq_same hq]; rfl⟩
      | false =>
        simp only at h
        obtain ⟨h1, m, h2⟩ := findV_at h
        refine ⟨by omega, m, ?_⟩
        rw [show j - i = (j - (i + 1)) + 1 by omega]
        simpa using h2
theorem findV_lt {kk : KK} {k : V} {es : List (V × V × Nat)} {j : Nat} {x : V} (h : findV kk k es 0 = some (some (j, x))) : j < es.length := by
  obtain ⟨_, n, h2⟩ := findV_at h
  exact (List.getElem?_eq_some_iff.1 h2).1
theorem denE_get : ∀ {es : List (V × V × Nat)} {l : List MapEntry} (i : Nat) {k x : V} {n : Nat}, denE v es = some l → es[i]? = some (k, x, n) → ∃ ky xy, den v k = some ky ∧ den v x = some xy ∧ l[i]? = some ⟨ky, xy, n⟩
  | [], l, i, k, x, n, h1, h2 => by simp at h2
  | (k', y, m) :: es, l, 0, k, x, n, h1, h2 => by
    obtain ⟨ky, yy, l', q1, q2, q3, rfl⟩ := denE_cons h1
    simp at h2; obtain ⟨rfl, rfl, rfl⟩ := h2
    exact ⟨ky, yy, q1, q2, rfl⟩
  | (k', y, m) :: es, l, i + 1, k, x, n, h1, h2 => by
    obtain ⟨ky, yy, l', q1, q2, q3, rfl⟩ := denE_cons h1
    simp at h2
    obtain ⟨a1, a2, a3, a4, a5⟩ := denE_get i q3 h2
    exact ⟨a1, a2, a3, a4, by simpa using a5⟩
theorem run_keyStays {k : V} {y : Value} {kk : KK} (hk : keyOk kk k = true) (hd : den v k = some y) : (Instr.keyThatStays y y).run P w = .ok y w := by
  have hs : Instr.sameBits 10000 y y = true := by
    cases kk <;> cases k <;> simp only [keyOk] at hk <;> first | (cases hk; done) | skip
    all_goals (simp only [den] at hd; injection hd with hd; subst hd; simp [Instr.sameBits, bytes_beq])
  simp only [Instr.keyThatStays, hs, if_true, Sem.run_pure]

theorem cand_sound : ∀ {es : List (V × V × Nat)} {l : List MapEntry} (f : Nat → Bool), denE v es = some l → denE v (es.filter fun e => f e.2.2) = some (l.filter fun e => f e.born)
  | [], l, f, h1 => by simp only [denE] at h1; injection h1 with h1; subst h1; rfl
  | (k, y, n) :: es, l, f, h1 => by
    obtain ⟨ky, yy, l', q1, q2, q3, rfl⟩ := denE_cons h1
    rw [List.filter_cons, List.filter_cons]
    cases hf : f n with
    | true => simp only [hf, if_true]; exact denE_mk q1 q2 (cand_sound f q3)
    | false => simp only [hf, Bool.false_eq_true, if_false]; exact cand_sound f q3
theorem denE_all : ∀ {es : List (V × V × Nat)} {l : List MapEntry} (f : Nat → Bool), denE v es = some l → l.all (fun e => f e.born) = es.all (fun e => f e.2.2)
  | [], l, f, h1 => by simp only [denE] at h1; injection h1 with h1; subst h1; rfl
  | (k, y, n) :: es, l, f, h1 => by
    obtain ⟨ky, yy, l', q1, q2, q3, rfl⟩ := denE_cons h1
    simp only [List.all_cons, denE_all f q3]
theorem denE_len : ∀ {es : List (V × V × Nat)} {l : List MapEntry}, denE v es = some l → l.length = es.length
  | [], l, h1 => by simp only [denE] at h1; injection h1 with h1; subst h1; rfl
  | (k, y, n) :: es, l, h1 => by
    obtain ⟨ky, yy, l', q1, q2, q3, rfl⟩ := denE_cons h1
    simp [denE_len q3]
end
end Go.Proofs.YtaaofanhjolikaaGreatDoor.Sx
