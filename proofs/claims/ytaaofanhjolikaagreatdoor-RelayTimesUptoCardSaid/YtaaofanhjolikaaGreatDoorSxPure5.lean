/- A machine of names: the operations that read no memory do what the table says (3). Over any program. -/
import Derived.Test.YtaaofanhjolikaaGreatDoorSxPure4
set_option linter.unusedVariables false
set_option linter.unusedSimpArgs false
namespace Go.Proofs.YtaaofanhjolikaaGreatDoor.Sx
open Go

section
variable {P : Program} {G : Nat} {v : Val} {t : T V} {a : Act}

theorem opt_map {α β : Type} {o : Option α} {f : α → β} {b : β} (h : o.map f = some b) : ∃ x, o = some x ∧ f x = b := by
  cases o with
  | none => cases h
  | some x => injection h with h; exact ⟨x, rfl, h⟩

theorem exq_sound {me : Nat} {o : Oper} {q : Q} {x : V} (ht : TOk v t a) (hg : GOk v G) (hn : v.blk me = none) (hc : compQ P G o = some q) (hx : exq me q t = some x) : Pure1 P v me o a x := by
  obtain ⟨dst, op, ty, pos, after, guard⟩ := o
  cases op <;> simp only [compQ] at hc <;> first | (cases hc; done) | skip
  case move z =>
    obtain ⟨z', hz, rfl⟩ := opt_map hc
    exact pure1_same (A.sound ht hg hz hx) fun w => rfl
  case assign z =>
    obtain ⟨z', hz, rfl⟩ := opt_map hc
    exact pure1_same (A.sound ht hg hz hx) fun w => rfl
  case pick c p q' =>
    split at hc <;> first | (cases hc; done) | skip
    rename_i c' p' q'' h1 h2 h3
    injection hc with hc; subst hc
    simp only [exq] at hx
    split at hx <;> first | (cases hx; done) | skip
    rename_i cb pv qv e1 e2 e3
    injection hx with hx; subst hx
    have k1 := A.sound ht hg h1 e1
    have k2 := A.sound ht hg h2 e2
    have k3 := A.sound ht hg h3 e3
    simp only [den] at k1
    injection k1 with k1
    refine pure1_same (y := if cb then a.eval p else a.eval q') (by cases cb <;> simp [k2, k3]) fun w => ?_
    simp only [execOp, ← k1, asBool, Sem.run_bind, Sem.run_pure, Result.andThen_ok]
  case nilCheck z =>
    obtain ⟨z', hz, rfl⟩ := opt_map hc
    simp only [exq] at hx
    split at hx <;> first | (cases hx; done) | skip
    · rename_i n o e1
      injection hx with hx; subst hx
      have k1 := A.sound ht hg hz e1
      refine pure1_same k1 fun w => ?_
      simp only [den] at k1
      split at k1
      · injection k1 with k1; simp only [execOp, ← k1, Sem.run_pure]
      · cases k1
    · rename_i f c e1
      injection hx with hx; subst hx
      have k1 := A.sound ht hg hz e1
      refine pure1_same k1 fun w => ?_
      simp only [den] at k1
      split at k1
      · injection k1 with k1; simp only [execOp, ← k1, Sem.run_pure]
      · cases k1
  case binOp op t' p q' yt =>
    split at hc <;> first | (cases hc; done) | skip
    rename_i p' q'' h1 h2
    injection hc with hc; subst hc
    simp only [exq] at hx
    split at hx <;> first | (cases hx; done) | skip
    rename_i pv qv e1 e2
    have k1 := A.sound ht hg h1 e1
    have k2 := A.sound ht hg h2 e2
    obtain ⟨y, hy, _⟩ := exBin_sound (P := P) (w := default) (X := p) (Y := q') k1 k2 hx
    refine pure1_same hy fun w => ?_
    obtain ⟨y', hy', hr⟩ := exBin_sound (P := P) (w := w) (X := p) (Y := q') k1 k2 hx
    rw [hy] at hy'; injection hy' with hy'; subst hy'
    simp only [execOp]
    rw [Sem.run_bind, hr]; rfl
  case unOp op t' z =>
    obtain ⟨z', hz, rfl⟩ := opt_map hc
    simp only [exq] at hx
    split at hx <;> first | (cases hx; done) | skip
    · rename_i k n e1
      have k1 := A.sound ht hg hz e1
      simp only [den] at k1; injection k1 with k1
      simp only [intBin] at hx; injection hx with hx; subst hx
      exact pure1_same rfl fun w => by simp only [execOp, ← k1, Op.unary, Op.intArith, Sem.run_bind, Sem.run_pure, Result.andThen_ok]
    · rename_i k n e1
      have k1 := A.sound ht hg hz e1
      simp only [den] at k1; injection k1 with k1
      obtain ⟨r, hr, rfl⟩ := opt_map hx
      exact pure1_same rfl fun w => by simp only [execOp, ← k1, Op.unary, Sem.run_bind, bitsOf_sound hr, Sem.run_pure, Result.andThen_ok]
    · rename_i b e1
      have k1 := A.sound ht hg hz e1
      simp only [den] at k1; injection k1 with k1
      injection hx with hx; subst hx
      exact pure1_same rfl fun w => by simp only [execOp, ← k1, Op.unary, Sem.run_bind, Sem.run_pure, Result.andThen_ok]
  case convert src dst' z =>
    split at hc <;> first | (cases hc; done) | skip
    · rename_i ds k z' hs hd hz
      injection hc with hc; subst hc
      simp only [exq] at hx
      split at hx <;> first | (cases hx; done) | skip
      rename_i k' n e1
      injection hx with hx; subst hx
      have k1 := A.sound ht hg hz e1
      simp only [den] at k1; injection k1 with k1
      refine pure1_same rfl fun w => ?_
      simp only [execOp, ← k1, convert, Sem.run_bind, run_und hs, run_und hd, Result.andThen_ok]
      cases ds <;> rfl
    · rename_i z' hs hd hz
      injection hc with hc; subst hc
      simp only [exq] at hx
      split at hx <;> first | (cases hx; done) | skip
      rename_i s e1
      injection hx with hx; subst hx
      have k1 := A.sound ht hg hz e1
      simp only [den] at k1; injection k1 with k1
      refine pure1_same rfl fun w => ?_
      simp only [execOp, ← k1, convert, Sem.run_bind, run_und hs, run_und hd, Result.andThen_ok]
      rfl
  case makeInterface t' z =>
    split at hc <;> first | (cases hc; done) | skip
    rename_i d z' hnot hd hz
    injection hc with hc; subst hc
    simp only [exq] at hx
    obtain ⟨u, hu, rfl⟩ := opt_map hx
    have k1 := A.sound ht hg hz hu
    refine pure1_same (y := .iface t' (a.eval z)) (by simp only [den, k1]) fun w => ?_
    simp only [execOp, Instr.makeInterface, Sem.run_bind, run_und hd, Result.andThen_ok]
    cases d <;> first | rfl | exact absurd hd (hnot _)
  case fieldAddr s z f =>
    split at hc <;> first | (cases hc; done) | skip
    rename_i fs z' hs hz
    split at hc <;> first | (cases hc; done) | skip
    rename_i fd hf
    split at hc <;> first | (cases hc; done) | skip
    rename_i k hnz hk
    injection hc with hc; subst hc
    simp only [exq] at hx
    split at hx <;> first | (cases hx; done) | skip
    rename_i n o e1
    injection hx with hx; subst hx
    have k1 := A.sound ht hg hz e1
    simp only [den] at k1
    split at k1
    · rename_i b hb
      injection k1 with k1
      have hk0 : k ≠ 0 := fun e => hnz (by rw [← e])
      refine pure1_same (y := .pointer (some ⟨b, v.bas n + (o + fd.offset), none⟩)) (by simp only [den, hb]) fun w => ?_
      simp only [execOp, ← k1, Instr.fieldAt, Sem.run_bind, run_und hs, Result.andThen_ok, hf, Instr.sureAddr, Sem.run_pure, fieldPlace, run_size hk, if_neg hk0, addr_add, Nat.add_assoc]
    · cases k1
  case field s z f =>
    split at hc <;> first | (cases hc; done) | skip
    rename_i fs z' hs hz
    split at hc <;> first | (cases hc; done) | skip
    rename_i fd hf
    split at hc <;> first | (cases hc; done) | skip
    rename_i k g hk hgg
    injection hc with hc; subst hc
    simp only [exq] at hx
    split at hx <;> first | (cases hx; done) | skip
    rename_i cs e1
    have k1 := A.sound ht hg hz e1
    simp only [den] at k1
    split at k1
    · rename_i l hl
      injection k1 with k1
      obtain ⟨y, hy, _⟩ := part_den (P := P) (w := default) hl hk hgg hx
      refine pure1_same hy fun w => ?_
      obtain ⟨y', hy', hr⟩ := part_den (P := P) (w := w) hl hk hgg hx
      rw [hy] at hy'; injection hy' with hy'; subst hy'
      simp only [execOp, ← k1, Instr.field, Sem.run_bind, run_und hs, Result.andThen_ok, hf, asAgg, Sem.run_pure, hr]
    · cases k1
  case indexAddr t' z i =>
    split at hc <;> first | (cases hc; done) | skip
    · rename_i e z' i' hs hz hi
      obtain ⟨k, hk, rfl⟩ := opt_map hc
      simp only [exq] at hx
      split at hx <;> first | (cases hx; done) | skip
      rename_i n o len cp ik iv e1 e2
      split at hx <;> first | (cases hx; done) | skip
      rename_i hb
      injection hx with hx; subst hx
      have k1 := A.sound ht hg hz e1
      have k2 := A.sound ht hg hi e2
      simp only [den] at k1 k2; injection k2 with k2
      split at k1
      · rename_i b cv hbk hcv
        injection k1 with k1
        refine pure1_same (y := .pointer (some ⟨b, v.bas n + (o + iv.toNat * k), none⟩)) (by simp only [den, hbk]) fun w => ?_
        simp only [execOp, ← k1, ← k2, Instr.indexAt, asIntOf, Sem.run_bind, Sem.run_pure, run_und hs, Result.andThen_ok, Bool.and_false, if_pos hb, run_size hk, addr_add, Nat.add_assoc]
      · cases k1
    · rename_i len e z' i' hs hz hi
      obtain ⟨k, hk, rfl⟩ := opt_map hc
      simp only [exq] at hx
      split at hx <;> first | (cases hx; done) | skip
      rename_i n o ik iv e1 e2
      split at hx <;> first | (cases hx; done) | skip
      rename_i hb
      injection hx with hx; subst hx
      have k1 := A.sound ht hg hz e1
      have k2 := A.sound ht hg hi e2
      simp only [den] at k1 k2; injection k2 with k2
      split at k1
      · rename_i b hbk
        injection k1 with k1
        refine pure1_same (y := .pointer (some ⟨b, v.bas n + (o + iv.toNat * k), none⟩)) (by simp only [den, hbk]) fun w => ?_
        simp only [execOp, ← k1, ← k2, Instr.indexAt, asIntOf, Instr.sureAddr, Sem.run_bind, Sem.run_pure, run_und hs, Result.andThen_ok, if_pos hb, run_size hk, addr_add, Nat.add_assoc]
      · cases k1
  case index t' z i =>
    split at hc <;> first | (cases hc; done) | skip
    · rename_i z' i' hs hz hi
      injection hc with hc; subst hc
      simp only [exq] at hx
      split at hx <;> first | (cases hx; done) | skip
      rename_i s ik iv e1 e2
      split at hx <;> first | (cases hx; done) | skip
      rename_i hb
      split at hx <;> first | (cases hx; done) | skip
      rename_i bt hbt
      injection hx with hx; subst hx
      have k1 := A.sound ht hg hz e1
      have k2 := A.sound ht hg hi e2
      simp only [den] at k1 k2; injection k1 with k1; injection k2 with k2
      refine pure1_same rfl fun w => ?_
      simp only [execOp, ← k1, ← k2, Instr.index, asIntOf, Sem.run_bind, Sem.run_pure, run_und hs, Result.andThen_ok, if_pos hb]
      have hget : (ByteArray.mk s.toArray)[iv.toNat]? = some bt := by
        have hlt : iv.toNat < s.length := (List.getElem?_eq_some_iff.1 hbt).1
        have hlt2 : iv.toNat < (ByteArray.mk s.toArray).size := hlt
        rw [getElem?_pos (ByteArray.mk s.toArray) iv.toNat hlt2]
        have hv : s[iv.toNat] = bt := (List.getElem?_eq_some_iff.1 hbt).2
        rw [← hv]; rfl
      rw [hget]; rfl
    · rename_i len e z' i' hs hz hi
      split at hc <;> first | (cases hc; done) | skip
      rename_i k g hk hgg
      injection hc with hc; subst hc
      simp only [exq] at hx
      split at hx <;> first | (cases hx; done) | skip
      rename_i cs ik iv e1 e2
      split at hx <;> first | (cases hx; done) | skip
      rename_i hb
      have k1 := A.sound ht hg hz e1
      have k2 := A.sound ht hg hi e2
      simp only [den] at k1 k2; injection k2 with k2
      split at k1
      · rename_i l hl
        injection k1 with k1
        obtain ⟨y, hy, _⟩ := part_den (P := P) (w := default) hl hk hgg hx
        refine pure1_same hy fun w => ?_
        obtain ⟨y', hy', hr⟩ := part_den (P := P) (w := w) hl hk hgg hx
        rw [hy] at hy'; injection hy' with hy'; subst hy'
        simp only [execOp, ← k1, ← k2, Instr.index, asIntOf, Sem.run_bind, Sem.run_pure, run_und hs, Result.andThen_ok, if_pos hb, run_size hk, hr]
      · cases k1
  case slice t' z lo hi mx =>
    split at hc <;> first | (cases hc; done) | skip
    · rename_i z' lo' hi' hs hz hl hh hm
      injection hc with hc; subst hc
      simp only [exq] at hx
      split at hx <;> first | (cases hx; done) | skip
      rename_i s lov hiv e1 e2 e3
      have k1 := A.sound ht hg hz e1
      simp only [den] at k1; injection k1 with k1
      have k2 := oev_sound ht hg hl e2
      have k3 := oev_sound ht hg hh e3
      have hmx : mx = none := by
        cases mx with
        | none => rfl
        | some m => simp only [compO] at hm; split at hm <;> simp at hm
      subst hmx
      obtain ⟨y, hy, _⟩ := slStr_sound (P := P) (v := v) (w := default) hs k3 k2 hx
      refine pure1_same hy fun w => ?_
      obtain ⟨y', hy', hr⟩ := slStr_sound (P := P) (v := v) (w := w) hs k3 k2 hx
      rw [hy] at hy'; injection hy' with hy'; subst hy'
      simp only [execOp, ← k1, Option.map_none, Sem.run_bind, hr, Result.andThen_ok, Sem.run_pure]
    · rename_i e z' lo' hi' mx' hs hz hl hh hm
      obtain ⟨k, hk, rfl⟩ := opt_map hc
      simp only [exq] at hx
      split at hx <;> first | (cases hx; done) | skip
      rename_i zv lov hiv mxv e1 e2 e3 e4
      have k1 := A.sound ht hg hz e1
      have k2 := oev_sound ht hg hl e2
      have k3 := oev_sound ht hg hh e3
      have k4 := oev_sound ht hg hm e4
      obtain ⟨v', y, hnm, hy, hr⟩ := slSl_sound (P := P) hs hk hn k1 k4 k3 k2 hx
      exact ⟨v', y, hnm, hy, fun w => by simp only [execOp, Sem.run_bind, hr w, Result.andThen_ok, Sem.run_pure]⟩
    · rename_i n e z' lo' hi' mx' hs hz hl hh hm
      obtain ⟨k, hk, rfl⟩ := opt_map hc
      simp only [exq] at hx
      split at hx <;> first | (cases hx; done) | skip
      rename_i zv lov hiv mxv e1 e2 e3 e4
      have k1 := A.sound ht hg hz e1
      have k2 := oev_sound ht hg hl e2
      have k3 := oev_sound ht hg hh e3
      have k4 := oev_sound ht hg hm e4
      obtain ⟨y, hy, _⟩ := slArr_sound (P := P) (w := default) hs hk k1 k4 k3 k2 hx
      refine pure1_same hy fun w => ?_
      obtain ⟨y', hy', hr⟩ := slArr_sound (P := P) (w := w) hs hk k1 k4 k3 k2 hx
      rw [hy] at hy'; injection hy' with hy'; subst hy'
      simp only [execOp, Sem.run_bind, hr, Result.andThen_ok, Sem.run_pure]
  case sliceToArrayPointer t' z =>
    split at hc <;> first | (cases hc; done) | skip
    rename_i n e z' hs hz
    injection hc with hc; subst hc
    simp only [exq] at hx
    split at hx <;> first | (cases hx; done) | skip
    rename_i nm o len cp e1
    split at hx <;> first | (cases hx; done) | skip
    rename_i hlen
    injection hx with hx; subst hx
    have k1 := A.sound ht hg hz e1
    simp only [den] at k1
    split at k1
    · rename_i b cv hbk hcv
      injection k1 with k1
      refine pure1_same (y := .pointer (some ⟨b, v.bas nm + o, none⟩)) (by simp only [den, hbk]) fun w => ?_
      simp only [execOp, ← k1, Instr.arrayAt, Sem.run_bind, run_und hs, Result.andThen_ok, if_neg hlen, Sem.run_pure]
    · cases k1
  case makeFunc fn first caps =>
    cases fn <;> simp only at hc <;> first | (cases hc; done) | skip
    rename_i f
    split at hc <;> first | (cases hc; done) | skip
    rename_i hfirst
    obtain ⟨l, hl, rfl⟩ := opt_map hc
    simp only [exq] at hx
    obtain ⟨u, hu, rfl⟩ := opt_map hx
    have k1 := As.sound ht hg hl hu
    have hf0 : first = #[] := by simpa using hfirst
    subst hf0
    refine pure1_same (y := .func (.func f) #[] (caps.map a.eval)) (by simp only [den, k1]; rw [← Array.toList_map, Array.toArray_toList]) fun w => ?_
    simp only [execOp, Instr.makeFunc, Sem.run_bind, Sem.run_pure, Result.andThen_ok]
    simp
  case extract z i =>
    obtain ⟨z', hz, rfl⟩ := opt_map hc
    simp only [exq] at hx
    split at hx <;> first | (cases hx; done) | skip
    rename_i l e1
    have k1 := A.sound ht hg hz e1
    simp only [den] at k1
    split at k1
    · rename_i ys hl
      injection k1 with k1
      obtain ⟨y, hy, hy2⟩ := denL_get i hl hx
      refine pure1_same hy fun w => ?_
      simp only [execOp, ← k1, Instr.extract, Sem.run_bind]
      simp [hy2]
    · cases k1
  case build t' parts =>
    split at hc <;> first | (cases hc; done) | skip
    · rename_i fs z ps hs hz hps
      obtain ⟨pl, hpl, rfl⟩ := opt_map hc
      simp only [exq] at hx
      split at hx <;> first | (cases hx; done) | skip
      rename_i pv e1
      obtain ⟨out, ho, rfl⟩ := opt_map hx
      obtain ⟨k1, k2⟩ := evp_sound ht hg hps e1
      obtain ⟨zy, hzd, _⟩ := run_zero (P := P) (v := v) (w := default) hz
      have hzd' := hzd
      simp only [den] at hzd
      split at hzd <;> first | (cases hzd; done) | skip
      rename_i zl hzl
      injection hzd with hzd; subst hzd
      obtain ⟨es, he1, he2⟩ := fillV_den hg hzl k2 k1 ho
      refine pure1_same (y := .agg es.toArray) (by simp only [den, he1]) fun w => ?_
      obtain ⟨zy, hzd2, hzr⟩ := run_zero (P := P) (v := v) (w := w) hz
      rw [hzd'] at hzd2; injection hzd2 with hzd2; subst hzd2
      simp only [execOp, Instr.build, Sem.run_bind, hzr, Result.andThen_ok, run_und hs, Sem.run_pure, Value.cells]
      rw [Array.mapM_eq_mapM_toList]
      simp only [Sem.run_map, run_places hpl, Result.andThen_ok]
      have hpl2 : (fun i => (pl.toArray : Array (Nat × Nat))[i]?) = places pl := by funext i; simp [places]
      simp only [List.getElem?_toArray, Array.toList_map]
      rw [show (fun (x : Nat) => pl[x]?) = places pl from rfl, he2]
      rfl
    · rename_i n e z ps hs hz hps
      obtain ⟨k, hk, rfl⟩ := opt_map hc
      simp only [exq] at hx
      split at hx <;> first | (cases hx; done) | skip
      rename_i pv e1
      obtain ⟨out, ho, rfl⟩ := opt_map hx
      obtain ⟨k1, k2⟩ := evp_sound ht hg hps e1
      obtain ⟨zy, hzd, _⟩ := run_zero (P := P) (v := v) (w := default) hz
      have hzd' := hzd
      simp only [den] at hzd
      split at hzd <;> first | (cases hzd; done) | skip
      rename_i zl hzl
      injection hzd with hzd; subst hzd
      obtain ⟨es, he1, he2⟩ := fillV_den hg hzl k2 k1 ho
      refine pure1_same (y := .agg es.toArray) (by simp only [den, he1]) fun w => ?_
      obtain ⟨zy, hzd2, hzr⟩ := run_zero (P := P) (v := v) (w := w) hz
      rw [hzd'] at hzd2; injection hzd2 with hzd2; subst hzd2
      simp only [execOp, Instr.build, Sem.run_bind, hzr, Result.andThen_ok, run_und hs, Sem.run_pure, Value.cells, run_size hk, Array.toList_map]
      rw [he2]
      rfl
  case call c =>
    obtain ⟨callee, args, ats⟩ := c
    cases callee <;> simp only at hc <;> first | (cases hc; done) | skip
    rename_i bi
    cases bi <;> simp only at hc <;> first | (cases hc; done) | skip
    case cap =>
      split at hc <;> first | (cases hc; done) | skip
      rename_i z t' hargs hats
      split at hc <;> first | (cases hc; done) | skip
      rename_i e z' hs hz
      injection hc with hc; subst hc
      obtain rfl : args = #[z] := by rw [← Array.toArray_toList (xs := args), hargs]
      obtain rfl : ats = #[t'] := by rw [← Array.toArray_toList (xs := ats), hats]
      simp only [exq] at hx
      split at hx <;> first | (cases hx; done) | skip
      · rename_i e1
        injection hx with hx; subst hx
        have k1 := A.sound ht hg hz e1
        simp only [den] at k1; injection k1 with k1
        refine pure1_same rfl fun w => ?_
        simp [execOp, resolve, invoke, builtin, Builtin.cap_, ← k1, run_und hs, goInt]
      · rename_i n o len cp e1
        injection hx with hx; subst hx
        have k1 := A.sound ht hg hz e1
        simp only [den, Cp.den] at k1
        split at k1 <;> first | (cases k1; done) | skip
        rename_i b q hb hq
        injection hq with hq; subst hq
        injection k1 with k1
        refine pure1_same rfl fun w => ?_
        simp [execOp, resolve, invoke, builtin, Builtin.cap_, ← k1, run_und hs, goInt]
    case len =>
      split at hc <;> first | (cases hc; done) | skip
      rename_i z t' hargs hats
      obtain rfl : args = #[z] := by rw [← Array.toArray_toList (xs := args), hargs]
      obtain rfl : ats = #[t'] := by rw [← Array.toArray_toList (xs := ats), hats]
      split at hc <;> first | (cases hc; done) | skip
      · rename_i z' hs hz
        injection hc with hc; subst hc
        simp only [exq] at hx
        split at hx <;> first | (cases hx; done) | skip
        rename_i s e1
        injection hx with hx; subst hx
        have k1 := A.sound ht hg hz e1
        simp only [den] at k1; injection k1 with k1
        refine pure1_same rfl fun w => ?_
        have hsz : (ByteArray.mk s.toArray).size = s.length := rfl
        simp only [execOp, resolve, invoke, builtin, Builtin.len_, List.map_toArray, List.map_cons, List.map_nil, Sem.run_bind, Sem.run_pure, Result.andThen_ok, ← k1]
        simp only [List.getElem?_toArray, List.getElem?_cons_zero, Sem.run_bind, run_und hs, Result.andThen_ok, Sem.run_pure, goInt, hsz]
      · rename_i e z' hs hz
        injection hc with hc; subst hc
        simp only [exq] at hx
        split at hx <;> first | (cases hx; done) | skip
        · rename_i e1
          injection hx with hx; subst hx
          have k1 := A.sound ht hg hz e1
          simp only [den] at k1; injection k1 with k1
          refine pure1_same rfl fun w => ?_
          simp [execOp, resolve, invoke, builtin, Builtin.len_, ← k1, run_und hs, goInt]
        · rename_i n o len cp e1
          injection hx with hx; subst hx
          have k1 := A.sound ht hg hz e1
          simp only [den] at k1
          split at k1 <;> first | (cases k1; done) | skip
          injection k1 with k1
          refine pure1_same rfl fun w => ?_
          simp [execOp, resolve, invoke, builtin, Builtin.len_, ← k1, run_und hs, goInt]
      · rename_i n e z' hs hz
        injection hc with hc; subst hc
        simp only [exq] at hx
        injection hx with hx; subst hx
        refine pure1_same rfl fun w => ?_
        simp [execOp, resolve, invoke, builtin, Builtin.len_, run_und hs, goInt]
    case max =>
      split at hc <;> first | (cases hc; done) | skip
      rename_i z1 z2 hargs
      split at hc <;> first | (cases hc; done) | skip
      rename_i z1' z2' h1 h2
      injection hc with hc; subst hc
      obtain rfl : args = #[z1, z2] := by rw [← Array.toArray_toList (xs := args), hargs]
      simp only [exq] at hx
      split at hx <;> first | (cases hx; done) | skip
      rename_i k i k' j e1 e2
      injection hx with hx; subst hx
      have k1 := A.sound ht hg h1 e1
      have k2 := A.sound ht hg h2 e2
      simp only [den] at k1 k2; injection k1 with k1; injection k2 with k2
      refine pure1_same rfl fun w => ?_
      simp [execOp, resolve, invoke, builtin, Builtin.max_, Builtin.max2, ← k1, ← k2]
    case min =>
      split at hc <;> first | (cases hc; done) | skip
      rename_i z1 z2 hargs
      split at hc <;> first | (cases hc; done) | skip
      rename_i z1' z2' h1 h2
      injection hc with hc; subst hc
      obtain rfl : args = #[z1, z2] := by rw [← Array.toArray_toList (xs := args), hargs]
      simp only [exq] at hx
      split at hx <;> first | (cases hx; done) | skip
      rename_i k i k' j e1 e2
      injection hx with hx; subst hx
      have k1 := A.sound ht hg h1 e1
      have k2 := A.sound ht hg h2 e2
      simp only [den] at k1 k2; injection k1 with k1; injection k2 with k2
      refine pure1_same rfl fun w => ?_
      simp [execOp, resolve, invoke, builtin, Builtin.min_, Builtin.min2, ← k1, ← k2]
end
end Go.Proofs.YtaaofanhjolikaaGreatDoor.Sx
