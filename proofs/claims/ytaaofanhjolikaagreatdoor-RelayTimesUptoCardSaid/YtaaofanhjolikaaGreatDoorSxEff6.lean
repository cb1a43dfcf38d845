/- A machine of names: the operations that make or write memory do what the table says (2). Over any program. -/
import Derived.Test.YtaaofanhjolikaaGreatDoorSxEff5
import Derived.IntWalk
set_option linter.unusedVariables false
set_option linter.unusedSimpArgs false
namespace Go.Proofs.YtaaofanhjolikaaGreatDoor.Sx
open Go

section
variable {P : Program} {G : Nat} {v : Val} {t : T V} {a : Act} {h : Heap} {w : World}

theorem eff_some {me : Nat} {o : Oper} {x : V} {h' : Heap} {v' : Val} {w' : World} {y : Value} (hr : (execOp a.eval o).run P w = .ok (.value y) w') (hy : den v' x = some y) (hc : Conc v' h' w') (he : Ext v h w v' h' w') (hm : ∀ m, m ≠ me → v'.blk m = v.blk m) : Eff1 P v h w me o a (some x) h' :=
  ⟨v', w', _, hr, ⟨y, rfl, hy⟩, hc, he, hm⟩
theorem eff_none {me : Nat} {o : Oper} {h' : Heap} {v' : Val} {w' : World} (hr : (execOp a.eval o).run P w = .ok .skip w') (hc : Conc v' h' w') (he : Ext v h w v' h' w') (hm : ∀ m, m ≠ me → v'.blk m = v.blk m) : Eff1 P v h w me o a none h' :=
  ⟨v', w', _, hr, rfl, hc, he, hm⟩

theorem zero_cells {z : V} {ty : TypeId} (hg : GOk v G) (hz : zero? P ty = some z) : ∃ y, den v z = some y ∧ denL v z.cells = some y.cells.toList ∧ ∀ w, (zeroValue ty).run P w = .ok y w := by
  obtain ⟨y, hy, _⟩ := run_zero (P := P) (v := v) (w := default) hz
  refine ⟨y, hy, cells_den hg hy, fun w => ?_⟩
  obtain ⟨y', hy', hr⟩ := run_zero (P := P) (v := v) (w := w) hz
  rw [hy] at hy'; injection hy' with hy'; subst hy'; exact hr

theorem conc_map {n : Nat} {es es' : List (V × V × Nat)} {clock clock' : Nat} {l' : List MapEntry} (hh : Conc v h w) (hn : h.get n = some (.mp es clock)) (hl : denE v es' = some l') :
    ∃ b l w', v.blk n = some b ∧ denE v es = some l ∧ (getObj b).run P w = .ok (.map l.toArray clock) w ∧ (setObj b (.map l'.toArray clock')).run P w = .ok () w' ∧ Conc v (h.set n (.mp es' clock')) w' ∧ Ext v h w v (h.set n (.mp es' clock')) w' := by
  obtain ⟨b, hb, l, hl0, ho⟩ := hh.ok n _ hn
  obtain ⟨w', hr, ht⟩ := run_setObj (P := P) (o' := .map l'.toArray clock') ho rfl
  obtain ⟨c1, c2⟩ := conc_turn (B := .mp es' clock') hh hn hb ⟨l', hl, ht.here⟩ ht.os ht.tape ht.output ht.size ht.other
  exact ⟨b, l, w', hb, hl0, by simp [getObj, Sem.run, ho], hr, c1, c2⟩

theorem freeze_turn {w : World} {b off e : Nat} {c : Array Value} (hb : w.heap[b]? = some (.cells c e (0, 0))) : Turned w (w.freeze { block := b, off := off } 1) b (.cells c e (off, off + 1)) := by
  unfold World.freeze
  rw [if_neg (by omega)]
  refine ⟨rfl, rfl, rfl, by simp, fun k hk => ?_, ?_⟩
  · simp only [Array.getElem?_modify]
    rw [if_neg (fun e => hk e.symm)]
  · simp only [Array.getElem?_modify]
    rw [if_pos trivial, hb]; rfl

theorem mark_turn {w : World} {b off e lo hi : Nat} {c : Array Value} (hb : w.heap[b]? = some (.cells c e (lo, hi))) (hl : lo ≤ hi) (hf : ∀ k, k < c.size → ¬ (lo ≤ k ∧ k < hi)) :
    ∃ w' lo' hi', (markStringish ⟨b, off, none⟩).run P w = .ok () w' ∧ Turned w w' b (.cells c e (lo', hi')) ∧ lo' ≤ hi' ∧ ∀ k, k < c.size → ¬ (lo' ≤ k ∧ k < hi') := by
  have hshape : w.shape? b = some (e, c.size) := by simp only [World.shape?, hb]
  refine ⟨w.freeze { block := b, off := c.size } 1, if lo == hi then c.size else min lo c.size, if lo == hi then c.size + 1 else max hi (c.size + 1), ?_, ?_, ?_, ?_⟩
  · simp only [markStringish, Sem.run_bind, run_shape, Result.andThen_ok, hshape, run_freeze]
  · unfold World.freeze
    rw [if_neg (by omega)]
    refine ⟨rfl, rfl, rfl, by simp, fun k hk => ?_, ?_⟩
    · simp only [Array.getElem?_modify]
      rw [if_neg (fun e => hk e.symm)]
    · simp only [Array.getElem?_modify]
      rw [if_pos trivial, hb]
      simp only [Option.map_some]
      split <;> rfl
  · split <;> omega
  · intro k hk
    have := hf lo
    split
    · omega
    · rename_i hne
      have hne : lo ≠ hi := fun e => hne (by simp [e])
      have h1 : ¬ lo < c.size := fun hlt => hf lo hlt ⟨Nat.le_refl _, by omega⟩
      omega

theorem upd_sound {me : Nat} {o : Oper} {e : E} {x : Option V} {h' : Heap} {ty : TypeId} {m k z : Operand} (ht : TOk v t a) (hg : GOk v G) (hn : v.blk me = none) (hh : Conc v h w)
    (hc : (match P.underlying ty, compA G m, compA G k, compA G z with | some (.map kt _), some m, some k, some x => (kkOf (P.underlying kt)).map fun kk => E.mapUpd kk m k x | _, _, _, _ => none) = some e) (hx : exe me e t h = some (x, h'))
    (ho : execOp a.eval o = (do Instr.mapUpdate ty (a.eval m) (a.eval k) (a.eval z); pure .skip)) : Eff1 P v h w me o a x h' := by
  split at hc <;> first | (cases hc; done) | skip
  rename_i kt et m' k' z' hs hm hk hz
  obtain ⟨kk, hkk, rfl⟩ := opt_map hc
  simp only [exe] at hx
  split at hx <;> first | (cases hx; done) | skip
  rename_i n kv zv e1 e2 e3
  split at hx <;> first | (cases hx; done) | skip
  rename_i es clock e4
  cases hko : keyOk kk kv with
  | false => rw [hko] at hx; cases hx
  | true =>
    rw [hko] at hx; simp only [cond_true] at hx
    have k1 := A.sound ht hg hm e1
    have k2 := A.sound ht hg hk e2
    have k3 := A.sound ht hg hz e3
    cases hu : P.underlying kt with
    | none => rw [hu] at hkk; cases hkk
    | some d =>
      have hkk' := hkk
      rw [hu] at hkk'
      split at hx <;> first | (cases hx; done) | skip
      · rename_i j old hf
        injection hx with hx; injection hx with hx1 hx2; subst hx1; subst hx2
        obtain ⟨b0, hb0, l0, hl0, _⟩ := hh.ok n _ e4
        have hset := denE_set j hl0 k3
        obtain ⟨b, l, w', hb, hl, hget, hst, c1, c2⟩ := conc_map (P := P) (clock' := clock) hh e4 hset
        rw [hl0] at hl; injection hl with hl; subst hl
        simp only [den, hb] at k1; injection k1 with k1
        obtain ⟨r', h4, h5⟩ := findV_now hkk' k2 hl0 hf
        cases r' with
        | none => exact h5.elim
        | some p =>
          obtain ⟨j', zz⟩ := p
          obtain ⟨rfl, hzz⟩ := h5
          obtain ⟨_, nn, hat⟩ := findV_at hf
          rw [Nat.sub_zero] at hat
          obtain ⟨ky, xy, q1, q2, q3⟩ := denE_get j hl0 hat
          rw [k2] at q1; injection q1 with q1; subst q1
          refine eff_none ?_ c1 c2 (fun _ _ => rfl)
          rw [ho]
          have hkey : (((l0.toArray[j]?).map (·.key)).getD (a.eval k)) = a.eval k := by
            rw [List.getElem?_toArray, q3]; rfl
          simp only [← k1, Instr.mapUpdate, Sem.run_bind, run_und hs, Result.andThen_ok, hget, run_checkKey hkk hko k2, Instr.findKey, run_und hu, h4, Sem.run_pure]
          rw [hkey, run_keyStays hko k2]
          simp only [Result.andThen_ok]
          have harr : (l0.toArray.modify j fun e => { e with key := a.eval k, val := a.eval z }) = (l0.modify j fun e => { e with val := a.eval z }).toArray := by
            apply Array.ext'
            rw [Array.toList_modify]
            apply List.ext_getElem?
            intro q
            rw [List.getElem?_modify, List.getElem?_modify]
            by_cases hq : j = q
            · subst hq; simp only [if_true, q3]; rfl
            · simp [hq]
          rw [harr, hst]
          rfl
      · rename_i hf
        injection hx with hx; injection hx with hx1 hx2; subst hx1; subst hx2
        obtain ⟨b0, hb0, l0, hl0, _⟩ := hh.ok n _ e4
        have hset := denE_append hl0 (denE_mk (n := clock) (es := []) (l := []) k2 k3 rfl)
        obtain ⟨b, l, w', hb, hl, hget, hst, c1, c2⟩ := conc_map (P := P) (clock' := clock + 1) hh e4 hset
        rw [hl0] at hl; injection hl with hl; subst hl
        simp only [den, hb] at k1; injection k1 with k1
        obtain ⟨r', h4, h5⟩ := findV_now hkk' k2 hl0 hf
        cases r' with
        | some p => exact h5.elim
        | none =>
          refine eff_none ?_ c1 c2 (fun _ _ => rfl)
          rw [ho]
          simp only [← k1, Instr.mapUpdate, Sem.run_bind, run_und hs, Result.andThen_ok, hget, run_checkKey hkk hko k2, Instr.findKey, run_und hu, h4, Sem.run_pure, List.push_toArray, hst]

theorem delete_sound {me : Nat} {x : Option V} {h' : Heap} {tm tk kt et : TypeId} {kk : KK} {m k : Operand} {m' k' : A} {dst : Option Tmp} {ty : TypeId} {pos : String} {after : Array Edge} {guard : Option (Nat × Bool)} (ht : TOk v t a) (hg : GOk v G) (hn : v.blk me = none) (hh : Conc v h w)
    (hs : P.underlying tm = some (.map kt et)) (hkk : kkOf (P.underlying kt) = some kk) (hm : compA G m = some m') (hk : compA G k = some k') (hx : exe me (.delete kk m' k') t h = some (x, h')) :
    Eff1 P v h w me ⟨dst, .call { callee := .builtin .delete, args := #[m, k], argTypes := #[tm, tk] }, ty, pos, after, guard⟩ a x h' := by
  cases hu : P.underlying kt with
  | none => rw [hu] at hkk; cases hkk
  | some d =>
    have hkk' := hkk
    rw [hu] at hkk'
    simp only [exe] at hx
    split at hx <;> first | (cases hx; done) | skip
    · rename_i kv e1 e2
      cases hko : keyOk kk kv with
      | false => rw [hko] at hx; cases hx
      | true =>
        rw [hko] at hx; simp only [cond_true] at hx; injection hx with hx; injection hx with hx1 hx2; subst hx1; subst hx2
        have k1 := A.sound ht hg hm e1
        have k2 := A.sound ht hg hk e2
        simp only [den] at k1; injection k1 with k1
        refine eff_some (y := .tuple #[]) ?_ rfl hh Ext.refl (fun _ _ => rfl)
        simp only [execOp, resolve, invoke, builtin, List.map_toArray, List.map_cons, List.map_nil, Sem.run_bind, Sem.run_pure, Result.andThen_ok, Builtin.delete_, List.getElem?_toArray, List.getElem?_cons_zero, List.getElem?_cons_succ, run_und hs, ← k1, run_checkKey hkk hko k2]
    · rename_i n kv e1 e2
      split at hx <;> first | (cases hx; done) | skip
      rename_i es clock e4
      cases hko : keyOk kk kv with
      | false => rw [hko] at hx; cases hx
      | true =>
        rw [hko] at hx; simp only [cond_true] at hx
        have k1 := A.sound ht hg hm e1
        have k2 := A.sound ht hg hk e2
        obtain ⟨b0, hb0, l0, hl0, ho0⟩ := hh.ok n _ e4
        split at hx <;> first | (cases hx; done) | skip
        · rename_i j old hf
          injection hx with hx; injection hx with hx1 hx2; subst hx1; subst hx2
          have hset := denE_erase j hl0
          obtain ⟨b, l, w', hb, hl, hget, hst, c1, c2⟩ := conc_map (P := P) (clock' := clock) hh e4 hset
          rw [hl0] at hl; injection hl with hl; subst hl
          simp only [den, hb] at k1; injection k1 with k1
          obtain ⟨r', h4, h5⟩ := findV_now hkk' k2 hl0 hf
          cases r' with
          | none => exact h5.elim
          | some p =>
            obtain ⟨j', zz⟩ := p
            obtain ⟨rfl, hzz⟩ := h5
            have harr : (l0.toArray.eraseIdxIfInBounds j) = (l0.eraseIdx j).toArray := by
              have hlt : j < l0.length := by rw [denE_len hl0]; exact findV_lt hf
              simp [Array.eraseIdxIfInBounds, hlt]
            refine eff_some (y := .tuple #[]) ?_ rfl c1 c2 (fun _ _ => rfl)
            simp only [execOp, resolve, invoke, builtin, List.map_toArray, List.map_cons, List.map_nil, Sem.run_bind, Sem.run_pure, Result.andThen_ok, Builtin.delete_, List.getElem?_toArray, List.getElem?_cons_zero, List.getElem?_cons_succ, run_und hs, ← k1, hget, run_checkKey hkk hko k2, Instr.findKey, run_und hu, h4, harr, hst]
        · rename_i hf
          injection hx with hx; injection hx with hx1 hx2; subst hx1; subst hx2
          simp only [den, hb0] at k1; injection k1 with k1
          obtain ⟨r', h4, h5⟩ := findV_now hkk' k2 hl0 hf
          cases r' with
          | some p => exact h5.elim
          | none =>
            have hget : (getObj b0).run P w = .ok (.map l0.toArray clock) w := by simp [getObj, Sem.run, ho0]
            have hst : (setObj b0 (.map l0.toArray clock)).run P w = .ok () w := by
              simp only [setObj, Sem.run, ho0]
              congr 1
              have : w.heap.setIfInBounds b0 (.map l0.toArray clock) = w.heap := by
                apply Array.ext_getElem?
                intro q
                by_cases hq : b0 = q
                · subst hq
                  have hlt := (Array.getElem?_eq_some_iff.1 ho0).1
                  rw [ho0]; simp [hlt]
                · rw [Array.getElem?_setIfInBounds_ne hq]
              rw [this]
            refine eff_some (y := .tuple #[]) ?_ rfl hh Ext.refl (fun _ _ => rfl)
            simp only [execOp, resolve, invoke, builtin, List.map_toArray, List.map_cons, List.map_nil, Sem.run_bind, Sem.run_pure, Result.andThen_ok, Builtin.delete_, List.getElem?_toArray, List.getElem?_cons_zero, List.getElem?_cons_succ, run_und hs, ← k1, hget, run_checkKey hkk hko k2, Instr.findKey, run_und hu, h4, hst]

theorem copy_sound {me n : Nat} {x : Option V} {h' : Heap} {td ts el : TypeId} {dd s : Operand} {d' s' : A} {dst : Option Tmp} {ty : TypeId} {pos : String} {after : Array Edge} {guard : Option (Nat × Bool)} (ht : TOk v t a) (hg : GOk v G) (hn : v.blk me = none) (hh : Conc v h w)
    (hs : P.underlying td = some (.slice el)) (hsz : sizeOf? P el = some n) (hdA : compA G dd = some d') (hsA : compA G s = some s') (hx : exe me (.copy n d' s') t h = some (x, h')) :
    Eff1 P v h w me ⟨dst, .call { callee := .builtin .copy, args := #[dd, s], argTypes := #[td, ts] }, ty, pos, after, guard⟩ a x h' := by
  simp only [exe] at hx
  split at hx <;> first | (cases hx; done) | skip
  · rename_i sv e1 e2
    split at hx <;> first | (cases hx; done) | skip
    rename_i p e3
    obtain ⟨m, xs⟩ := p
    injection hx with hx; injection hx with hx1 hx2; subst hx1; subst hx2
    have k1 := A.sound ht hg hdA e1
    have k2 := A.sound ht hg hsA e2
    simp only [den] at k1; injection k1 with k1
    obtain ⟨ys, hys, hyl, hlen, hcells⟩ := elems_sound (P := P) hh k2 e3
    have h0 := hcells 0 (Nat.zero_le _)
    refine eff_some (y := .int .i64 0) ?_ rfl hh Ext.refl (fun _ _ => rfl)
    simp only [execOp, resolve, invoke, builtin, List.map_toArray, List.map_cons, List.map_nil, Sem.run_bind, Sem.run_pure, Result.andThen_ok, Builtin.copy_, List.getElem?_toArray, List.getElem?_cons_zero, List.getElem?_cons_succ, run_und hs, ← k1, hlen, run_size hsz, show Nat.min m 0 = 0 from Nat.min_zero _, h0, goInt]
    rfl
  · rename_i b o len cp sv e1 e2
    split at hx <;> first | (cases hx; done) | skip
    rename_i m xs e3
    have k1 := A.sound ht hg hdA e1
    have k2 := A.sound ht hg hsA e2
    obtain ⟨ys, hys, hyl, hlen, hcells⟩ := elems_sound (P := P) hh k2 e3
    have h0 := hcells (min m len) (Nat.min_le_left _ _)
    simp only [den] at k1
    split at k1 <;> first | (cases k1; done) | skip
    rename_i bk q hbk hq
    injection k1 with k1
    have hmin : Nat.min m len = min m len := rfl
    cases hz : Nat.beq (min m len) 0 with
    | true =>
      rw [hz] at hx; simp only [cond_true] at hx; injection hx with hx; injection hx with hx1 hx2; subst hx1; subst hx2
      have hz := Nat.eq_of_beq_eq_true hz
      rw [hz] at h0
      refine eff_some (y := .int .i64 0) ?_ rfl hh Ext.refl (fun _ _ => rfl)
      simp only [execOp, resolve, invoke, builtin, List.map_toArray, List.map_cons, List.map_nil, Sem.run_bind, Sem.run_pure, Result.andThen_ok, Builtin.copy_, List.getElem?_toArray, List.getElem?_cons_zero, List.getElem?_cons_succ, run_und hs, ← k1, hlen, run_size hsz, hmin, hz, h0, goInt]
      simp [storeCells]
    | false =>
      rw [hz] at hx; simp only [cond_false] at hx
      split at hx <;> first | (cases hx; done) | skip
      rename_i l opn e4
      cases hcond : (Nat.ble (o + min m len * n) l.length && xs.all V.one) with
      | false => rw [hcond] at hx; cases hx
      | true =>
        rw [hcond] at hx; simp only [cond_true] at hx; injection hx with hx; injection hx with hx1 hx2; subst hx1; subst hx2
        rw [Bool.and_eq_true] at hcond
        have g1 := Nat.le_of_ble_eq_true hcond.1
        have hone : (xs.take (min m len * n)).all V.one = true := List.all_eq_true.2 fun y hy => List.all_eq_true.1 hcond.2 y (List.mem_of_mem_take hy)
        have hxl : xs.length = m * n := by rw [← denL_length hys]; exact hyl
        have hmn : min m len * n ≤ m * n := Nat.mul_le_mul_right _ (Nat.min_le_left _ _)
        obtain ⟨bk', w', hbk', hst, c1, c2⟩ := conc_write (P := P) (o := o) hh hg e4 (by simp; omega) hone (denL_take _ hys)
        rw [hbk] at hbk'; injection hbk' with hbk'; subst hbk'
        refine eff_some (y := .int .i64 (min m len : Nat)) ?_ rfl c1 c2 (fun _ _ => rfl)
        simp only [execOp, resolve, invoke, builtin, List.map_toArray, List.map_cons, List.map_nil, Sem.run_bind, Sem.run_pure, Result.andThen_ok, Builtin.copy_, List.getElem?_toArray, List.getElem?_cons_zero, List.getElem?_cons_succ, run_und hs, ← k1, hlen, run_size hsz, hmin, h0, goInt, hst]

theorem next_sound {me : Nat} {x : Option V} {h' : Heap} {it : Operand} {it' : A} {st : Bool} {dst : Option Tmp} {ty : TypeId} {pos : String} {after : Array Edge} {guard : Option (Nat × Bool)} (ht : TOk v t a) (hg : GOk v G) (hn : v.blk me = none) (hh : Conc v h w)
    (hit : compA G it = some it') (hx : exe me (.next st it') t h = some (x, h')) : Eff1 P v h w me ⟨dst, .next it st, ty, pos, after, guard⟩ a x h' := by
  simp only [exe] at hx
  split at hx <;> first | (cases hx; done) | skip
  rename_i n e1
  have k1 := A.sound ht hg hit e1
  split at hx <;> first | (cases hx; done) | skip
  · rename_i s pos' e2
    obtain ⟨b, hb, ho, hbas⟩ := hh.ok n _ e2
    simp only [den, hb, hbas] at k1; injection k1 with k1
    have hget : (getObj b).run P w = .ok (.stringIter ⟨s.toArray⟩ pos') w := by simp [getObj, Sem.run, ho]
    have hbs : (ByteArray.mk s.toArray).size = s.length := rfl
    cases hle : Nat.ble (pos' + 1) s.length with
    | false =>
      rw [hle] at hx; simp only [cond_false] at hx; injection hx with hx; injection hx with hx1 hx2; subst hx1; subst hx2
      have hle2 : ¬ pos' < s.length := fun h => by rw [Nat.ble_eq_true_of_le (Nat.succ_le_of_lt h)] at hle; cases hle
      refine eff_some (y := .tuple #[.bool false]) ?_ rfl hh Ext.refl (fun _ _ => rfl)
      simp only [execOp, ← k1, Instr.next, Sem.run_bind, hget, Result.andThen_ok, hbs, if_neg hle2, Sem.run_pure]
    | true =>
      rw [hle] at hx; simp only [cond_true] at hx; injection hx with hx; injection hx with hx1 hx2; subst hx1; subst hx2
      have hle2 : pos' < s.length := Nat.le_of_ble_eq_true hle
      obtain ⟨w', hr, htn⟩ := run_setObj (P := P) (o' := .stringIter ⟨s.toArray⟩ (pos' + (Utf8.decode ⟨s.toArray⟩ pos').2)) ho rfl
      obtain ⟨c1, c2⟩ := conc_turn (B := .sit s (pos' + (Utf8.decode ⟨s.toArray⟩ pos').2)) hh e2 hb ⟨htn.here, hbas⟩ htn.os htn.tape htn.output htn.size htn.other
      refine eff_some (y := .tuple #[.bool true, .int .i64 pos', .int .i32 (Utf8.decode ⟨s.toArray⟩ pos').1]) ?_ rfl c1 c2 (fun _ _ => rfl)
      simp only [execOp, ← k1, Instr.next, Sem.run_bind, hget, Result.andThen_ok, hbs, if_pos hle2, hr, Sem.run_pure, goInt]
  · rename_i since seen last e2
    injection hx with hx; injection hx with hx1 hx2; subst hx1; subst hx2
    obtain ⟨b, hb, mb, hmb, ho, hbas⟩ := hh.ok n _ e2
    simp only at hmb; subst hmb
    simp only [den, hb, hbas] at k1; injection k1 with k1
    have hget : (getObj b).run P w = .ok (.mapIter none since seen.toArray last) w := by simp [getObj, Sem.run, ho]
    refine eff_some (y := .tuple #[.bool false]) ?_ rfl hh Ext.refl (fun _ _ => rfl)
    simp only [execOp, ← k1, Instr.next, Sem.run_bind, hget, Result.andThen_ok, Sem.run_pure]
  · rename_i m since seen last e2
    split at hx <;> first | (cases hx; done) | skip
    rename_i es clock e3
    obtain ⟨b, hb, mb, ⟨mb', hmb, hmb2⟩, ho, hbas⟩ := hh.ok n _ e2
    subst hmb2
    obtain ⟨b2, hb2, l, hl, ho2⟩ := hh.ok m _ e3
    rw [hmb] at hb2; injection hb2 with hb2; subst hb2
    simp only [den, hb, hbas] at k1; injection k1 with k1
    have hget : (getObj b).run P w = .ok (.mapIter (some mb') since seen.toArray last) w := by simp [getObj, Sem.run, ho]
    have hget2 : (getObj mb').run P w = .ok (.map l.toArray clock) w := by simp [getObj, Sem.run, ho2]
    cases hgone : (!seen.isEmpty && !es.isEmpty && es.all (fun e => Nat.ble last e.2.2)) with
    | true => rw [hgone] at hx; cases hx
    | false =>
      rw [hgone] at hx; simp only [cond_false] at hx
      have hgone2 : (!seen.toArray.isEmpty && !l.toArray.isEmpty && l.toArray.all (fun e => decide (e.born ≥ last))) = false := by
        rw [← hgone]
        have h1 : seen.toArray.isEmpty = seen.isEmpty := by cases seen <;> rfl
        have h2 : l.toArray.isEmpty = es.isEmpty := by
          have := denE_len hl
          cases l <;> cases es <;> simp at this ⊢
        have h3 : l.toArray.all (fun e => decide (e.born ≥ last)) = es.all (fun e => Nat.ble last e.2.2) := by
          rw [← denE_all (fun b => Nat.ble last b) hl]
          rw [List.all_toArray]
          congr 1
          funext e
          by_cases hq : last ≤ e.born
          · rw [Nat.ble_eq_true_of_le hq]; simp [hq]
          · have : Nat.ble last e.born = false := by
              cases hb : Nat.ble last e.born with
              | false => rfl
              | true => exact absurd (Nat.le_of_ble_eq_true hb) hq
            rw [this]; simp; omega
        rw [h1, h2, h3]
      have hleft := cand_sound (fun b => !seen.contains b) hl
      have hold := cand_sound (fun b => decide (b < since)) hleft
      have hnew := cand_sound (fun b => decide (since ≤ b)) hleft
      have hleftA : (l.toArray.filter fun e => !seen.toArray.contains e.born) = (l.filter fun e => !seen.contains e.born).toArray := by
        apply Array.ext'; simp
      obtain ⟨lf, hlf⟩ : ∃ x, x = l.filter (fun e => !seen.contains e.born) := ⟨_, rfl⟩
      rw [← hlf] at hleft hold hnew hleftA
      have holdA : (lf.toArray.filter fun e => decide (e.born < since)) = (lf.filter fun e => decide (e.born < since)).toArray := by
        apply Array.ext'; simp
      have hnewA : (lf.toArray.filter fun e => decide (e.born ≥ since)) = (lf.filter fun e => decide (since ≤ e.born)).toArray := by
        apply Array.ext'; simp
      obtain ⟨lo, hlo⟩ : ∃ x, x = lf.filter (fun e => decide (e.born < since)) := ⟨_, rfl⟩
      obtain ⟨ln, hln⟩ : ∃ x, x = lf.filter (fun e => decide (since ≤ e.born)) := ⟨_, rfl⟩
      rw [← hlo] at hold holdA
      rw [← hln] at hnew hnewA
      have hcat := denE_append hold hnew
      have hrunh : ∀ (c : List (Option MapEntry)), ((if lo.toArray.isEmpty then #[none] else #[]) ++ (lo.toArray ++ ln.toArray).map some) = c.toArray → c.length = 1 →
          (execOp a.eval ⟨dst, .next it false, ty, pos, after, guard⟩).run P w = ((match (c[0]? : Option (Option MapEntry)) with
            | some (some e) => (do setObj b (.mapIter (some mb') since (seen.toArray.push e.born) clock); pure (.tuple #[.bool true, e.key, e.val]) : Sem Value)
            | some none => pure (.tuple #[.bool false])
            | none => stuck "Next: no such candidate") >>= fun x => (pure (Next.value x) : Sem Next)).run P w := by
        intro c hc hc1
        simp only [execOp, ← k1, Instr.next, Sem.run_bind, hget, hget2, Result.andThen_ok, hgone2, Bool.false_eq_true, if_false, hleftA, holdA, hnewA, hc]
        simp only [List.size_toArray, hc1]
        rw [run_choose_drew]
        simp only [Question.forced, Nat.le_refl, decide_true, if_true, Result.andThen_ok, List.getElem?_toArray]
        match hc0 : c, hc1 with
        | [none], _ => rfl
        | [some e], _ => rfl
      have hemp : lo.toArray.isEmpty = ((es.filter fun e => !seen.contains e.2.2).filter fun e => decide (e.2.2 < since)).isEmpty := by
        have := denE_len hold
        cases lo <;> cases h : ((es.filter fun e => !seen.contains e.2.2).filter fun e => decide (e.2.2 < since)) <;> rw [h] at this <;> simp at this ⊢
      split at hx <;> first | (cases hx; done) | skip
      · rename_i en hcand
        injection hx with hx; injection hx with hx1 hx2; subst hx1; subst hx2
        obtain ⟨w', hr, htn⟩ := run_setObj (P := P) (o' := .mapIter (some mb') since (seen ++ [en.2.2]).toArray clock) ho rfl
        obtain ⟨c1, c2⟩ := conc_turn (B := .mit (some m) since (seen ++ [en.2.2]) clock) hh e2 hb ⟨some mb', ⟨mb', hmb, rfl⟩, htn.here, hbas⟩ htn.os htn.tape htn.output htn.size htn.other
        unfold candV at hcand
        simp only at hcand
        cases hemp0 : ((es.filter fun e => !seen.contains e.2.2).filter fun e => decide (e.2.2 < since)).isEmpty with
        | true => rw [hemp0] at hcand; simp at hcand
        | false =>
          rw [hemp0] at hcand hemp
          simp only [Bool.false_eq_true, if_false, List.nil_append] at hcand
          have hone : (((es.filter fun e => !seen.contains e.2.2).filter fun e => decide (e.2.2 < since)) ++ ((es.filter fun e => !seen.contains e.2.2).filter fun e => decide (since ≤ e.2.2))) = [en] := by
            have := congrArg (List.filterMap id) hcand
            simpa using this
          rw [hone] at hcat
          obtain ⟨k, x, n'⟩ := en
          obtain ⟨ky, xy, l', q1, q2, q3, q4⟩ := denE_cons hcat
          simp only [denE] at q3; injection q3 with q3; subst q3
          refine eff_some (y := .tuple #[.bool true, ky, xy]) ?_ (by simp only [den, denL, q1, q2]) c1 c2 (fun _ _ => rfl)
          rw [hrunh [some ⟨ky, xy, n'⟩] (by rw [hemp]; simp only [Bool.false_eq_true, if_false]; apply Array.ext'; simp [q4]) rfl]
          simp only [List.getElem?_cons_zero, Sem.run_bind, List.push_toArray, hr, Result.andThen_ok, Sem.run_pure]
      · rename_i hcand
        injection hx with hx; injection hx with hx1 hx2; subst hx1; subst hx2
        unfold candV at hcand
        simp only at hcand
        cases hemp0 : ((es.filter fun e => !seen.contains e.2.2).filter fun e => decide (e.2.2 < since)).isEmpty with
        | false =>
          rw [hemp0] at hcand
          simp only [Bool.false_eq_true, if_false, List.nil_append] at hcand
          have := congrArg (List.filterMap id) hcand
          simp only [List.filterMap_map] at this
          have hmem := congrArg List.length hcand
          rw [List.length_map] at hmem
          match hq : (((es.filter fun e => !seen.contains e.2.2).filter fun e => decide (e.2.2 < since)) ++ ((es.filter fun e => !seen.contains e.2.2).filter fun e => decide (since ≤ e.2.2))), hmem with
          | [q], _ => rw [hq] at hcand; simp at hcand
        | true =>
          rw [hemp0] at hcand hemp
          simp only [if_true, List.singleton_append, List.cons.injEq, true_and, List.map_eq_nil_iff] at hcand
          rw [hcand] at hcat
          simp only [denE] at hcat; injection hcat with hcat
          refine eff_some (y := .tuple #[.bool false]) ?_ rfl hh Ext.refl (fun _ _ => rfl)
          rw [hrunh [none] (by rw [hemp]; simp only [if_true]; apply Array.ext'; simp only [Array.toList_append, Array.toList_map, ← hcat]; rfl) rfl]
          simp only [List.getElem?_cons_zero, Sem.run_bind, Sem.run_pure, Result.andThen_ok]

set_option maxHeartbeats 1000000 in
theorem exe_sound {me : Nat} {o : Oper} {e : E} {x : Option V} {h' : Heap} (ht : TOk v t a) (hg : GOk v G) (hn : v.blk me = none) (hh : Conc v h w) (hc : compE P G o = some e) (hx : exe me e t h = some (x, h')) : Eff1 P v h w me o a x h' := by
  obtain ⟨dst, op, ty, pos, after, guard⟩ := o
  cases op <;> simp only [compE] at hc <;> first | (cases hc; done) | skip
  case alloc t' =>
    obtain ⟨z, hz, rfl⟩ := opt_map hc
    simp only [exe] at hx; injection hx with hx; injection hx with hx1 hx2; subst hx1; subst hx2
    obtain ⟨y, hy, hyc, hzr⟩ := zero_cells hg hz
    obtain ⟨v', c1, c2, c3, c4, c5⟩ := new_cells (me := me) (e := t') hh hn hyc
    refine eff_some (y := .pointer (some ⟨w.heap.size, 0, none⟩)) ?_ (by simp only [den, c3, c4]) c1 c2 c5
    simp only [execOp, Instr.alloc, Sem.run_bind, hzr, Result.andThen_ok, newVar, run_newRow, Sem.run_pure]
  case box t' z =>
    obtain ⟨z', hz, rfl⟩ := opt_map hc
    simp only [exe] at hx
    split at hx <;> first | (cases hx; done) | skip
    rename_i u e1
    injection hx with hx; injection hx with hx1 hx2; subst hx1; subst hx2
    have k1 := A.sound ht hg hz e1
    obtain ⟨v', c1, c2, c3, c4, c5⟩ := new_cells (me := me) (e := t') hh hn (cells_den hg k1)
    refine eff_some (y := .pointer (some ⟨w.heap.size, 0, none⟩)) ?_ (by simp only [den, c3, c4]) c1 c2 c5
    simp only [execOp, Instr.box, Sem.run_bind, Result.andThen_ok, newVar, run_newRow, Sem.run_pure]
  case buildSlice t' len parts =>
    split at hc <;> first | (cases hc; done) | skip
    rename_i el ps hs hps
    split at hc <;> first | (cases hc; done) | skip
    rename_i n z hsz hz
    cases hcond : (Nat.beq z.cells.length n && Nat.ble 1 n && Nat.ble (len * n) (2 ^ 24)) with
    | false => rw [hcond] at hc; cases hc
    | true =>
      rw [hcond] at hc; simp only [cond_true] at hc; injection hc with hc; subst hc
      simp only [Bool.and_eq_true] at hcond
      obtain ⟨⟨g1, g2⟩, g3⟩ := hcond
      have g1 := Nat.eq_of_beq_eq_true g1
      have g2 := Nat.le_of_ble_eq_true g2
      have g3 := Nat.le_of_ble_eq_true g3
      simp only [exe] at hx
      split at hx <;> first | (cases hx; done) | skip
      rename_i pv e1
      split at hx <;> first | (cases hx; done) | skip
      rename_i cs e2
      injection hx with hx; injection hx with hx1 hx2; subst hx1; subst hx2
      obtain ⟨y, hy, hyc, hzr⟩ := zero_cells hg hz
      obtain ⟨k1, k2⟩ := evp_sound ht hg hps e1
      have hzs := zerosV_den (n := len * n) hyc (by omega)
      obtain ⟨es, he1, he2⟩ := fillV_den hg hzs k2 k1 e2
      obtain ⟨v', c1, c2, c3, c4, c5⟩ := new_cells (me := me) (e := el) hh hn he1
      refine eff_some (y := .slice (some ⟨w.heap.size, 0, none⟩) len len) ?_ (by rw [den_sl c3 rfl, c4]) c1 c2 c5
      have harr : ((Array.range (len * n)).map fun i => y.cells[i % y.cells.size]!) = ((List.range (len * n)).map fun i => y.cells.toList.toArray[i % y.cells.toList.toArray.size]!).toArray := by
        apply Array.ext'; simp
      by_cases h0 : len * n = 0
      · have hemp : (List.range (len * n)).map (fun i => y.cells.toList.toArray[i % y.cells.toList.toArray.size]!) = [] := by rw [h0]; rfl
        rw [hemp] at he2
        simp only [execOp, Instr.buildSlice, Sem.run_bind, run_und hs, Result.andThen_ok, run_size hsz, if_neg (show ¬ (len * n > 2 ^ 24) by omega), if_pos h0, Sem.run_pure, Array.toList_map]
        rw [h0]
        simp only [show Array.range 0 = #[] from rfl, Array.map_empty]
        have he3 : Instr.fill (fun i => some (i * n, n)) #[] (List.map (fun p => (p.1, a.eval p.2)) parts.toList) = some es.toArray := he2
        rw [he3]
        simp only [Sem.run_bind, run_newRow, Result.andThen_ok, Sem.run_pure]
      · simp only [execOp, Instr.buildSlice, Sem.run_bind, run_und hs, Result.andThen_ok, run_size hsz, if_neg (show ¬ (len * n > 2 ^ 24) by omega), if_neg h0, hzr, Sem.run_pure, Array.toList_map]
        rw [harr, he2]
        simp only [Sem.run_bind, run_newRow, Result.andThen_ok, Sem.run_pure]
  case makeMap t' r =>
    cases r with
    | some r => cases hc
    | none =>
      injection hc with hc; subst hc
      simp only [exe] at hx; injection hx with hx; injection hx with hx1 hx2; subst hx1; subst hx2
      obtain ⟨v', c1, c2, c3, c4, c5⟩ := new_obj (me := me) (B := .mp [] 0) (o := .map #[] 0) hh hn (fun v' _ _ => ⟨[], rfl, rfl⟩)
      refine eff_some (y := .map (some w.heap.size)) ?_ (by simp only [den, c3]) c1 c2 c5
      simp only [execOp, Instr.makeMap, Option.map_none, Sem.run_bind, run_newObj_alloc, Result.andThen_ok, Sem.run_pure]
  case makeSlice t' l c =>
    split at hc <;> first | (cases hc; done) | skip
    rename_i el l' c' hs hl hcc
    split at hc <;> first | (cases hc; done) | skip
    rename_i i z hi hz
    cases hcond : (Nat.beq z.cells.length i.size && Nat.ble 1 i.size) with
    | false => rw [hcond] at hc; cases hc
    | true =>
      rw [hcond] at hc; simp only [cond_true] at hc; injection hc with hc; subst hc
      simp only [Bool.and_eq_true] at hcond
      obtain ⟨g1, g2⟩ := hcond
      have g1 := Nat.eq_of_beq_eq_true g1
      have g2 := Nat.le_of_ble_eq_true g2
      simp only [exe] at hx
      split at hx <;> first | (cases hx; done) | skip
      rename_i lk lv ck cv e1 e2
      split at hx <;> first | (cases hx; done) | skip
      rename_i hb
      obtain ⟨b1, b2, b3, b4⟩ := hb
      injection hx with hx; injection hx with hx1 hx2; subst hx1; subst hx2
      have k1 := A.sound ht hg hl e1
      have k2 := A.sound ht hg hcc e2
      simp only [den] at k1 k2; injection k1 with k1; injection k2 with k2
      obtain ⟨y, hy, hyc, hzr⟩ := zero_cells hg hz
      have hzs := zerosV_den (n := cv.toNat * i.size) hyc (by omega)
      obtain ⟨v', c1, c2, c3, c4, c5⟩ := new_cells (me := me) (e := el) hh hn hzs
      have hw1 : IntKind.i64.wrap lv = lv := IntWalk.i64_in _ (by omega)
      have hw2 : IntKind.i64.wrap cv = cv := IntWalk.i64_in _ (by omega)
      have hsz : sizeOf? P el = some i.size := by simp [sizeOf?, hi]
      have hif : ¬ (decide (cv < 0) || decide ((i.bytes : Int) * cv > 2 ^ 48) || decide (lv < 0) || decide (lv > cv)) = true := by
        simp; omega
      refine eff_some (y := .slice (some ⟨w.heap.size, 0, none⟩) lv.toNat cv.toNat) ?_ (by rw [den_sl c3 rfl, c4]) c1 c2 c5
      simp only [execOp, ← k1, ← k2, Instr.makeSlice, asInt, asIntOf, Sem.run_bind, run_und hs, Result.andThen_ok, Sem.run_pure, run_info hi, hw1, hw2]
      rw [if_neg (by simpa using hif)]
      simp only [Sem.run_bind, run_askRoom, Result.andThen_ok, run_size hsz]
      have harr : ((Array.range (cv.toNat * i.size)).map fun j => y.cells[j % y.cells.size]!) = ((List.range (cv.toNat * i.size)).map fun j => y.cells.toList.toArray[j % y.cells.toList.toArray.size]!).toArray := by
        apply Array.ext'; simp
      by_cases h0 : cv.toNat * i.size = 0
      · rw [if_pos h0]
        simp only [Sem.run_bind, Sem.run_pure, Result.andThen_ok, h0, show Array.range 0 = #[] from rfl, List.range_zero, List.map_nil, Array.map_empty, run_newRow]
      · rw [if_neg h0]
        simp only [Sem.run_bind, hzr, Sem.run_pure, Result.andThen_ok, harr, run_newRow]
  case store t' p z =>
    split at hc <;> first | (cases hc; done) | skip
    rename_i n p' z' hsz hp hz
    injection hc with hc; subst hc
    simp only [exe] at hx
    split at hx <;> first | (cases hx; done) | skip
    rename_i m off u e1 e2
    split at hx <;> first | (cases hx; done) | skip
    rename_i l opn e3
    cases hcond : (Nat.beq u.cells.length n && Nat.ble (off + n) l.length && u.cells.all V.one) with
    | false => rw [hcond] at hx; cases hx
    | true =>
      rw [hcond] at hx; simp only [cond_true] at hx; injection hx with hx; injection hx with hx1 hx2; subst hx1; subst hx2
      simp only [Bool.and_eq_true] at hcond
      obtain ⟨⟨g1, g2⟩, g3⟩ := hcond
      have g1 := Nat.eq_of_beq_eq_true g1
      have g2 := Nat.le_of_ble_eq_true g2
      have k1 := A.sound ht hg hp e1
      have k2 := A.sound ht hg hz e2
      have hcd := cells_den hg k2
      obtain ⟨b, w', hb, hst, c1, c2⟩ := conc_write (P := P) (o := off) hh hg e3 (by omega) g3 hcd
      simp only [den, hb] at k1; injection k1 with k1
      refine eff_none ?_ c1 c2 (fun _ _ => rfl)
      have hsz2 : (a.eval z).cells.size = n := by have := denL_length hcd; rw [Array.length_toList] at this; omega
      simp only [execOp, ← k1, Instr.storeAt, Instr.sureAddr, storeVar, Sem.run_bind, Sem.run_pure, Result.andThen_ok, run_size hsz]
      rw [if_neg (by omega)]
      simp only [hst, Result.andThen_ok]
  case convert src dst' z =>
    split at hc <;> first | (cases hc; done) | skip
    · rename_i el z' hs hd hz
      split at hc <;> first | (cases hc; done) | skip
      rename_i zz he hzz
      injection hc with hc; subst hc
      simp only [exe] at hx
      split at hx <;> first | (cases hx; done) | skip
      rename_i s e1
      injection hx with hx; injection hx with hx1 hx2; subst hx1; subst hx2
      have k1 := A.sound ht hg hz e1
      simp only [den] at k1; injection k1 with k1
      obtain ⟨c, hcap, hcn⟩ := run_choose_app (P := P) w s.length 0 el
      have hdl : denL v (s.map fun b => V.int .u8 b.toNat) = some (s.map fun b => Value.int .u8 b.toNat) := by
        clear k1 hcap e1 hcn
        induction s with
        | nil => rfl
        | cons b s ih => exact denL_mk rfl ih
      have hle := Val.le_name (v := v) (n := me) (b := w.heap.size) (bas := 0) (tot := c) hn
      obtain ⟨rest, hrest⟩ : ∃ r, r = List.replicate (c - s.length) (Value.int .u8 0) := ⟨_, rfl⟩
      have hrl : rest.length = c - s.length := by rw [hrest]; simp
      -- the row, marked behind its end
      have hW : ∃ w', ((w.drew.alloc (.cells ((s.map fun b => Value.int .u8 b.toNat) ++ rest).toArray el)).freeze { block := w.heap.size, off := c } 1) = w' ∧ w'.os = w.os ∧ w'.tape = w.tape ∧ w'.output = w.output ∧ w'.heap.size = w.heap.size + 1 ∧ (∀ k, k < w.heap.size → w'.heap[k]? = w.heap[k]?) ∧
          w'.heap[w.heap.size]? = some (.cells ((s.map fun b => Value.int .u8 b.toNat) ++ rest).toArray el (c, c + 1)) := by
        have hlast : (w.drew.alloc (.cells ((s.map fun b => Value.int .u8 b.toNat) ++ rest).toArray el)).heap[w.heap.size]? = some (.cells ((s.map fun b => Value.int .u8 b.toNat) ++ rest).toArray el) := by
          show (w.heap.push _)[w.heap.size]? = _
          simp
        have htn := freeze_turn (off := c) hlast
        refine ⟨_, rfl, htn.os, htn.tape, htn.output, ?_, fun k hk => ?_, htn.here⟩
        · rw [htn.size]; show (w.heap.push _).size = _; simp
        · rw [htn.other k (by omega)]
          exact Go.RowKit.Below.heap_alloc w.drew _ k hk
      obtain ⟨w', hw', k2, k3, k4, k5, k6, k7⟩ := hW
      have hok : BlkOk (v.name me w.heap.size 0 c) me (w'.heap[w.heap.size]?) (.cells (s.map fun b => V.int .u8 b.toNat) (some 1)) := by
        refine ⟨[], (s.map fun b => Value.int .u8 b.toNat), rest, el, c, c + 1, by rw [k7]; simp, denL_le hle _ _ hdl, by rw [Val.name_bas]; rfl, ?_, ?_, fun e => by cases e⟩
        · refine ⟨Nat.le_succ c, fun k hk => ?_⟩; simp at hk; omega
        · intro sz hsz; injection hsz with hsz; subst hsz; rw [Val.name_tot]; simp; omega
      have hconc := hh.put (n := me) (B := .cells (s.map fun b => V.int .u8 b.toNat) (some 1)) hle Val.name_blk hok (fun k _ hk => k6 k hk) (fun m C hm hC he => absurd (hh.lt hC he) (Nat.lt_irrefl _))
      have hext : Ext v h w (v.name me w.heap.size 0 c) (h.set me (.cells (s.map fun b => V.int .u8 b.toNat) (some 1))) w' := by
        refine ⟨hle, k2, k3, k4, by omega, fun b hb _ => k6 b hb, fun m C b hC hb => ?_⟩
        rw [T.get_set] at hC
        by_cases hm : m = me
        · subst hm; rw [Val.name_blk] at hb; injection hb with hb; exact .inl (by omega)
        · rw [if_neg hm] at hC; rw [Val.name_other hm] at hb; exact .inr ⟨m, C, hC, hb⟩
      refine eff_some (y := .slice (some ⟨w.heap.size, 0, none⟩) s.length c) (w' := w') ?_ ?_ hconc hext (fun m hm => Val.name_other hm)
      · have hbs : (ByteArray.mk s.toArray).size = s.length := rfl
        have harr : (ByteArray.mk s.toArray).data.map (fun b => Value.int .u8 b.toNat) ++ Array.replicate (c - s.length) (Value.int .u8 0) = ((s.map fun b => Value.int .u8 b.toNat) ++ rest).toArray := by
          apply Array.ext'; rw [hrest]; simp
        simp only [execOp, ← k1, convert, Sem.run_bind, run_und hs, run_und hd, Result.andThen_ok, run_und he, Conv.stringToBytes, hbs, hcap, harr, run_newRow, markStringish, run_shape]
        have hshape : (w.drew.alloc (.cells ((s.map fun b => Value.int .u8 b.toNat) ++ rest).toArray el)).shape? w.drew.heap.size = some (el, c) := by
          have hlast : (w.drew.alloc (.cells ((s.map fun b => Value.int .u8 b.toNat) ++ rest).toArray el)).heap[w.drew.heap.size]? = some (.cells ((s.map fun b => Value.int .u8 b.toNat) ++ rest).toArray el) := by
            show (w.heap.push _)[w.heap.size]? = _
            simp
          simp only [World.shape?, hlast]
          simp; omega
        rw [hshape]
        simp only [run_freeze, Result.andThen_ok, Sem.run_pure]
        have hdsz : w.drew.heap.size = w.heap.size := rfl
        rw [hdsz, hw']
      · rw [den_sl Val.name_blk (q := c) (by simp only [Cp.den, Val.name_tot]; rw [if_pos (by omega)]; simp), Val.name_bas]
    · rename_i e0 el z' hs hd hz
      split at hc <;> first | (cases hc; done) | skip
      rename_i heq he
      injection hc with hc; subst hc
      simp only [exe] at hx
      split at hx <;> first | (cases hx; done) | skip
      rename_i n o len c e1
      split at hx <;> first | (cases hx; done) | skip
      rename_i l opn e2
      injection hx with hx; injection hx with hx1 hx2; subst hx1; subst hx2
      have k1 := A.sound ht hg hz e1
      have k2 := k1
      obtain ⟨b, hb, pre, vs, rest, ty, lo, hi, hob, hdl, hp, hf, hsz⟩ := hh.ok n _ e2
      simp only [den, hb] at k1
      cases hcp : c.den v n len with
      | none => rw [hcp] at k1; cases k1
      | some q =>
        rw [hcp] at k1; injection k1 with k1
        obtain ⟨w', lo', hi', hrun, htn, hle, hfr⟩ := mark_turn (P := P) (off := v.bas n + o) hob hf.1 (fun k hk => hf.2 k (by simp at hk; omega))
        have hok : BlkOk v n (w'.heap[b]?) (.cells l opn) := ⟨pre, vs, rest, ty, lo', hi', htn.here, hdl, hp, ⟨hle, fun k hk => hfr k (by simp; omega)⟩, hsz⟩
        obtain ⟨c1, c2⟩ := conc_turn hh e2 hb hok htn.os htn.tape htn.output htn.size htn.other
        refine eff_some (y := .slice (some ⟨b, v.bas n + o, none⟩) len q) (w' := w') ?_ (by simp only [den, hb, hcp]) c1 c2 (fun m hm => rfl)
        simp only [execOp, ← k1, convert, Sem.run_bind, run_und hs, run_und hd, Result.andThen_ok, run_und he, heq, hrun, Sem.run_pure]
  case range t' z =>
    split at hc <;> first | (cases hc; done) | skip
    · rename_i z' hs hz
      injection hc with hc; subst hc
      simp only [exe] at hx
      split at hx <;> first | (cases hx; done) | skip
      rename_i s e1
      injection hx with hx; injection hx with hx1 hx2; subst hx1; subst hx2
      have k1 := A.sound ht hg hz e1
      simp only [den] at k1; injection k1 with k1
      obtain ⟨v', c1, c2, c3, c4, c5⟩ := new_obj (me := me) (B := .sit s 0) (o := .stringIter ⟨s.toArray⟩ 0) hh hn (fun v' _ hb => ⟨rfl, hb⟩)
      refine eff_some (y := .pointer (some ⟨w.heap.size, 0, none⟩)) ?_ (by simp only [den, c3, c4]) c1 c2 c5
      simp only [execOp, ← k1, Instr.range, Sem.run_bind, run_und hs, Result.andThen_ok, Sem.run_pure, run_newObj_alloc]
    · rename_i kt et z' hs hz
      injection hc with hc; subst hc
      simp only [exe] at hx
      split at hx <;> first | (cases hx; done) | skip
      · rename_i e1
        injection hx with hx; injection hx with hx1 hx2; subst hx1; subst hx2
        have k1 := A.sound ht hg hz e1
        simp only [den] at k1; injection k1 with k1
        obtain ⟨v', c1, c2, c3, c4, c5⟩ := new_obj (me := me) (B := .mit none 0 [] 0) (o := .mapIter none 0 #[] 0) hh hn (fun v' _ hb => ⟨none, rfl, rfl, hb⟩)
        refine eff_some (y := .pointer (some ⟨w.heap.size, 0, none⟩)) ?_ (by simp only [den, c3, c4]) c1 c2 c5
        simp only [execOp, ← k1, Instr.range, Sem.run_bind, run_und hs, Result.andThen_ok, Sem.run_pure, run_newObj_alloc]
      · rename_i n e1
        split at hx <;> first | (cases hx; done) | skip
        rename_i es clock e2
        injection hx with hx; injection hx with hx1 hx2; subst hx1; subst hx2
        have k1 := A.sound ht hg hz e1
        obtain ⟨b, hb, l, hl, ho⟩ := hh.ok n _ e2
        simp only [den, hb] at k1; injection k1 with k1
        have hget : (getObj b).run P w = .ok (.map l.toArray clock) w := by simp [getObj, Sem.run, ho]
        obtain ⟨v', c1, c2, c3, c4, c5⟩ := new_obj (me := me) (B := .mit (some n) clock [] clock) (o := .mapIter (some b) clock #[] clock) hh hn (fun v' hv hb' => ⟨some b, ⟨b, (hv.blk n b hb).1, rfl⟩, rfl, hb'⟩)
        refine eff_some (y := .pointer (some ⟨w.heap.size, 0, none⟩)) ?_ (by simp only [den, c3, c4]) c1 c2 c5
        simp only [execOp, ← k1, Instr.range, Sem.run_bind, run_und hs, Result.andThen_ok, hget, Sem.run_pure, run_newObj_alloc]
  case mapUpdate t' m k z => exact upd_sound ht hg hn hh hc hx rfl
  case insert t' m k z => exact upd_sound ht hg hn hh hc hx rfl
  case next it st =>
    obtain ⟨it', hit, rfl⟩ := opt_map hc
    exact next_sound ht hg hn hh hit hx
  case call c =>
    obtain ⟨callee, args, ats⟩ := c
    cases callee <;> simp only at hc <;> first | (cases hc; done) | skip
    rename_i bi
    cases bi <;> simp only at hc <;> first | (cases hc; done) | skip
    case append =>
      split at hc <;> first | (cases hc; done) | skip
      rename_i s z ts tx hargs hats
      obtain rfl : args = #[s, z] := by rw [← Array.toArray_toList (xs := args), hargs]
      obtain rfl : ats = #[ts, tx] := by rw [← Array.toArray_toList (xs := ats), hats]
      split at hc <;> first | (cases hc; done) | skip
      rename_i el d s' z' hs hd hsA hzA
      split at hc <;> first | (cases hc; done) | skip
      rename_i i zz hi hz hdd
      cases hcond : (Nat.beq zz.cells.length i.size && Nat.ble 1 i.size && Nat.ble 1 i.bytes) with
      | false => rw [hcond] at hc; cases hc
      | true =>
        rw [hcond] at hc; simp only [cond_true] at hc; injection hc with hc; subst hc
        simp only [Bool.and_eq_true] at hcond
        obtain ⟨⟨g1, g2⟩, g3⟩ := hcond
        have g1 := Nat.eq_of_beq_eq_true g1
        have g2 := Nat.le_of_ble_eq_true g2
        have g3 := Nat.le_of_ble_eq_true g3
        have hdd' : d = .string ∨ ∃ q, d = .slice q := by
          cases d <;> simp at hdd
          · exact .inl rfl
          · exact .inr ⟨_, rfl⟩
        simp only [exe] at hx
        split at hx <;> first | (cases hx; done) | skip
        rename_i sv xv e1 e2
        split at hx <;> first | (cases hx; done) | skip
        rename_i r h2 e3
        injection hx with hx; injection hx with hx1 hx2; subst hx1; subst hx2
        have k1 := A.sound ht hg hsA e1
        have k2 := A.sound ht hg hzA e2
        obtain ⟨v', w', y, q1, q2, q3, q4, q5⟩ := appV_sound (P := P) (ty := ty) hh hg hn hs hd hdd' hi hz g1 g2 g3 k1 k2 e3
        refine eff_some (y := y) ?_ q2 q3 q4 q5
        simp only [execOp, resolve, invoke, builtin, List.map_toArray, List.map_cons, List.map_nil, Sem.run_bind, Sem.run_pure, Result.andThen_ok, q1]
    case copy =>
      split at hc <;> first | (cases hc; done) | skip
      rename_i dd s td ts hargs hats
      obtain rfl : args = #[dd, s] := by rw [← Array.toArray_toList (xs := args), hargs]
      obtain rfl : ats = #[td, ts] := by rw [← Array.toArray_toList (xs := ats), hats]
      split at hc <;> first | (cases hc; done) | skip
      rename_i el d' s' hs hdA hsA
      obtain ⟨n, hsz, rfl⟩ := opt_map hc
      exact copy_sound ht hg hn hh hs hsz hdA hsA hx
    case delete =>
      split at hc <;> first | (cases hc; done) | skip
      rename_i m k tm tk hargs hats
      obtain rfl : args = #[m, k] := by rw [← Array.toArray_toList (xs := args), hargs]
      obtain rfl : ats = #[tm, tk] := by rw [← Array.toArray_toList (xs := ats), hats]
      split at hc <;> first | (cases hc; done) | skip
      rename_i kt et m' k' hs hmA hkA
      obtain ⟨kk, hkk, rfl⟩ := opt_map hc
      exact delete_sound ht hg hn hh hs hkk hmA hkA hx
end
end Go.Proofs.YtaaofanhjolikaaGreatDoor.Sx
