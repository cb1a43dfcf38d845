/- A machine of names: append does what the table says. Over any program. -/
import Derived.Test.YtaaofanhjolikaaGreatDoorSxEff3
set_option linter.unusedVariables false
set_option linter.unusedSimpArgs false
namespace Go.Proofs.YtaaofanhjolikaaGreatDoor.Sx
open Go

section
variable {P : Program} {G : Nat} {v : Val} {t : T V} {a : Act} {h : Heap} {w : World}

theorem ext_del (n : Nat) : Ext v h w v (h.del n) w :=
  ⟨.refl v, rfl, rfl, rfl, Nat.le_refl _, fun _ _ _ => rfl, fun m B b h1 h2 => by
    rw [T.get_del] at h1
    by_cases hm : m = n
    · rw [if_pos hm] at h1; cases h1
    · rw [if_neg hm] at h1; exact .inr ⟨m, B, h1, h2⟩⟩

/-- what is appended behind all that is known of an open block, in place -/
theorem conc_onto {me b o d len n e : Nat} {l xs : List V} {ys : List Value} (hh : Conc v h w) (hg : GOk v G) (hn : v.blk me = none) (hb : h.get b = some (.cells l (some e))) (ho : o = d * e) (hl : o + len * e = l.length)
    (hx : xs.all V.one = true) (hd : denL v xs = some ys) (hyl : ys.length = n * e) (hfit : d + len + n ≤ v.tot b) :
    ∃ k v' w', v.blk b = some k ∧ (storeCells ⟨k, v.bas b + o + len * e, none⟩ ys).run P w = .ok () w' ∧ v'.blk me = some k ∧ v'.bas me = v.bas b + o ∧ v'.tot me = v.tot b - d ∧
      Conc v' ((h.del b).set me (.cells (l.drop o ++ xs) (some e))) w' ∧ Ext v h w v' ((h.del b).set me (.cells (l.drop o ++ xs) (some e))) w' ∧ (∀ m, m ≠ me → v'.blk m = v.blk m) := by
  obtain ⟨k, hk, pre, vs, rest, ty, lo, hi, hob, hdl, hp, hf, hsz⟩ := hh.ok b _ hb
  have hvl := denL_length hdl
  obtain ⟨q1, q2⟩ := hsz.1 e rfl
  have hmul : (d + len + n) * e ≤ v.tot b * e := Nat.mul_le_mul_right _ hfit
  have hexp : (d + len + n) * e = d * e + len * e + n * e := by rw [Nat.add_mul, Nat.add_mul]
  have hrest : n * e ≤ rest.length := by omega
  have hsplit : pre ++ vs ++ rest = (pre ++ vs) ++ rest.take (n * e) ++ rest.drop (n * e) := by
    conv => lhs; rw [← List.take_append_drop (n * e) rest]
    simp
  rw [hsplit] at hob
  obtain ⟨w', hr, ht⟩ := run_storeCells_turn (P := P) (o := v.bas b + o + len * e) ys (rest.take (n * e)) (pre ++ vs) (rest.drop (n * e)) 0 w hob (by simp; omega) (by simp; omega)
    (fun j hj1 hj2 => hf.2 j (by simp at hj1 hj2; omega)) (ones_den hg hx hd)
  have hle := Val.le_name (v := v) (n := me) (b := k) (bas := v.bas b + o) (tot := v.tot b - d) hn
  have hok : BlkOk (v.name me k (v.bas b + o) (v.tot b - d)) me (w'.heap[k]?) (.cells (l.drop o ++ xs) (some e)) := by
    have ho2 : o ≤ vs.length := by omega
    refine ⟨pre ++ vs.take o, vs.drop o ++ ys, rest.drop (n * e), ty, lo, hi, ?_, denL_le hle _ _ (denL_append (denL_drop o hdl) hd), ?_, ?_, ?_, fun e => by cases e⟩
    · rw [ht.here]
      have : pre ++ vs ++ ys ++ rest.drop (n * e) = pre ++ vs.take o ++ (vs.drop o ++ ys) ++ rest.drop (n * e) := by
        simp only [List.append_assoc]
        rw [← List.append_assoc (vs.take o), List.take_append_drop]
      rw [this]
    · rw [Val.name_bas]; simp; omega
    · refine ⟨hf.1, fun j hj => ?_⟩; refine hf.2 j ?_; simp at hj; omega
    · intro s hs
      injection hs with hs; subst hs
      rw [Val.name_tot]
      have e1 : (v.tot b - d) * e = v.tot b * e - d * e := Nat.sub_mul _ _ _
      constructor
      · simp; omega
      · simp; omega
  have hc := (hh.del b).put (n := me) (B := .cells (l.drop o ++ xs) (some e)) hle Val.name_blk hok (fun j hj _ => ht.other j hj) (fun m C hm hC he => by
    rw [T.get_del] at hC
    by_cases hmb : m = b
    · rw [if_pos hmb] at hC; cases hC
    · rw [if_neg hmb] at hC; exact hmb (hh.inj m b C _ hC hb (he.trans hk.symm)))
  refine ⟨k, _, w', hk, hr, Val.name_blk, Val.name_bas, Val.name_tot, hc, ⟨hle, ht.os, ht.tape, ht.output, by rw [ht.size]; exact Nat.le_refl _, fun j hj hno => ht.other j (fun e' => hno b _ hb (e' ▸ hk)), fun m C j hC hj => ?_⟩, fun m hm => Val.name_other hm⟩
  rw [T.get_set] at hC
  by_cases hm : m = me
  · subst hm; rw [Val.name_blk] at hj; injection hj with hj; subst hj; exact .inr ⟨b, _, hb, hk⟩
  · rw [if_neg hm, T.get_del] at hC
    by_cases hmb : m = b
    · rw [if_pos hmb] at hC; cases hC
    · rw [if_neg hmb] at hC; rw [Val.name_other hm] at hj; exact .inr ⟨m, C, hC, hj⟩

theorem appV_sound {me : Nat} {s x r : V} {h' : Heap} {S X : Value} {ty ts tx e : TypeId} {i : TypeInfo} {d : TypeDesc} {z : V} (hh : Conc v h w) (hg : GOk v G) (hn : v.blk me = none)
    (hs : P.underlying ts = some (.slice e)) (hd : P.underlying tx = some d) (hdd : d = .string ∨ ∃ q, d = .slice q) (hi : P.info? e = some i) (hz : zero? P e = some z) (hzc : z.cells.length = i.size) (h1 : 1 ≤ i.size) (hb1 : 1 ≤ i.bytes)
    (hS : den v s = some S) (hX : den v x = some X) (ha : appV me i.size i.bytes h s x = some (r, h')) :
    ∃ v' w' y, (Builtin.append_ #[ts, tx] ty #[S, X]).run P w = .ok y w' ∧ den v' r = some y ∧ Conc v' h' w' ∧ Ext v h w v' h' w' ∧ (∀ m, m ≠ me → v'.blk m = v.blk m) := by
  unfold appV at ha
  cases he : elemsV i.size h x with
  | none => rw [he] at ha; cases ha
  | some p =>
    obtain ⟨n, xs⟩ := p
    rw [he] at ha; simp only at ha
    cases hone : xs.all V.one with
    | false => rw [hone] at ha; cases ha
    | true =>
      rw [hone] at ha; simp only [Bool.not_true, cond_false] at ha
      obtain ⟨ys, hys, hyl, hlen, hcells⟩ := elems_sound (P := P) hh hX he
      have hcn := hcells n (Nat.le_refl _)
      rw [List.take_of_length_le (by omega)] at hcn
      obtain ⟨ys', hys', hyl', hlen', hcells'⟩ := elems_sound (P := P) hh.drew hX he
      rw [hys] at hys'; injection hys' with hys'; subst hys'
      have hcnD := hcells' n (Nat.le_refl _)
      rw [List.take_of_length_le (by omega)] at hcnD
      obtain ⟨zv, hzd, _⟩ := run_zero (P := P) (v := v) (w := w) hz
      have hz0 : ∀ w, (zeroValue e).run P w = .ok zv w := fun w => by
        obtain ⟨zv', hzd', hr⟩ := run_zero (P := P) (v := v) (w := w) hz
        rw [hzd] at hzd'; injection hzd' with hzd'; subst hzd'; exact hr
      have hzl : zv.cells.size = i.size := by
        have := denL_length (cells_den hg hzd)
        rw [Array.length_toList] at this
        omega
      -- a new block
      have hgrow : ∀ (base : Option Addr) (len cap : Nat) (os : List Value) (ol : List V) (hx2 : Heap), S = .slice base len cap → Conc v hx2 w → Ext v h w v hx2 w → denL v ol = some os → os.length = len * i.size →
          (Builtin.firstCells i.size len (.slice base len cap)).run P w.drew = .ok os.toArray w.drew → ¬ len + n ≤ cap → Builtin.nextslicecap (len + n) cap * i.bytes ≤ 2 ^ 48 →
          ∃ v' w' y, (Builtin.append_ #[ts, tx] ty #[S, X]).run P w = .ok y w' ∧ den v' (.sl me 0 (len + n) (.op 0)) = some y ∧ Conc v' (hx2.set me (.cells (ol ++ xs) (some i.size))) w' ∧ Ext v h w v' (hx2.set me (.cells (ol ++ xs) (some i.size))) w' ∧ (∀ m, m ≠ me → v'.blk m = v.blk m) := by
        rintro base len cap os ol hx2 rfl hc2 hx2e hol hos hfo hle hcap
        obtain ⟨c, rest, hc, hrl, hrun⟩ := append_grows (P := P) (w := w) (ty := ty) hs hd hdd hi hlen hcnD hfo hle hb1 hcap hz0 hzl
        have hmul : (len + n) * i.size ≤ c * i.size := Nat.mul_le_mul_right _ hc
        have hexp : (len + n) * i.size = len * i.size + n * i.size := Nat.add_mul _ _ _
        have hexp2 : (c - (len + n)) * i.size = c * i.size - (len + n) * i.size := Nat.sub_mul _ _ _
        obtain ⟨v', k1, k2, k3, k4, k5, k6⟩ := new_open (me := me) (tot := c) (sz := i.size) (e := e) (rest := rest) hc2.drew hn (denL_append hol hys) (by simp; omega) (by simp; omega)
        refine ⟨v', _, _, hrun, ?_, k1, ?_, k6⟩
        · have hsz : w.drew.heap.size = w.heap.size := rfl
          rw [den_sl k3 (q := c) (by simp only [Cp.den, k5]; rw [if_pos (by omega)]; simp), k4, hsz]
        · exact hx2e.trans (Ext.drew.trans k2)
      cases s <;> (try simp only at ha) <;> first | (cases ha; done) | skip
      case sl0 =>
        simp only [den] at hS; injection hS with hS; subst hS
        cases hn0 : Nat.beq n 0 with
        | true =>
          rw [hn0] at ha; simp only [cond_true] at ha; injection ha with ha; injection ha with ha1 ha2; subst ha1; subst ha2
          obtain rfl := Nat.eq_of_beq_eq_true hn0
          refine ⟨v, w, .slice none 0 0, ?_, rfl, hh, Ext.refl, fun _ _ => rfl⟩
          rw [append_fits (P := P) (w := w) (ty := ty) hs hd hdd hi hlen hcn (Nat.le_refl _)]
          rfl
        | false =>
          rw [hn0] at ha; simp only [cond_false] at ha
          cases hcp : Nat.ble (nextCap n 0 * i.bytes) (2 ^ 48) with
          | false => rw [hcp] at ha; cases ha
          | true =>
            rw [hcp] at ha; simp only [cond_true] at ha; injection ha with ha; injection ha with ha1 ha2; subst ha1; subst ha2
            have hn1 : n ≠ 0 := fun e => by subst e; simp at hn0
            have := hgrow none 0 0 [] [] h rfl hh Ext.refl rfl (by simp) rfl (by omega) (by rw [Nat.zero_add]; exact Nat.le_of_ble_eq_true hcp)
            simpa using this
      case sl b o len cc =>
        have hS' := hS
        simp only [den] at hS
        split at hS <;> first | (cases hS; done) | skip
        rename_i k q hk hq
        injection hS with hS
        subst hS
        cases cc with
        | kn c =>
          simp only [Cp.den] at hq; injection hq with hq; subst hq
          simp only at ha
          cases hfit : Nat.ble (len + n) c with
          | true =>
            rw [hfit] at ha; simp only [cond_true] at ha
            have hle := Nat.le_of_ble_eq_true hfit
            have hrun := append_fits (P := P) (w := w) (ty := ty) (base := some ⟨k, v.bas b + o, none⟩) hs hd hdd hi hlen hcn hle
            cases hn0 : Nat.beq n 0 with
            | true =>
              rw [hn0] at ha; simp only [cond_true] at ha; injection ha with ha; injection ha with ha1 ha2; subst ha1; subst ha2
              have hn00 := Nat.eq_of_beq_eq_true hn0
              subst hn00
              have hynil : ys = [] := List.eq_nil_of_length_eq_zero (by omega)
              subst hynil
              exact ⟨v, w, _, hrun, hS', hh, Ext.refl, fun _ _ => rfl⟩
            | false =>
              rw [hn0] at ha; simp only [cond_false] at ha
              split at ha <;> first | (cases ha; done) | skip
              rename_i l opn e2
              cases hin : Nat.ble (o + (len + n) * i.size) l.length with
              | false => rw [hin] at ha; cases ha
              | true =>
                rw [hin] at ha; simp only [cond_true] at ha; injection ha with ha; injection ha with ha1 ha2; subst ha1; subst ha2
                have hin2 := Nat.le_of_ble_eq_true hin
                have hxl : xs.length = n * i.size := by rw [← denL_length hys]; exact hyl
                have hexp : (len + n) * i.size = len * i.size + n * i.size := Nat.add_mul _ _ _
                obtain ⟨k', w', hk', hst, c1, c2⟩ := conc_write (P := P) (o := o + len * i.size) hh hg e2 (by omega) hone hys
                rw [hk] at hk'; injection hk' with hk'; subst hk'
                refine ⟨v, w', _, ?_, den_sl hk rfl, c1, c2, fun _ _ => rfl⟩
                rw [hrun]
                simp only [Sem.run_bind, addr_add, Nat.add_assoc, hst, Result.andThen_ok, Sem.run_pure]
          | false =>
            rw [hfit] at ha; simp only [cond_false] at ha
            have hle : ¬ len + n ≤ c := fun hle => by rw [Nat.ble_eq_true_of_le hle] at hfit; cases hfit
            cases hl0 : Nat.beq len 0 with
            | true =>
              rw [hl0] at ha; simp only [cond_true] at ha
              have hl00 := Nat.eq_of_beq_eq_true hl0
              subst hl00
              cases hcp : Nat.ble (nextCap (0 + n) c * i.bytes) (2 ^ 48) with
              | false => rw [hcp] at ha; cases ha
              | true =>
                rw [hcp] at ha; simp only [cond_true] at ha; injection ha with ha; injection ha with ha1 ha2; subst ha1; subst ha2
                have := hgrow _ 0 c [] [] h rfl hh Ext.refl rfl (by simp) (by simp [Builtin.firstCells, loadCells, loadCellsFrom]) hle (Nat.le_of_ble_eq_true hcp)
                simpa using this
            | false =>
              rw [hl0] at ha; simp only [cond_false] at ha
              split at ha <;> first | (cases ha; done) | skip
              rename_i l opn e2
              cases hin : (Nat.ble (o + len * i.size) l.length && Nat.ble (nextCap (len + n) c * i.bytes) (2 ^ 48)) with
              | false => rw [hin] at ha; cases ha
              | true =>
                rw [hin] at ha; simp only [cond_true] at ha; injection ha with ha; injection ha with ha1 ha2; subst ha1; subst ha2
                rw [Bool.and_eq_true] at hin
                have hes : elemsV i.size h (.sl b o len (.kn c)) = some (len, (l.take (o + len * i.size)).drop o) := by simp only [elemsV, e2, hin.1, cond_true]
                obtain ⟨os, hos, hosl, _, hoc⟩ := elems_sound (P := P) hh.drew hS' hes
                have hoc2 := hoc len (Nat.le_refl _)
                rw [List.take_of_length_le (by omega)] at hoc2
                exact hgrow _ len c os _ h rfl hh Ext.refl hos hosl hoc2 hle (Nat.le_of_ble_eq_true hin.2)
        | op d0 =>
          simp only at ha
          have hq' := hq
          simp only [Cp.den] at hq
          by_cases hdl : d0 + len ≤ v.tot b
          · rw [if_pos hdl] at hq; injection hq with hq; subst hq
            cases hn0 : Nat.beq n 0 with
            | true =>
              rw [hn0] at ha; simp only [cond_true] at ha; injection ha with ha; injection ha with ha1 ha2; subst ha1; subst ha2
              have hn00 := Nat.eq_of_beq_eq_true hn0
              subst hn00
              have hynil : ys = [] := List.eq_nil_of_length_eq_zero (by omega)
              subst hynil
              exact ⟨v, w, _, append_fits (P := P) (w := w) (ty := ty) (base := some ⟨k, v.bas b + o, none⟩) hs hd hdd hi hlen hcn (by omega), hS', hh, Ext.refl, fun _ _ => rfl⟩
            | false =>
              rw [hn0] at ha; simp only [cond_false] at ha
              split at ha <;> first | (cases ha; done) | skip
              rename_i l e' e2
              cases hin : (Nat.beq e' i.size && Nat.beq o (d0 * i.size) && Nat.beq (o + len * i.size) l.length && Nat.ble ((2 * (len + n) + 192) * i.bytes) (2 ^ 48)) with
              | false => rw [hin] at ha; cases ha
              | true =>
                rw [hin] at ha; simp only [cond_true] at ha; injection ha with ha; injection ha with ha1 ha2; subst ha1; subst ha2
                simp only [Bool.and_eq_true] at hin
                obtain ⟨⟨⟨g1, g2⟩, g3⟩, g4⟩ := hin
                have g1 := Nat.eq_of_beq_eq_true g1
                subst g1
                have g2 := Nat.eq_of_beq_eq_true g2
                have g3 := Nat.eq_of_beq_eq_true g3
                have g4 := Nat.le_of_ble_eq_true g4
                by_cases hfit : len + n ≤ v.tot b - d0
                · obtain ⟨k', v', w', hk', hst, q1, q2, q3, q4, q5, q6⟩ := conc_onto (P := P) (len := len) (n := n) hh hg hn e2 g2 g3 hone hys hyl (by omega)
                  rw [hk] at hk'; injection hk' with hk'; subst hk'
                  refine ⟨v', w', .slice (some ⟨k, v.bas b + o, none⟩) (len + n) (v.tot b - d0), ?_, ?_, q4, q5, q6⟩
                  · rw [append_fits (P := P) (w := w) (ty := ty) (base := some ⟨k, v.bas b + o, none⟩) hs hd hdd hi hlen hcn hfit]
                    simp only [Sem.run_bind, addr_add, hst, Result.andThen_ok, Sem.run_pure]
                  · rw [den_sl q1 (q := v.tot b - d0) (by simp only [Cp.den, q3]; rw [if_pos (by omega)]; simp), q2]; simp
                · have hes : elemsV i.size h (.sl b o len (.op d0)) = some (len, (l.take (o + len * i.size)).drop o) := by
                    simp only [elemsV, e2, g3]
                    rw [Nat.ble_eq_true_of_le (Nat.le_refl _)]; rfl
                  rw [g3, List.take_of_length_le (Nat.le_refl _)] at hes
                  obtain ⟨os, hos, hosl, _, hoc⟩ := elems_sound (P := P) hh.drew hS' hes
                  have hoc2 := hoc len (Nat.le_refl _)
                  rw [List.take_of_length_le (by omega)] at hoc2
                  refine hgrow _ len (v.tot b - d0) os _ (h.del b) rfl (hh.del b) (ext_del b) hos hosl hoc2 hfit ?_
                  have := nextCap_le (len + n) (v.tot b - d0) (by omega)
                  exact Nat.le_trans (Nat.mul_le_mul_right _ this) g4
          · rw [if_neg hdl] at hq; cases hq
end
end Go.Proofs.YtaaofanhjolikaaGreatDoor.Sx
