/- A machine of names: regions that leave their order open, by a plan, do what the plan says. Over any program. -/
import Derived.Test.YtaaofanhjolikaaGreatDoorSxPlan
set_option linter.unusedVariables false
set_option linter.unusedSimpArgs false
namespace Go.Proofs.YtaaofanhjolikaaGreatDoor.Sx
open Go

section
variable {P : Program} {G N : Nat} {ops : Array Oper} {cos : T CO} {A : T Nat} {base : Nat}

theorem wpOp_of {i : Nat} {o : Oper} {a : Act} {w : World} {K : Act → World → Prop} {Q : Exit → Act → World → Prop} (hi : ops[i]? = some o) (h : if Region.wanted o (yielded ops a.tmps) = true then o.wp P a w K Q else K (a.put o.dst undef) w) : wpOp P ops Q i K a w := by
  unfold wpOp
  simp only [hi]
  split
  · rename_i hw; rw [if_pos hw] at h; exact .inl h
  · rename_i hw; rw [if_neg hw] at h; exact h
theorem TOk.del' {v : Val} {t : T V} {a : Act} {d : Nat} (h : TOk v t a) : TOk v (t.del d) a := by
  intro i z hz
  rw [T.get_del] at hz
  by_cases hi : i = d
  · rw [if_pos hi] at hz; cases hz
  · rw [if_neg hi] at hz; exact h i z hz
theorem conc_sub {v : Val} {h h' : Heap} {w : World} (hs : ∀ n B, h.get n = some B → h'.get n = some B) (c : Conc v h' w) : Conc v h w :=
  ⟨fun n B hB => c.ok n B (hs n B hB), fun n m B C hB hC he => c.inj n m B C (hs n B hB) (hs m C hC) he⟩
theorem far_at {M : T (Nat × Nat)} {i : Nat} : ∀ {l : List Nat} {j : Nat}, farB M i l = true → j ∈ l → ∃ x y, M.get i = some x ∧ M.get j = some y ∧ apartM x y = true
  | [], j, _, h => by cases h
  | k :: r, j, hf, h => by
    simp only [farB, Bool.and_eq_true] at hf
    rcases List.mem_cons.1 h with rfl | h
    · have := hf.1
      split at this
      · rename_i x y e1 e2; exact ⟨x, y, e1, e2, this⟩
      · cases this
    · exact far_at hf.2 h
theorem lor_comm2 (L a b : Nat) : Nat.lor (Nat.lor L a) b = Nat.lor (Nat.lor L b) a := by
  show (L ||| a) ||| b = (L ||| b) ||| a
  rw [Nat.or_assoc, Nat.or_comm a b, ← Nat.or_assoc]

theorem evCl_nx {cl : Cl} (hcl : ClSound P G cl) {f : Nat} {xs : List V} {d : Option Nat} {s s' : St} (he : evCl cl f xs d s = some s') : s.nx ≤ s'.nx := by
  unfold evCl at he
  cases hcf : cl f xs s.h s.nx with
  | none => rw [hcf] at he; cases he
  | some p =>
    obtain ⟨r, h', nx'⟩ := p
    rw [hcf] at he; injection he with he; subst he
    exact (hcl f xs s.h s.nx r h' nx' hcf).1
theorem evOp_nx {cl : Cl} (hcl : ClSound P G cl) {me : Nat} {co : CO} {s s' : St} (he : evOp cl me co s = some s') : s.nx ≤ s'.nx := by
  unfold evOp at he
  split at he
  · cases he
  · injection he with he; subst he; exact Nat.le_refl _
  · split at he
    · split at he <;> first | (cases he; done) | (injection he with he; subst he; exact Nat.le_refl _)
    · split at he <;> first | (cases he; done) | (injection he with he; subst he; exact Nat.le_refl _)
    · split at he <;> first | (cases he; done) | (injection he with he; subst he; exact Nat.le_refl _)
    · split at he <;> first | (cases he; done) | exact evCl_nx hcl he
    · split at he <;> first | (cases he; done) | exact evCl_nx hcl he
    · cases he
theorem evT_same : ∀ (qs : List Nat) (s s2 : St) (held held2 : List Hd), evT cos base qs s held = some (s2, held2) → s2.nx = s.nx ∧ s2.h = s.h
  | [], s, s2, held, held2, h => by simp only [evT] at h; injection h with h; injection h with h1 _; rw [h1]; exact ⟨rfl, rfl⟩
  | i :: qs, s, s2, held, held2, h => by
    simp only [evT] at h
    split at h <;> first | (cases h; done) | skip
    split at h <;> first | (cases h; done) | skip
    have := evT_same qs _ _ _ _ h
    exact this
theorem evP_nx {cl : Cl} (hcl : ClSound P G cl) {n : Nat} {s' : St} : ∀ (p : Pl) (s : St) (held : List Hd), evP cl A n cos base p s held = some s' → s.nx ≤ s'.nx
  | .nil, s, held, he => by simp only [evP] at he; injection he with he; subst he; exact Nat.le_refl _
  | .tk qs r, s, held, he => by
    simp only [evP] at he
    split at he <;> first | (cases he; done) | skip
    rename_i s2 held2 het
    rw [← (evT_same qs s s2 held held2 het).1]
    exact evP_nx hcl r s2 held2 he
  | .one i r, s, held, he => by
    simp only [evP] at he
    split at he <;> first | (cases he; done) | skip
    split at he <;> first | (cases he; done) | skip
    rename_i s1 hev
    simp only [cond_eq_ite] at he
    split at he <;> first | (cases he; done) | skip
    exact Nat.le_trans (evOp_nx hcl hev) (evP_nx hcl r s1 held he)
  | .late j i qs r, s, held, he => by
    simp only [evP] at he
    split at he <;> first | (cases he; done) | skip
    split at he <;> first | (cases he; done) | skip
    simp only [cond_eq_ite] at he
    split at he <;> first | (cases he; done) | skip
    split at he <;> first | (cases he; done) | skip
    rename_i s1 hev
    split at he <;> first | (cases he; done) | skip
    split at he <;> first | (cases he; done) | skip
    rename_i s2 hd2 het
    split at he <;> first | (cases he; done) | skip
    have h1 := evOp_nx hcl hev
    simp only at h1
    have h2 : s2.nx = s1.nx := (evT_same qs s1 s2 held hd2 het).1
    have h3 := evP_nx hcl r _ hd2 he
    simp only at h3
    omega

theorem evP_sound {n : Nat} {M : T (Nat × Nat)} {cl : Cl} (hcl : ClSound P G cl) (hcos : ∀ i co, cos.get i = some co → ∃ o, ops[i]? = some o ∧ compCO P G N ops o = some co) (hn : ops.size = n) (hM : ∀ i x, M.get i = some x → ∃ o, ops[i]? = some o ∧ x = lookM ops o) (hsel : ∀ (j : Nat) (o : Oper) cs b, ops[j]? = some o → o.op ≠ .select cs b)
    (hA : ancOk A ops.toList 0 = true) {Q : Exit → Act → World → Prop} {s' : St} : ∀ (p : Pl) (L : Nat) (listed : Array Bool) (s : St) (held : List Hd) (v : Val) (a : Act) (w : World) (H : List (Nat × (World → Prop))),
      Msk L listed n → Closed ops listed → fits (dmasks ops.toList 0 .lf) A M n p L = true → evP cl A n cos base p s held = some s' → Gam G N v s a w → HOk P G v held H → FrU v base n L → base + n ≤ s.nx →
      (∀ v' a' w', Gam G N v' s' a' w' → Ext v s.h w v' s'.h w' → (∀ m, m < base → v'.blk m = v.blk m) → Q .normal a' w') → Safe P ops (NoPanic Q) (ancB A n) H p.len listed a w ∧ s.nx ≤ s'.nx
  | .nil, L, listed, s, held, v, a, w, H, hm, hc, hf, he, hg, hH, hfr, hb, hQ => by
    simp only [evP] at he; injection he with he; subst he
    simp only [fits] at hf
    have := eqL_eq hf
    subst hn
    rw [rdys_eq hm] at this
    exact ⟨safe_nil this (hQ v a w hg Ext.refl (fun _ _ => rfl)), Nat.le_refl _⟩
  | .tk qs r, L, listed, s, held, v, a, w, H, hm, hc, hf, he, hg, hH, hfr, hb, hQ => by
    have hanc : AncOk ops (ancB A n) := by rw [← hn]; exact ancB_ok hA
    simp only [fits] at hf
    cases hft : fitT (dmasks ops.toList 0 .lf) A M n qs L with
    | none => rw [hft] at hf; cases hf
    | some L2 =>
      rw [hft] at hf; simp only at hf
      have he0 := he
      simp only [evP] at he
      cases het : evT cos base qs s held with
      | none => rw [het] at he; cases he
      | some p =>
        obtain ⟨s2, held2⟩ := p
        rw [het] at he; simp only at he
        refine ⟨takes_sound hcos hn hM hsel hanc qs L L2 listed s s2 held held2 v a H hm hc hft het hg hH hfr hb (fun listed2 v2 a2 H2 q1 q2 q3 q4 q5 q6 q7 q8 q9 q10 q11 => ?_), ?_⟩
        · exact (evP_sound hcl hcos hn hM hsel hA r L2 listed2 s2 held2 v2 a2 w H2 q1 q2 hf he q3 q8 q7 (by rw [q10]; exact hb) (fun v' a' w' k1 k2 k3 => hQ v' a' w' k1 ((by rw [q9]; exact ext_le hg.h q4 : Ext v s.h w v2 s2.h w).trans k2) (fun m hm' => by rw [k3 m hm', q5 m (.inr hm')]))).1
        · exact evP_nx hcl (.tk qs r) s held he0
  | .one i r, L, listed, s, held, v, a, w, H, hm, hc, hf, he, hg, hH, hfr, hb, hQ => by
    simp only [fits, Bool.and_eq_true] at hf
    obtain ⟨⟨f1, f2⟩, f3⟩ := hf
    have f1 := eqL_eq f1
    have f2 := Nat.le_of_ble_eq_true f2
    have hrd : Region.ready .any ops listed = [i] := by rw [← f1]; subst hn; exact (rdys_eq hm).symm
    have he0 := he
    simp only [evP] at he
    cases hco : cos.get i with
    | none => rw [hco] at he; cases he
    | some co =>
      rw [hco] at he; simp only at he
      obtain ⟨o, ho, hcc⟩ := hcos i co hco
      cases hev : evOp cl (base + i) co s with
      | none => rw [hev] at he; cases he
      | some s1 =>
        rw [hev] at he; simp only at he
        cases hck : chk A n i s1.h held with
        | false => rw [hck] at he; cases he
        | true =>
          rw [hck] at he; simp only [cond_true] at he
          have hrdy : i ∈ Region.ready .any ops listed := by rw [hrd]; exact List.mem_cons_self ..
          have hun : L.testBit i = false := by
            have := (mem_ready.1 hrdy).1
            rw [← hm.2]; exact getD_of_getD this
          have hme : v.blk (base + i) = none := hfr i f2 hun
          have hnx := (evOp_sound (P := P) (K := fun _ _ => True) (Q := Q) hcl hcc hev hg hme (by omega) (fun _ _ _ => trivial)).1
          refine ⟨safe_ready hrd (by simp) (fun k hk => ?_), evP_nx hcl (.one i r) s held he0⟩
          obtain rfl : k = i := by simpa using hk
          refine wpOp_of ho (evOp_sound hcl hcc hev hg hme (by omega) (fun a' w' h => ?_)).2
          obtain ⟨v', g1, g2, g3, g4⟩ := h
          refine ⟨pres_of_chk (hH.le g2.le) g1.g g1.h hck, ?_⟩
          · exact (evP_sound hcl hcos hn hM hsel hA r (Nat.lor L (2 ^ k)) (listed.setIfInBounds k true) s1 held v' a' w' H (hm.set f2) (hc.set hrdy) f3 he g1 (hH.le g2.le) (hfr.step fun m h1 h2 => g3 m (by omega) h1) (by omega) (fun v2 a2 w2 k1 k2 k3 => hQ v2 a2 w2 k1 (g2.trans k2) (fun m hm' => by rw [k3 m hm', g3 m (by omega) (by omega)]))).1
  | .late j i qs r, L, listed, s, held, v, a, w, H, hm, hc, hf, he, hg, hH, hfr, hb, hQ => by
    have hanc : AncOk ops (ancB A n) := by rw [← hn]; exact ancB_ok hA
    have he0 := he
    simp only [fits, Bool.and_eq_true] at hf
    obtain ⟨⟨⟨⟨⟨⟨f1, f2⟩, f3⟩, f4⟩, f5⟩, f6⟩, f7⟩ := hf
    have f2 := Nat.le_of_ble_eq_true f2
    have f3 := Nat.le_of_ble_eq_true f3
    have hij : i ≠ j := fun e => by subst e; simp at f4
    have f6 := eqL_eq f6
    have hrdL : rdys (dmasks ops.toList 0 .lf) L n 0 = [i, j] ∨ rdys (dmasks ops.toList 0 .lf) L n 0 = [j, i] := by
      rw [Bool.or_eq_true] at f1
      exact f1.imp eqL_eq eqL_eq
    have hrd : Region.ready .any ops listed = [i, j] ∨ Region.ready .any ops listed = [j, i] := by subst hn; rw [rdys_eq hm] at hrdL; exact hrdL
    have hmi : i ∈ Region.ready .any ops listed := by rcases hrd with h | h <;> rw [h] <;> simp
    have hmj : j ∈ Region.ready .any ops listed := by rcases hrd with h | h <;> rw [h] <;> simp
    have huni : L.testBit i = false := by rw [← hm.2]; exact getD_of_getD (mem_ready.1 hmi).1
    have hunj : L.testBit j = false := by rw [← hm.2]; exact getD_of_getD (mem_ready.1 hmj).1
    split at f7 <;> first | (cases f7; done) | skip
    rename_i L1 L2 ft1 ft2
    simp only [Bool.and_eq_true] at f7
    obtain ⟨⟨f8, f9⟩, f10⟩ := f7
    have f8 := eqL_eq f8
    have f9 := nb f9
    simp only [evP] at he
    cases hcj : cos.get j with
    | none => rw [hcj] at he; cases he
    | some oj =>
      cases hci : cos.get i with
      | none => rw [hcj, hci] at he; cases he
      | some oi =>
        rw [hcj, hci] at he; simp only at he
        obtain ⟨pj, hoj, hccj⟩ := hcos j oj hcj
        obtain ⟨pi, hoi, hcci⟩ := hcos i oi hci
        cases hnew : newOf (base + i) oi with
        | none => rw [hnew] at he; cases he
        | some tr =>
          obtain ⟨d, x, B⟩ := tr
          rw [hnew] at he; simp only at he
          cases hck0 : chk A n i s.h held with
          | false => rw [hck0] at he; cases he
          | true =>
            rw [hck0] at he; simp only [cond_true] at he
            cases hev : evOp cl (base + j) oj { s with t := s.t.del d } with
            | none => rw [hev] at he; cases he
            | some s1 =>
              rw [hev] at he; simp only at he
              cases hck1 : chk A n j s1.h held with
              | false => rw [hck1] at he; cases he
              | true =>
                rw [hck1] at he; simp only [cond_true] at he
                cases het : evT cos base qs s1 held with
                | none => rw [het] at he; cases he
                | some pp =>
                  obtain ⟨s2, hd2⟩ := pp
                  rw [het] at he; simp only at he
                  cases hck2 : chk A n i (s2.h.set (base + i) B) hd2 with
                  | false => rw [hck2] at he; cases he
                  | true =>
                    rw [hck2] at he; simp only [cond_true] at he
                    obtain ⟨hnx2, hh2⟩ := evT_same qs s1 s2 held hd2 het
                    have hnx1 := evOp_nx hcl hev
                    simp only at hnx1
                    have hgD : Gam G N v { s with t := s.t.del d } a w := ⟨hg.t.del', hg.h, hg.g, hg.d, hg.n, hg.f⟩
                    have hmei : v.blk (base + i) = none := hfr i f2 huni
                    have hmej : v.blk (base + j) = none := hfr j f3 hunj
                    have hfar : ∀ q ∈ j :: qs, ∀ o, ops[q]? = some o → o.dst ≠ some d := by
                      intro q hq o hoq
                      obtain ⟨m1, m2, e1, e2, hap⟩ := far_at f5 hq
                      obtain ⟨o1, ho1, rfl⟩ := hM i _ e1
                      obtain ⟨o2, ho2, rfl⟩ := hM q _ e2
                      rw [hoi] at ho1; injection ho1 with ho1; subst ho1
                      rw [hoq] at ho2; injection ho2 with ho2; subst ho2
                      have := (Oper.apart_spec (apartM_sound hap)).2.1
                      exact this d (newOf_sound hcci hnew hg.g (P := P) (a := a)).1
                    refine ⟨?_, evP_nx hcl (.late j i qs r) s held he0⟩
                    show Safe P ops (NoPanic Q) (ancB A n) H ((qs.length + r.len + 1) + 1) listed a w
                    have hne : Region.ready .any ops listed ≠ [] := by rcases hrd with h | h <;> rw [h] <;> simp
                    refine safe_ready rfl hne (fun k hk => ?_)
                    have hk2 : k = j ∨ k = i := by rcases hrd with h | h <;> rw [h] at hk <;> simp at hk <;> rcases hk with h | h <;> simp [h]
                    rcases hk2 with hkj | hki
                    · -- j comes first
                      subst hkj
                      refine wpOp_of hoj (evOp_sound hcl hccj hev hgD hmej (by simp only; omega) (fun a1 w1 haf => ?_)).2
                      obtain ⟨v1, g1, g2, g3, g4⟩ := haf
                      simp only at g3
                      refine ⟨pres_of_chk (hH.le g2.le) g1.g g1.h hck1, ?_⟩
                      have hfr1 : FrU v1 base n (Nat.lor L (2 ^ k)) := hfr.step fun m h1 h2 => g3 m (by omega) h1
                      rw [show qs.length + r.len + 1 = qs.length + (r.len + 1) by omega]
                      refine takes_sound hcos hn hM hsel hanc qs (Nat.lor L (2 ^ k)) L2 (listed.setIfInBounds k true) s1 s2 held hd2 v1 a1 H (hm.set f3) (hc.set hmj) ft2 het g1 (hH.le g2.le) hfr1 (by omega) (fun listed2 v2 a2 H2 q1 q2 q3 q4 q5 q6 q7 q8 q9 q10 q11 => ?_)
                      have hrd2 : Region.ready .any ops listed2 = [i] := by rw [← f8]; subst hn; exact (rdys_eq q1).symm
                      have hmi2 : i ∈ Region.ready .any ops listed2 := by rw [hrd2]; exact List.mem_cons_self ..
                      have huni2 : L2.testBit i = false := by rw [← q1.2]; exact getD_of_getD (mem_ready.1 hmi2).1
                      refine safe_ready hrd2 (by simp) (fun k2 hk2 => ?_)
                      obtain rfl : k2 = i := by simpa using hk2
                      obtain ⟨hdst, hdN, hwant, y, ob, hrun, hden, hblk⟩ := newOf_sound (P := P) (a := a2) hcci hnew q3.g
                      have hme2 : v2.blk (base + k2) = none := q7 k2 f2 huni2
                      obtain ⟨c1, c2⟩ := conc_new (n := base + k2) (bas := 0) (tot := 0) (B := B) (o := ob) q3.h hme2 (hblk _ (Val.le_name hme2) Val.name_bas)
                      refine wpOp_of hoi ?_
                      rw [hwant, if_pos rfl]
                      unfold Oper.wp
                      rw [hrun w1]
                      refine ⟨pres_of_chk (q8.le c2.le) (q3.g.le c2.le) c1 hck2, ?_⟩
                      have hg3 : Gam G N (v2.name (base + k2) w1.heap.size 0 0) ⟨s2.t.set d x, s2.h.set (base + k2) B, s2.nx⟩ (a2.put pi.dst (y w1.heap.size)) (w1.alloc ob) := by
                        refine ⟨?_, c1, q3.g.le c2.le, by rw [put_defers]; exact q3.d, by rw [put_size]; exact q3.n, fun m hm' => ?_⟩
                        · rw [hdst]; exact (q3.t.le c2.le).put (by rw [q3.n]; exact hdN) (hden _ _ Val.name_blk Val.name_bas)
                        · have hge : s2.nx ≤ m := hm'
                          rw [Val.name_other (by omega)]; exact q3.f m hge
                      have hL1 : Msk L1 (listed2.setIfInBounds k2 true) n := by rw [f9]; exact q1.set f2
                      refine (evP_sound hcl hcos hn hM hsel hA r L1 (listed2.setIfInBounds k2 true) _ hd2 _ _ _ H2 hL1 (q2.set hmi2) f10 he hg3 (q8.le c2.le) (by rw [f9]; exact q7.step fun m h1 _ => Val.name_other h1) (by simp only; omega) (fun v' a' w' k3 k4 k5 => hQ v' a' w' k3 ?_ (fun m hm' => by rw [k5 m hm', Val.name_other (by omega), q5 m (.inr hm'), g3 m (by omega) (by omega)]))).1
                      exact (g2.trans (by have := ext_le g1.h q4; rw [← q9] at this ⊢; exact this)).trans (c2.trans k4)
                    · -- the new block first
                      subst hki
                      obtain ⟨hdst, hdN, hwant, y, ob, hrun, hden, hblk⟩ := newOf_sound (P := P) (a := a) hcci hnew hg.g
                      obtain ⟨c1, c2⟩ := conc_new (n := base + k) (bas := 0) (tot := 0) (B := B) (o := ob) hg.h hmei (hblk _ (Val.le_name hmei) Val.name_bas)
                      have hnone : s.h.get (base + k) = none := by
                        cases hq : s.h.get (base + k) with
                        | none => rfl
                        | some C => obtain ⟨b, hb', _⟩ := hg.h.ok _ _ hq; rw [hmei] at hb'; cases hb'
                      obtain ⟨v1, hv1⟩ : ∃ v1, v1 = v.name (base + k) w.heap.size 0 0 := ⟨_, rfl⟩
                      rw [← hv1] at c1 c2
                      have hv1b : v1.blk (base + k) = some w.heap.size := by rw [hv1]; exact Val.name_blk
                      have hv1o : ∀ m, m ≠ base + k → v1.blk m = v.blk m := fun m hm' => by rw [hv1]; exact Val.name_other hm'
                      have hv1s : v1.bas (base + k) = 0 := by rw [hv1]; exact Val.name_bas
                      have csub : Conc v1 s.h (w.alloc ob) := conc_sub (fun m C hC => by
                        rw [T.get_set]
                        by_cases hm' : m = base + k
                        · subst hm'; rw [hnone] at hC; cases hC
                        · rw [if_neg hm']; exact hC) c1
                      refine wpOp_of hoi ?_
                      rw [hwant, if_pos rfl]
                      unfold Oper.wp
                      rw [hrun w]
                      refine ⟨pres_of_chk (hH.le c2.le) (hg.g.le c2.le) csub hck0, ?_⟩
                      have hgB : Gam G N v1 { s with t := s.t.del d } (a.put pi.dst (y w.heap.size)) (w.alloc ob) := by
                        refine ⟨by rw [hdst]; exact (hg.t.le c2.le).drop, csub, hg.g.le c2.le, by rw [put_defers]; exact hg.d, by rw [put_size]; exact hg.n, fun m hm' => ?_⟩
                        have hge : s.nx ≤ m := hm'
                        rw [hv1o m (by omega)]; exact hg.f m hge
                      have hrdB : Region.ready .any ops (listed.setIfInBounds k true) = [j] := by
                        rw [← f6]; subst hn; exact (rdys_eq (hm.set f2)).symm
                      have hmjB : j ∈ Region.ready .any ops (listed.setIfInBounds k true) := by rw [hrdB]; exact List.mem_cons_self ..
                      refine safe_ready hrdB (by simp) (fun k2 hk2 => ?_)
                      obtain rfl : k2 = j := by simpa using hk2
                      have hmejB : v1.blk (base + k2) = none := by rw [hv1o _ (by omega)]; exact hmej
                      refine wpOp_of hoj (evOp_sound hcl hccj hev hgB hmejB (by simp only; omega) (fun a2 w2 haf => ?_)).2
                      obtain ⟨v2, g1, g2, g3, g4⟩ := haf
                      simp only at g3 g2
                      refine ⟨pres_of_chk ((hH.le c2.le).le g2.le) g1.g g1.h hck1, ?_⟩
                      have hfrB : FrU v2 base n (Nat.lor (Nat.lor L (2 ^ k)) (2 ^ k2)) := (hfr.step fun m h1 _ => hv1o m h1).step fun m h1 h2 => g3 m (by omega) h1
                      refine takes_sound hcos hn hM hsel hanc qs _ L1 ((listed.setIfInBounds k true).setIfInBounds k2 true) s1 s2 held hd2 v2 a2 H ((hm.set f2).set f3) ((hc.set hmi).set hmjB) ft1 het g1 ((hH.le c2.le).le g2.le) hfrB (by omega) (fun listed3 v3 a3 H3 q1 q2 q3 q4 q5 q6 q7 q8 q9 q10 q11 => ?_)
                      have hle13 : v1.le v3 := g2.le.trans q4
                      have hb3 : v3.blk (base + k) = some w.heap.size ∧ v3.bas (base + k) = 0 := by
                        obtain ⟨h1, h2, _⟩ := hle13.blk _ _ hv1b
                        exact ⟨h1, h2.trans hv1s⟩
                      have hlt : w.heap.size < (w.alloc ob).heap.size := by simp
                      have hnot : ∀ m C, s.h.get m = some C → v1.blk m ≠ some w.heap.size := fun m C hC he' => by
                        have hmk : m ≠ base + k := fun e => by rw [e, hnone] at hC; cases hC
                        rw [hv1o m hmk] at he'
                        exact absurd (hg.h.lt hC he') (Nat.lt_irrefl _)
                      have hobj : w2.heap[w.heap.size]? = some ob := by
                        rw [g2.frame _ hlt hnot]
                        show (w.heap.push ob)[w.heap.size]? = _
                        simp
                      have hlive2 : ∀ m C, s2.h.get m = some C → v3.blk m ≠ some w.heap.size := fun m C hC he' => by
                        rw [hh2] at hC
                        obtain ⟨b, hbb, _⟩ := g1.h.ok m C hC
                        have := (q4.blk m b hbb).1
                        rw [he'] at this; injection this with this; subst this
                        rcases g2.live m C _ hC hbb with h | ⟨m', C', hC', hm''⟩
                        · omega
                        · exact hnot m' C' hC' hm''
                      have cfin : Conc v3 (s2.h.set (base + k) B) w2 := by
                        refine q3.h.put (.refl v3) hb3.1 ?_ (fun _ _ _ => rfl) (fun m C hm' hC => hlive2 m C hC)
                        rw [hobj]; exact hblk v3 (c2.le.trans hle13) hb3.2
                      have hd3 : a3.tmps[d]? = some (y w.heap.size) := by
                        rw [q11 d (fun q hq o ho => hfar q (List.mem_cons_of_mem _ hq) o ho), g4 d (hfar _ (List.mem_cons_self ..) _ hoj), hdst]
                        simp [Act.put, hg.n, hdN]
                      have hg4 : Gam G N v3 ⟨s2.t.set d x, s2.h.set (base + k) B, s2.nx⟩ a3 w2 := by
                        refine ⟨fun t z hz => ?_, cfin, q3.g, q3.d, q3.n, q3.f⟩
                        rw [T.get_set] at hz
                        by_cases ht : t = d
                        · subst ht; rw [if_pos rfl] at hz; injection hz with hz; subst hz
                          exact ⟨_, hd3, hden v3 _ hb3.1 hb3.2⟩
                        · rw [if_neg ht] at hz; exact q3.t t z hz
                      refine (evP_sound hcl hcos hn hM hsel hA r L1 listed3 _ hd2 v3 a3 w2 H3 q1 q2 f10 he hg4 q8 q7 (by simp only; omega) (fun v' a' w' k3 k4 k5 => hQ v' a' w' k3 (Ext.trans ?_ k4) (fun m hm' => by rw [k5 m hm', q5 m (.inr hm'), g3 m (by omega) (by omega), hv1o m (by omega)]))).1
                      refine ⟨c2.le.trans hle13, g2.os.trans c2.os, g2.tape.trans c2.tape, g2.output.trans c2.output, Nat.le_trans c2.size g2.size, fun b hb' hno => ?_, fun m C b hC hb' => ?_⟩
                      · rw [g2.frame b (by omega) (fun m C hC he' => ?_)]
                        · exact Go.RowKit.Below.heap_alloc w ob b hb'
                        · have hmk : m ≠ base + k := fun e => by rw [e, hnone] at hC; cases hC
                          rw [hv1o m hmk] at he'
                          exact hno m C hC he'
                      · simp only at hC
                        rw [T.get_set] at hC
                        by_cases hmk : m = base + k
                        · subst hmk; rw [hb3.1] at hb'; injection hb' with hb'; exact .inl (by omega)
                        · rw [if_neg hmk, hh2] at hC
                          obtain ⟨b2, hbb, _⟩ := g1.h.ok m C hC
                          have := (q4.blk m b2 hbb).1
                          rw [hb'] at this; injection this with this; subst this
                          rcases g2.live m C _ hC hbb with h | ⟨m', C', hC', hm''⟩
                          · exact .inl (by omega)
                          · have hmk' : m' ≠ base + k := fun e => by rw [e, hnone] at hC'; cases hC'
                            rw [hv1o m' hmk'] at hm''
                            exact .inr ⟨m', C', hC', hm''⟩
end
end Go.Proofs.YtaaofanhjolikaaGreatDoor.Sx
