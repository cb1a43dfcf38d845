/- The contract of Check. -/
import Derived.Test.YtaaofanhjolikaaGreatDoorMsgFold
import Derived.Carry
set_option linter.unusedVariables false
set_option linter.unusedSimpArgs false
namespace Go.Proofs.YtaaofanhjolikaaGreatDoor.Msg
open Go.RowKit Go.Proofs.YtaaofanhjolikaaGreatDoor.Mp

def box0 : Array Value := reqZero

theorem three_boxes (w : World) (a b d : Obj) :
    ((((w.alloc a).alloc b).alloc d).heap.size = w.heap.size + 3) ∧ (((w.alloc a).alloc b).alloc d).heap[w.heap.size + 1]? = some b ∧ (((w.alloc a).alloc b).alloc d).heap[w.heap.size + 2]? = some d ∧ Below w.heap.size w (((w.alloc a).alloc b).alloc d) := by
  refine ⟨by simp, ?_, ?_, ?_⟩
  · rw [Below.heap_alloc _ _ _ (by simp)]
    have := heap_alloc_new (w.alloc a) b
    simpa using this
  · have := heap_alloc_new ((w.alloc a).alloc b) d
    simpa using this
  · exact (((Below.refl _ _).alloc (Nat.le_refl _) a).alloc (by simp) b).alloc (by simp; omega) d

theorem row_slice {w : World} {base e size n : Nat} {v : Value} {xs : List Value} (h : w.ownsRow base e size v n xs) : ∃ A c, v = .slice A n c := by
  obtain ⟨_, ⟨rfl, rfl⟩ | ⟨g, cap, cur, rfl, _⟩⟩ := h
  · exact ⟨_, _, rfl⟩
  · exact ⟨_, _, rfl⟩

theorem row_weaken {w : World} {base base' e size n : Nat} {v : Value} {xs : List Value} (h : w.ownsRow base e size v n xs) (hb : base' ≤ base) : w.ownsRow base' e size v n xs := by
  obtain ⟨h1, h2 | ⟨g, cap, cur, hv, hg, r⟩⟩ := h
  · exact ⟨h1, .inl h2⟩
  · exact ⟨h1, .inr ⟨g, cap, cur, hv, Nat.le_trans hb hg, r⟩⟩

theorem row_set6 {w : World} {base e size n : Nat} {v : Value} {xs : List Value} (h : w.ownsRow base e size v n xs) {b : Nat} (hb : b < base) (v0 v1 v2 v3 v4 v5 : Value) : (set6 w b v0 v1 v2 v3 v4 v5).ownsRow base e size v n xs := by
  unfold set6
  exact ownsRow_setCell_below (a := ⟨b, 5, none⟩) (ownsRow_setCell_below (a := ⟨b, 4, none⟩) (ownsRow_setCell_below (a := ⟨b, 3, none⟩) (ownsRow_setCell_below (a := ⟨b, 2, none⟩) (ownsRow_setCell_below (a := ⟨b, 1, none⟩) (ownsRow_setCell_below (a := ⟨b, 0, none⟩) h hb v0) hb v1) hb v2) hb v3) hb v4) hb v5

/-- Check's own boxes, in a world behind its entry -/
structure Boxes (w w1 : World) (k : Int) : Prop where
  r : w1.heap[w.heap.size + 1]? = some (.cells reqZero 77 (0, 0))
  e : w1.heap[w.heap.size + 2]? = some (.cells #[.int .i64 k] 36 (0, 0))
  sz : w.heap.size + 3 ≤ w1.heap.size
  bl : Below w.heap.size w w1

theorem Boxes.below {w w1 w2 : World} {k : Int} (h : Boxes w w1 k) (hb : Below (w.heap.size + 3) w1 w2) : Boxes w w2 k :=
  ⟨by rw [hb.block _ (by omega)]; exact h.r, by rw [hb.block _ (by omega)]; exact h.e, Nat.le_trans h.sz hb.size, h.bl.trans (hb.mono (by omega))⟩

theorem boxes_start (w : World) (o : Obj) : Boxes w (((w.alloc o).alloc (.cells reqZero 77)).alloc (.cells #[.int .i64 0] 36)) 0 := by
  obtain ⟨h1, h2, h3, h4⟩ := three_boxes w o (.cells reqZero 77) (.cells #[.int .i64 0] 36)
  exact ⟨h2, h3, by rw [h1]; omega, h4⟩

theorem door_panic {w w1 : World} {k c : Int} {tmps : Array Value} (h : Boxes w w1 k) (h4 : tmps.getD 4 undef = .pointer (some ⟨w.heap.size + 1, 0, none⟩)) (h5 : tmps.getD 5 undef = .pointer (some ⟨w.heap.size + 1 + 1, 0, none⟩))
    (R : Ending → World → Prop) (hR : ∀ w2, Below w.heap.size w w2 → R (.returned (.tuple #[reqNil, .int .i64 c])) w2) :
    Leaves Tryz.prog Tryz.f44 tmps R [{ target := .fn (.func 72) #[.pointer (some ⟨w.heap.size + 1 + 1, 0, none⟩), .pointer (some ⟨w.heap.size + 1, 0, none⟩)], args := #[] }] (.panicking (refusal c)) w1 := by
  refine leaves_cons (f := 72) (args := #[.pointer (some ⟨w.heap.size + 1 + 1, 0, none⟩), .pointer (some ⟨w.heap.size + 1, 0, none⟩)]) (by simp) (by simp [go_sem]) ?_
  refine (chk1_panicking c k (w.heap.size + 1 + 1) (w.heap.size + 1) reqZero w1 h.e h.r rfl).mono ?_
  rintro e u' w2 ⟨rfl, rfl, h1, h2, h3⟩
  have hB := h.bl.trans (h3 w.heap.size (by omega) (by omega))
  have e0 : w2.cell? ⟨w.heap.size + 1 + 1, 0, none⟩ = some (.int .i64 c) := by rw [cell_of_blk h1]; rfl
  have r0 : w2.cell? ⟨w.heap.size + 1, 0, none⟩ = some (.string ⟨#[]⟩) := by rw [cell_of_blk h2]; rfl
  have r1 : w2.cell? ⟨w.heap.size + 1, 1, none⟩ = some (.string ⟨#[]⟩) := by rw [cell_of_blk h2]; rfl
  have r2 : w2.cell? ⟨w.heap.size + 1, 2, none⟩ = some (.string ⟨#[]⟩) := by rw [cell_of_blk h2]; rfl
  have r3 : w2.cell? ⟨w.heap.size + 1, 3, none⟩ = some (.string ⟨#[]⟩) := by rw [cell_of_blk h2]; rfl
  have r4 : w2.cell? ⟨w.heap.size + 1, 4, none⟩ = some (.slice none 0 0) := by rw [cell_of_blk h2]; rfl
  have r5 : w2.cell? ⟨w.heap.size + 1, 5, none⟩ = some (.int .i64 0) := by rw [cell_of_blk h2]; rfl
  refine ⟨.tuple #[reqNil, .int .i64 c], ?_, hR w2 hB⟩
  have h4' : tmps[4]?.getD undef = .pointer (some ⟨w.heap.size + 1, 0, none⟩) := by simpa using h4
  have h5' : tmps[5]?.getD undef = .pointer (some ⟨w.heap.size + 1 + 1, 0, none⟩) := by simpa using h5
  simp [results, Tryz.results44, h4', h5', go_sem, reqNil, e0, r0, r1, r2, r3, r4, r5]

theorem door_return {w w1 : World} {st : PSt} {fv : Value} {tmps : Array Value} (hr : w1.heap[w.heap.size + 1]? = some (.cells (reqCells st.m st.s st.a st.p fv st.len) 77 (0, 0)))
    (he : w1.heap[w.heap.size + 2]? = some (.cells #[.int .i64 0] 36 (0, 0))) (h4 : tmps.getD 4 undef = .pointer (some ⟨w.heap.size + 1, 0, none⟩)) (h5 : tmps.getD 5 undef = .pointer (some ⟨w.heap.size + 1 + 1, 0, none⟩))
    (R : Ending → World → Prop) (hR : R (.returned (.tuple #[reqVal st fv, .int .i64 0])) w1) :
    Leaves Tryz.prog Tryz.f44 tmps R [{ target := .fn (.func 72) #[.pointer (some ⟨w.heap.size + 1 + 1, 0, none⟩), .pointer (some ⟨w.heap.size + 1, 0, none⟩)], args := #[] }] .returning w1 := by
  refine leaves_cons (f := 72) (args := #[.pointer (some ⟨w.heap.size + 1 + 1, 0, none⟩), .pointer (some ⟨w.heap.size + 1, 0, none⟩)]) (by simp) (by simp [go_sem]) ?_
  refine (chk1_idle _ _ w1).mono ?_
  rintro e u' w2 ⟨rfl, rfl, rfl⟩
  have e0 : w2.cell? ⟨w.heap.size + 1 + 1, 0, none⟩ = some (.int .i64 0) := by rw [cell_of_blk he]; rfl
  have r0 : w2.cell? ⟨w.heap.size + 1, 0, none⟩ = some (.string st.m) := by rw [cell_of_blk hr]; rfl
  have r1 : w2.cell? ⟨w.heap.size + 1, 1, none⟩ = some (.string st.s) := by rw [cell_of_blk hr]; rfl
  have r2 : w2.cell? ⟨w.heap.size + 1, 2, none⟩ = some (.string st.a) := by rw [cell_of_blk hr]; rfl
  have r3 : w2.cell? ⟨w.heap.size + 1, 3, none⟩ = some (.string st.p) := by rw [cell_of_blk hr]; rfl
  have r4 : w2.cell? ⟨w.heap.size + 1, 4, none⟩ = some fv := by rw [cell_of_blk hr]; rfl
  have r5 : w2.cell? ⟨w.heap.size + 1, 5, none⟩ = some (.int .i64 st.len) := by rw [cell_of_blk hr]; rfl
  refine ⟨.tuple #[reqVal st fv, .int .i64 0], ?_, hR⟩
  have h4' : tmps[4]?.getD undef = .pointer (some ⟨w.heap.size + 1, 0, none⟩) := by simpa using h4
  have h5' : tmps[5]?.getD undef = .pointer (some ⟨w.heap.size + 1 + 1, 0, none⟩) := by simpa using h5
  simp [results, Tryz.results44, h4', h5', go_sem, reqVal, e0, r0, r1, r2, r3, r4, r5]

section
variable {w : World} {A : Option Addr} {fs : List Fl} {cp : Nat} {c s : Int}

set_option maxRecDepth 100000 in
theorem check_much (h : FsAt w A fs) (hm : muchB fs c s = true) :
    Calls Tryz.prog 44 #[.slice A fs.length cp, .agg #[.int .i64 c, .int .i64 s]] w fun e w' => e = .returned (.tuple #[reqNil, .int .i64 185]) ∧ Below w.heap.size w w' := by
  have hmf : ∀ (fn : Fn) (first cap : Array Value) (w : World), (Instr.makeFunc fn first cap).run Tryz.prog w = .ok (.func fn first cap) w := fun _ _ _ _ => rfl
  have hlen : fs.length ≤ 9223372036854775807 := by have := h.len; omega
  have H := Kp.mk h
  have HM := Kp.mk hm
  clear h hm
  go_enter_defers Tryz.func44, Tryz.ntmps44
  go_wp2_with fail
  have HS := Kp.mk (boxes_start w (.cells #[.int .i64 c, .int .i64 s] 25))
  refine (tooMuch_any (H.out.below HS.out.bl) c s).mono ?_
  rintro e w1 ⟨rfl, hb⟩
  rw [HM.out]
  have HS1 := Kp.mk (HS.out.below (hb.mono HS.out.sz))
  clear HS hb
  go_wp2_with fail
  (with_reducible refine (must_no _ _).mono ?_)
  rintro e w' ⟨rfl, rfl⟩
  exact door_panic HS1.out rfl rfl _ (fun w2 hb => ⟨rfl, hb⟩)

set_option maxRecDepth 100000 in
set_option maxHeartbeats 400000 in
theorem check_go (h : FsAt w A fs) (hsz : ∀ f ∈ fs, f.n.size ≤ 9223372036854775807 ∧ f.v.size ≤ 9223372036854775807) (hm : muchB fs c s = false) (r : Except Int PSt)
    (hr : Kp (r = match foldF st0 fs with | .error e => .error e | .ok st => match lineF st with | .error e => .error e | .ok st1 => placeF st1)) :
    Calls Tryz.prog 44 #[.slice A fs.length cp, .agg #[.int .i64 c, .int .i64 s]] w fun e w' => CkPost w r e w' := by
  have hmf : ∀ (fn : Fn) (first cap : Array Value) (w : World), (Instr.makeFunc fn first cap).run Tryz.prog w = .ok (.func fn first cap) w := fun _ _ _ _ => rfl
  have hmm := @run_makeMap Tryz.prog
  have hlen : fs.length ≤ 9223372036854775807 := by have := h.len; omega
  have H := Kp.mk h
  have HM := Kp.mk hm
  have HZ := Kp.mk hsz
  clear h hm hsz
  go_enter_defers Tryz.func44, Tryz.ntmps44
  go_wp2_with fail
  have HS := Kp.mk (boxes_start w (.cells #[.int .i64 c, .int .i64 s] 25))
  refine (tooMuch_any (H.out.below HS.out.bl) c s).mono ?_
  rintro e w1 ⟨rfl, hb⟩
  rw [HM.out]
  have HS1 := Kp.mk (HS.out.below (hb.mono HS.out.sz))
  clear HS hb
  go_wp2_with fail
  (with_reducible refine (must_ok _ _).mono ?_)
  rintro e w' ⟨rfl, rfl⟩
  go_wp2_with fail
  have hst := Kp.mk (rd_start w1)
  obtain ⟨B, hBe⟩ : ∃ B, B = w1.heap.size := ⟨_, rfl⟩
  have HBe := Kp.mk hBe
  go_loopw [21] (fun i wr => ∃ (k : Nat) (st : PSt) (hv fv : Value) (gs : List Gh), k ≤ fs.length ∧ i = .int .i64 k ∧ Kp (RdAt wr w1.heap.size (w1.heap.size + 1) st w1.heap.size hv fv gs) ∧ Kp (foldF st0 (fs.take k) = .ok st) ∧ Kp (Below w1.heap.size w1 wr)) (fun i _ => fs.length - (intOf i).toNat)
  case atStart => exact ⟨0, st0, _, _, [], Nat.zero_le _, rfl, hst, ⟨rfl⟩, ⟨((Below.refl _ _).alloc (Nat.le_refl _) _).alloc (by simp) _⟩⟩
  case round =>
    obtain ⟨k, st, hv, fv, gs, hk, rfl, HR, HF, HB⟩ := hrel
    by_cases hlt : k < fs.length
    · obtain ⟨ad, rfl, h1, h2⟩ := ((H.out.below HS1.out.bl).below HB.out).at_ k hlt
      have hsuc := Kp.mk (foldF_take_succ fs st0 st k hlt HF.out)
      have hzx := HZ.out _ (List.getElem_mem hlt)
      have hok := okst_fold (P := fun _ => True) (fs.take k) (okst_st0 _) (fun _ _ => trivial) HF.out
      have hol := hok.len
      rw [List.length_take_of_le hk] at hol
      have hlen2 := H.out.len
      clear hok
      obtain ⟨x, hx⟩ : ∃ x, x = fs[k]'hlt := ⟨_, rfl⟩
      have HX := Kp.mk hx
      rw [← hx] at h1 h2 hzx
      clear hx
      have HB2 := fun o => Kp.mk (HB.out.alloc HB.out.size o)
      have hwr : wr.heap.size ≤ wr.heap.size := Nat.le_refl _
      have HR2 := fun o => Kp.mk (rd_kept HR.out ((Below.refl wr.heap.size wr).alloc hwr o))
      have hL := HS1.out.sz
      have hl1 : Kp ((st.hosts.length + 1) * 16 ≤ 140737488355328) := ⟨by omega⟩
      have hl2 : Kp ((st.fields.length + 1) * 32 ≤ 140737488355328) := ⟨by omega⟩
      clear hol hwr hlen2
      go_wp2_with fail
      refine (take_any (HR2 _).out x.n x.v hzx.1 hzx.2 hl1.out hl2.out).mono ?_
      intro e w' hp
      cases ht : takeF st x.n x.v with
      | ok st' =>
        rw [ht] at hp
        obtain ⟨rfl, ⟨hv', fv', gs', hrd⟩, hbt⟩ := hp
        have HRD := Kp.mk hrd
        have HB3 := Kp.mk ((HB2 _).out.trans hbt)
        have HT := Kp.mk ht
        clear hrd hbt ht
        go_wp2_with fail
        go_roundw
        case rel => exact ⟨k + 1, st', hv', fv', gs', by omega, by go_num, HRD, ⟨by rw [hsuc.out, ← HX.out]; exact HT.out⟩, HB3⟩
        case measure => simp [intOf]; omega
      | error c' =>
        rw [ht] at hp
        obtain ⟨rfl, hbt⟩ := hp
        have hE : foldF st0 fs = .error c' := foldF_error_take fs st0 (k + 1) c' (by rw [hsuc.out, ← HX.out]; exact ht)
        have HB3 := ((HB2 _).out.trans hbt)
        refine door_panic (HS1.out.below (HB3.mono hL)) rfl rfl _ (fun w2 hb => ?_)
        rw [hr.out, hE]
        exact ⟨rfl, hb⟩
    · have HF2 : Kp (foldF st0 fs = .ok st) := ⟨by have := HF.out; rwa [List.take_of_length_le (by omega)] at this⟩
      have hok := Kp.mk (okst_fold (P := fun b => b.size ≤ 9223372036854775807) fs (okst_st0 _) (fun f hf => (HZ.out f hf).2) HF2.out)
      have hL := HS1.out.sz
      clear HF
      go_wp2_with fail
      refine (line_any HR.out hok.out.ps).mono ?_
      intro e w' hp
      cases ht : lineF st with
      | error c' =>
        rw [ht] at hp
        obtain ⟨rfl, hbt⟩ := hp
        refine door_panic (HS1.out.below ((HB.out.trans hbt).mono hL)) rfl rfl _ (fun w2 hb => ?_)
        rw [hr.out, HF2.out]
        simp only [ht]
        exact ⟨rfl, hb⟩
      | ok st1 =>
        rw [ht] at hp
        obtain ⟨rfl, hrd, hbt⟩ := hp
        have HRD := Kp.mk hrd
        have HB3 := Kp.mk (HB.out.trans hbt)
        have HT := Kp.mk ht
        have hps := lineF_ps ht
        have hok1 : Kp ((∀ x ∈ st1.ps, x.2.size ≤ 9223372036854775807) ∧ (∀ x ∈ st1.hosts, x.size ≤ 9223372036854775807)) := ⟨by rw [hps.1]; exact hok.out.ps, by rw [hps.2.1]; exact hok.out.hosts⟩
        clear hrd hbt ht hps
        go_wp2_with fail
        refine (place_any HRD.out hok1.out.1 hok1.out.2).mono ?_
        intro e w'' hp
        cases ht : placeF st1 with
        | error c' =>
          rw [ht] at hp
          obtain ⟨rfl, hbt⟩ := hp
          refine door_panic (HS1.out.below ((HB3.out.trans hbt).mono hL)) rfl rfl _ (fun w2 hb => ?_)
          rw [hr.out, HF2.out]
          simp only [HT.out, ht]
          exact ⟨rfl, hb⟩
        | ok st2 =>
          rw [ht] at hp
          obtain ⟨rfl, hrd, hbt⟩ := hp
          have HRD2 := Kp.mk hrd
          have HB4 := Kp.mk (HB3.out.trans hbt)
          obtain ⟨Af, cf, rfl⟩ := row_slice hrd.flds
          have HT2 := Kp.mk ht
          have c3 : w''.cell? ⟨w1.heap.size + 1, 3, none⟩ = some (.string st2.m) := by rw [cell_of_blk hrd.blk]; rfl
          have c4 : w''.cell? ⟨w1.heap.size + 1, 4, none⟩ = some (.string st2.s) := by rw [cell_of_blk hrd.blk]; rfl
          have c5 : w''.cell? ⟨w1.heap.size + 1, 5, none⟩ = some (.string st2.a) := by rw [cell_of_blk hrd.blk]; rfl
          have c6 : w''.cell? ⟨w1.heap.size + 1, 6, none⟩ = some (.string st2.p) := by rw [cell_of_blk hrd.blk]; rfl
          have c7 : w''.cell? ⟨w1.heap.size + 1, 7, none⟩ = some (.slice Af st2.fields.length cf) := by rw [cell_of_blk hrd.blk]; rfl
          have c8 : w''.cell? ⟨w1.heap.size + 1, 8, none⟩ = some (.int .i64 st2.len) := by rw [cell_of_blk hrd.blk]; rfl
          have HX := Kp.mk (HS1.out.below (HB4.out.mono hL))
          have hrb := HX.out.r
          have heb := HX.out.e
          have r0 : w''.cell? ⟨w.heap.size + 1, 0, none⟩ = some (.string ⟨#[]⟩) := by rw [cell_of_blk hrb]; rfl
          have r1 : w''.cell? ⟨w.heap.size + 1, 1, none⟩ = some (.string ⟨#[]⟩) := by rw [cell_of_blk hrb]; rfl
          have r2 : w''.cell? ⟨w.heap.size + 1, 2, none⟩ = some (.string ⟨#[]⟩) := by rw [cell_of_blk hrb]; rfl
          have r3 : w''.cell? ⟨w.heap.size + 1, 3, none⟩ = some (.string ⟨#[]⟩) := by rw [cell_of_blk hrb]; rfl
          have r4 : w''.cell? ⟨w.heap.size + 1, 4, none⟩ = some (.slice none 0 0) := by rw [cell_of_blk hrb]; rfl
          have r5 : w''.cell? ⟨w.heap.size + 1, 5, none⟩ = some (.int .i64 0) := by rw [cell_of_blk hrb]; rfl
          have e0 : w''.cell? ⟨w.heap.size + 1 + 1, 0, none⟩ = some (.int .i64 0) := by rw [cell_of_blk heb]; rfl
          have hzr := free_of_blk hrb
          have hze : ∀ i, w''.frozen? ⟨w.heap.size + 1 + 1, i, none⟩ = false := free_of_blk heb
          clear hrd hbt ht hrb heb
          go_wp2_with fail
          have hne : w.heap.size + 1 ≠ w.heap.size + 1 + 1 := by omega
          refine door_return (w := w) (st := st2) (fv := .slice Af st2.fields.length cf) ?_ ?_ rfl rfl _ ?_
          · rw [Below.heap_setCell _ _ _ _ hne]
            exact set6_at HX.out.r rfl _ _ _ _ _ _
          · exact setCell_blk ((set6_other _ _ _ _ _ _ hne.symm).trans HX.out.e) 0 _
          · have hrow := ownsRow_setCell_below (a := ⟨w.heap.size + 1 + 1, 0, none⟩) (row_set6 HRD2.out.flds (b := w.heap.size + 1) (by omega) (.string st2.m) (.string st2.s) (.string st2.a) (.string st2.p) (.slice Af st2.fields.length cf) (.int .i64 st2.len)) (show w.heap.size + 1 + 1 < w1.heap.size by omega) (.int .i64 0)
            have hbel := (set6_below HX.out.bl (b := w.heap.size + 1) (by omega) (.string st2.m) (.string st2.s) (.string st2.a) (.string st2.p) (.slice Af st2.fields.length cf) (.int .i64 st2.len)).setCell (p := ⟨w.heap.size + 1 + 1, 0, none⟩) (show w.heap.size ≤ w.heap.size + 1 + 1 by omega) (.int .i64 0)
            have hrr : r = .ok st2 := by
              rw [hr.out, HF2.out]
              simp only [HT.out]
              exact HT2.out
            rw [hrr]
            exact ⟨_, rfl, row_weaken hrow (by omega), hbel, HRD2.out.fnil⟩

/-- Check in one -/
theorem check_any (h : FsAt w A fs) (hsz : ∀ f ∈ fs, f.n.size ≤ 9223372036854775807 ∧ f.v.size ≤ 9223372036854775807) :
    Calls Tryz.prog 44 #[.slice A fs.length cp, .agg #[.int .i64 c, .int .i64 s]] w fun e w' => CkPost w (checkF fs c s) e w' := by
  unfold checkF
  cases hm : muchB fs c s with
  | true => exact check_much h hm
  | false => exact check_go h hsz hm _ ⟨rfl⟩

end
end Go.Proofs.YtaaofanhjolikaaGreatDoor.Msg
