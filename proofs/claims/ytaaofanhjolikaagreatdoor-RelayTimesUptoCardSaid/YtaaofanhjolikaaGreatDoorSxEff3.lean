/- A machine of names: append, copy. Over any program. -/
import Derived.Test.YtaaofanhjolikaaGreatDoorSxEff2
set_option linter.unusedVariables false
set_option linter.unusedSimpArgs false
namespace Go.Proofs.YtaaofanhjolikaaGreatDoor.Sx
open Go

section
variable {P : Program} {G : Nat} {v : Val} {t : T V} {a : Act} {h : Heap} {w : World}

theorem firstCells_some {size n len cap : Nat} {p : Addr} : Builtin.firstCells size n (.slice (some p) len cap) = loadCells p (n * size) := rfl
theorem elems_sound {esz n : Nat} {x : V} {y : Value} {xs : List V} (hh : Conc v h w) (hx : den v x = some y) (he : elemsV esz h x = some (n, xs)) :
    ∃ ys, denL v xs = some ys ∧ ys.length = n * esz ∧ (Builtin.lenOf y).run P w = .ok n w ∧ ∀ k, k ≤ n → (Builtin.firstCells esz k y).run P w = .ok (ys.take (k * esz)).toArray w := by
  cases x <;> simp only [elemsV] at he <;> first | (cases he; done) | skip
  case str s =>
    cases hb : Nat.beq esz 1 with
    | false => rw [hb] at he; cases he
    | true =>
      rw [hb] at he; simp only [cond_true] at he
      obtain rfl := Nat.eq_of_beq_eq_true hb
      injection he with he; injection he with he1 he2; subst he1; subst he2
      simp only [den] at hx; injection hx with hx; subst hx
      have hd : denL v (s.map fun b => V.int .u8 b.toNat) = some (s.map fun b => Value.int .u8 b.toNat) := by
        clear hb
        induction s with
        | nil => rfl
        | cons b s ih => exact denL_mk rfl ih
      refine ⟨_, hd, by simp, rfl, fun k hk => ?_⟩
      simp only [Builtin.firstCells, Sem.run_pure, Nat.mul_one]
      congr 1
      rw [ByteArray.data_extract]
      simp
  case sl0 =>
    injection he with he; injection he with he1 he2; subst he1; subst he2
    simp only [den] at hx; injection hx with hx; subst hx
    refine ⟨[], rfl, by simp, rfl, fun k hk => ?_⟩
    obtain rfl : k = 0 := by omega
    simp [Builtin.firstCells]
  case sl m o len c =>
    simp only [den] at hx
    split at hx <;> first | (cases hx; done) | skip
    rename_i b q hb hq
    injection hx with hx; subst hx
    have hzero : ∀ (he : (bif Nat.beq len 0 then some ((0 : Nat), ([] : List V)) else none) = some (n, xs)), ∃ ys, denL v xs = some ys ∧ ys.length = n * esz ∧ (Builtin.lenOf (.slice (some ⟨b, v.bas m + o, none⟩) len q)).run P w = .ok n w ∧
        ∀ k, k ≤ n → (Builtin.firstCells esz k (.slice (some ⟨b, v.bas m + o, none⟩) len q)).run P w = .ok (ys.take (k * esz)).toArray w := by
      intro he
      cases hb0 : Nat.beq len 0 with
      | false => rw [hb0] at he; cases he
      | true =>
        rw [hb0] at he; simp only [cond_true] at he
        have hb0 := Nat.eq_of_beq_eq_true hb0
        simp only [Option.some.injEq, Prod.mk.injEq] at he
        obtain ⟨rfl, rfl⟩ := he
        subst hb0
        refine ⟨[], rfl, by simp, rfl, fun k hk => ?_⟩
        obtain rfl : k = 0 := by omega
        simp [Builtin.firstCells, loadCells, loadCellsFrom]
    split at he
    · rename_i l opn e2
      cases hble : Nat.ble (o + len * esz) l.length with
      | false => rw [hble] at he; cases he
      | true =>
        rw [hble] at he; simp only [cond_true] at he
        have hle := Nat.le_of_ble_eq_true hble
        injection he with he; injection he with he1 he2; subst he1; subst he2
        obtain ⟨b', vs, hb', hd, hcell⟩ := hh.blk e2
        rw [hb] at hb'; injection hb' with hb'; subst hb'
        have hvl := denL_length hd
        have hd2 := denL_drop o (denL_take (o + len * esz) hd)
        refine ⟨_, hd2, by simp; omega, rfl, fun k hk => ?_⟩
        have hk2 : k * esz ≤ len * esz := Nat.mul_le_mul_right _ hk
        rw [firstCells_some]
        refine run_loadCells_at (by simp; omega) (fun i y hy => ?_)
        rw [Nat.add_assoc]
        refine hcell (o + i) y ?_
        rw [List.getElem?_take] at hy
        split at hy <;> first | (cases hy; done) | skip
        rw [List.getElem?_drop, List.getElem?_take] at hy
        split at hy <;> first | (cases hy; done) | exact hy
    · exact hzero he

theorem nextCap_le (need c : Nat) (h : c < need) : Builtin.nextslicecap need c ≤ 2 * need + 192 := by
  have hg : ∀ (r c : Nat), c < need → Builtin.growBy need r c ≤ 2 * need + 192 := by
    intro r
    induction r with
    | zero => intro c hc; simp only [Builtin.growBy]; omega
    | succ r ih =>
      intro c hc
      simp only [Builtin.growBy]
      rw [if_neg (by omega)]
      by_cases h2 : c + (c + 768) / 4 < need
      · exact ih _ h2
      · cases r with
        | zero => simp only [Builtin.growBy]; omega
        | succ r => simp only [Builtin.growBy]; rw [if_pos (by omega)]; omega
  unfold Builtin.nextslicecap
  split
  · omega
  · split
    · omega
    · exact hg 4 c h

theorem run_choose_app (w : World) (need old elem : Nat) : ∃ c, (choose (.appendCap need old elem)).run P w = .ok c w.drew ∧ need ≤ c := by
  refine ⟨_, by rw [run_choose_drew]; simp only [Question.forced, Bool.false_eq_true, if_false]; rfl, ?_⟩
  simp only [Question.cut]; omega

/-- append, up to where it parts -/
theorem append_fits {ty ts tx e : TypeId} {i : TypeInfo} {d : TypeDesc} {base : Option Addr} {len cap n : Nat} {x : Value} {ys : List Value} (hs : P.underlying ts = some (.slice e)) (hd : P.underlying tx = some d) (hdd : d = .string ∨ ∃ q, d = .slice q)
    (hi : P.info? e = some i) (hl : (Builtin.lenOf x).run P w = .ok n w) (hf : (Builtin.firstCells i.size n x).run P w = .ok ys.toArray w) (hle : len + n ≤ cap) :
    (Builtin.append_ #[ts, tx] ty #[.slice base len cap, x]).run P w = ((match base with | some a => storeCells (a.add (len * i.size)) ys | none => pure ()) >>= fun _ => (pure (.slice base (len + n) cap) : Sem Value)).run P w := by
  have hsz : sizeOf? P e = some i.size := by simp [sizeOf?, hi]
  rcases hdd with rfl | ⟨q, rfl⟩
  all_goals
    simp only [Builtin.append_, List.getElem?_toArray, List.getElem?_cons_zero, List.getElem?_cons_succ, Sem.run_bind, run_und hs, run_und hd, Sem.run_pure, Result.andThen_ok, run_size hsz, Bool.false_eq_true, if_false, hl, if_pos hle, Bool.not_false, if_true, hf]
    cases base <;> simp
theorem append_grows {ty ts tx e : TypeId} {i : TypeInfo} {d : TypeDesc} {base : Option Addr} {len cap n : Nat} {x : Value} {ys os : List Value} {zv : Value} (hs : P.underlying ts = some (.slice e)) (hd : P.underlying tx = some d) (hdd : d = .string ∨ ∃ q, d = .slice q)
    (hi : P.info? e = some i) (hl : (Builtin.lenOf x).run P w = .ok n w) (hf : (Builtin.firstCells i.size n x).run P w.drew = .ok ys.toArray w.drew) (ho : (Builtin.firstCells i.size len (.slice base len cap)).run P w.drew = .ok os.toArray w.drew)
    (hle : ¬ len + n ≤ cap) (hb : 1 ≤ i.bytes) (hcap : Builtin.nextslicecap (len + n) cap * i.bytes ≤ 2 ^ 48) (hz0 : ∀ w, (zeroValue e).run P w = .ok zv w) (hzc : zv.cells.size = i.size) :
    ∃ c rest, len + n ≤ c ∧ rest.length = (c - (len + n)) * i.size ∧ (Builtin.append_ #[ts, tx] ty #[.slice base len cap, x]).run P w = .ok (.slice (some ⟨w.heap.size, 0, none⟩) (len + n) c) (w.drew.alloc (.cells (os ++ ys ++ rest).toArray e)) := by
  have hsz : sizeOf? P e = some i.size := by simp [sizeOf?, hi]
  obtain ⟨c, hc, hcn⟩ := run_choose_app (P := P) w (len + n) cap e
  refine ⟨c, (Builtin.zeroCells zv.cells (c - (len + n))).toList, hcn, ?_, ?_⟩
  · simp only [Builtin.zeroCells, Array.length_toList, Array.size_map, Array.size_range, hzc]
  · have hno : ¬ (((len + n : Nat) : Int) > IntKind.i64.max ∧ (False ∨ i.bytes = 0)) := by
      rintro ⟨_, h⟩; rcases h with h | h
      · exact h
      · omega
    have hno2 : ¬ (Builtin.nextslicecap (len + n) cap * i.bytes > 2 ^ 48) := by omega
    rcases hdd with rfl | ⟨q, rfl⟩
    all_goals
      simp only [Builtin.append_, List.getElem?_toArray, List.getElem?_cons_zero, List.getElem?_cons_succ, Sem.run_bind, run_und hs, run_und hd, Sem.run_pure, Result.andThen_ok, run_size hsz, Bool.false_eq_true, if_false, hl, if_neg hle, Bool.not_false, if_true, run_info hi, if_neg hno, if_neg hno2, hc, run_askRoom, ho, hf, hz0, run_newRow]
      have harr : os.toArray ++ ys.toArray ++ Builtin.zeroCells zv.cells (c - (len + n)) = (os ++ ys ++ (Builtin.zeroCells zv.cells (c - (len + n))).toList).toArray := by apply Array.ext'; simp
      rw [harr]
      simp
end
end Go.Proofs.YtaaofanhjolikaaGreatDoor.Sx
