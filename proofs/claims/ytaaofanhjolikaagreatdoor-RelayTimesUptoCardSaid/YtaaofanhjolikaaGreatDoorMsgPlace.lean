/- The contract of (*reading).place; the contracts of line and place in one. -/
import Derived.Test.YtaaofanhjolikaaGreatDoorMsgLine2
set_option linter.unusedVariables false
set_option linter.unusedSimpArgs false
namespace Go.Proofs.YtaaofanhjolikaaGreatDoor.Msg
open Go.RowKit Go.Proofs.YtaaofanhjolikaaGreatDoor.Mp

section
variable {w : World} {B p : Nat} {st : PSt} {mb : Nat} {hv fv : Value} {gs : List Gh}

def LinePost (w : World) (B p mb : Nat) (hv fv : Value) (gs : List Gh) (r : Except Int PSt) (e : Ending) (w' : World) : Prop :=
  match r with
  | .ok st' => e = .returned (.tuple #[]) ∧ RdAt w' B p st' mb hv fv gs ∧ Below B w w'
  | .error c => e = .panicked (refusal c) ∧ Below B w w'

theorem line_any (h : RdAt w B p st mb hv fv gs) (hsz : ∀ x ∈ st.ps, x.2.size ≤ 9223372036854775807) :
    Calls Tryz.prog 77 #[.pointer (some ⟨p, 0, none⟩)] w (LinePost w B p mb hv fv gs (lineF st)) := by
  have hs : ∀ {n v : ByteArray}, pick st.ps n = some v → v.size ≤ 9223372036854775807 := fun h => hsz _ (pick_some h)
  unfold lineF
  cases h1 : pick st.ps baMethod with
  | none => exact line_none h h1
  | some m =>
    simp only []
    by_cases h2 : everyB tokR m = false
    · rw [if_pos h2]; exact line_tok h m (hs h1) h1 h2
    rw [if_neg h2]
    have h2' : everyB tokR m = true := by simpa using h2
    by_cases hc : m.data.toList = bsConnect
    · rw [if_pos hc]
      cases h3 : pick st.ps baScheme with
      | some s =>
        cases h4 : pick st.ps baPath with
        | some q => exact line_connect_b h m (hs h1) h1 h2' s q hc h3 h4
        | none => exact line_connect_a h m (hs h1) h1 h2' s hc h3 h4
      | none =>
        cases h4 : pick st.ps baPath with
        | some q => exact line_connect_c h m (hs h1) h1 h2' q hc h3 h4
        | none =>
          rw [if_neg (by simp)]
          cases h5 : pick st.ps baAuth with
          | none => exact line_connect_d h m (hs h1) h1 h2' hc h3 h4 h5
          | some a => exact line_connect_e h m (hs h1) h1 h2' hc a h3 h4 h5
    · rw [if_neg hc]
      cases h3 : pick st.ps baScheme with
      | none =>
        cases h4 : pick st.ps baPath with
        | some q => exact line_plain_c h m (hs h1) h1 h2' q hc h3 h4
        | none => exact line_plain_b h m (hs h1) h1 h2' hc h3 h4
      | some s =>
        cases h4 : pick st.ps baPath with
        | none => exact line_plain_a h m (hs h1) h1 h2' s hc h3 h4
        | some q =>
          simp only []
          by_cases hh : s.data.toList = bsHttp
          · cases hp : pathB m q with
            | false => rw [if_neg (by simp)]; exact line_http0_no h m (hs h1) h1 h2' s q (hs h4) hc h3 h4 hh hp
            | true => rw [if_pos ⟨.inl hh, rfl⟩]; exact line_http0_ok h m (hs h1) h1 h2' s q (hs h4) hc h3 h4 hh hp
          · by_cases hh2 : s.data.toList = bsHttps
            · cases hp : pathB m q with
              | false => rw [if_neg (by simp)]; exact line_http1_no h m (hs h1) h1 h2' s q (hs h4) hc h3 h4 hh2 hp
              | true => rw [if_pos ⟨.inr hh2, rfl⟩]; exact line_http1_ok h m (hs h1) h1 h2' s q (hs h4) hc h3 h4 hh2 hp
            · rw [if_neg (by rintro ⟨h6 | h6, _⟩; exact hh h6; exact hh2 h6)]
              exact line_http_none h m (hs h1) h1 h2' s q (hs h4) hc h3 h4 ⟨hh, hh2⟩

/-- the authority, or the error -/
def placeF (st : PSt) : Except Int PSt :=
  match (pick st.ps baAuth).orElse (fun _ => st.hosts.head?) with
  | none => .error 183
  | some a =>
    if everyB authR a = false then .error 182
    else if st.hosts.all (fun h => h.data.toList == a.data.toList) = true then .ok { st with a := a } else .error 182

theorem host_slice (h : RdAt w B p st mb hv fv gs) : ∃ A c, hv = .slice A st.hosts.length c ∧ (∀ k (hk : k < st.hosts.length), ∃ g, A = some ⟨g, 0, none⟩ ∧ w.cell? ⟨g, k, none⟩ = some (.string (st.hosts[k]'hk))) ∧ st.hosts.length ≤ 9223372036854775807 := by
  rcases h.hosts.2 with ⟨rfl, h0⟩ | ⟨g, cap, cur, rfl, hB, hh, h1, h2, h3, h4⟩
  · have hl : st.hosts.length = 0 := by simpa using h0
    exact ⟨none, 0, by rw [hl], fun k hk => by omega, by omega⟩
  · refine ⟨_, cap, rfl, fun k hk => ⟨g, rfl, ?_⟩, by unfold maxLen at h2; omega⟩
    have := h.hosts.cells (g := g) rfl k (.string (st.hosts[k]'hk)) (by simp [hk])
    rwa [show (⟨g, 0, none⟩ : Addr).add k = ⟨g, k, none⟩ by unfold Addr.add; split <;> simp_all] at this

theorem lp_err {w2 : World} {a : ByteArray} (h : st.hosts.all (fun h => h.data.toList == a.data.toList) = false) (hb : Below w.heap.size w w2) (hBw : B ≤ w.heap.size) :
    LinePost w B p mb hv fv gs (if st.hosts.all (fun h => h.data.toList == a.data.toList) = true then .ok { st with a := a } else .error 182) (.panicked (refusal 182)) w2 := by
  rw [h]
  exact ⟨rfl, hb.mono hBw⟩
theorem lp_ok {w2 : World} {a : ByteArray} (h : st.hosts.all (fun h => h.data.toList == a.data.toList) = true) (h2 : RdAt w2 B p st mb hv fv gs) (hb : Below w.heap.size w w2) (hBw : B ≤ w.heap.size) (hBp : B ≤ p) :
    LinePost w B p mb hv fv gs (if st.hosts.all (fun h => h.data.toList == a.data.toList) = true then .ok { st with a := a } else .error 182) (.returned (.tuple #[])) (w2.setCell ⟨p, 5, none⟩ (.string a)) := by
  rw [h]
  exact ⟨rfl, rd_set h2 (st' := { st with a := a }) 5 (.string a) (by simp [rdCells]) rfl rfl rfl, (hb.mono hBw).setCell (p := ⟨p, 5, none⟩) hBp _⟩

theorem all_take_succ (l : List ByteArray) (q : ByteArray → Bool) (k : Nat) (hk : k < l.length) : (l.take (k + 1)).all q = ((l.take k).all q && q (l[k]'hk)) := by
  rw [List.take_succ_eq_append_getElem hk, List.all_append]
  simp

set_option maxHeartbeats 400000 in
theorem place_none (h : RdAt w B p st mb hv fv gs) (ha : pick st.ps baAuth = none) (hh : st.hosts = []) :
    Calls Tryz.prog 78 #[.pointer (some ⟨p, 0, none⟩)] w fun e w' => e = .panicked (refusal 183) ∧ Below B w w' := by
  have hBw : B ≤ w.heap.size := Nat.le_of_lt (Nat.lt_of_le_of_lt h.pB (lt_of_heap h.blk))
  have hBp := h.pB
  obtain ⟨A, c, hhv, hcell, hmax⟩ := host_slice h
  have H := Kp.mk h
  have HA : Kp (pick st.ps (⟨#[58, 97, 117, 116, 104, 111, 114, 105, 116, 121]⟩ : ByteArray) = none) := ⟨ha⟩
  clear ha
  have hc1 : w.cell? ⟨p, 1, none⟩ = some (.slice A st.hosts.length c) := by rw [← hhv, cell_of_blk h.blk]; rfl
  have hl0 : st.hosts.length = 0 := by rw [hh]; rfl
  rw [hl0] at hc1
  clear hcell hmax hhv hh hl0 h
  go_enter Tryz.func78, Tryz.ntmps78
  go_wp2_with (first | (go_at_call 103; (with_reducible refine (one_any H.out _).mono ?_); rintro e w' ⟨rfl, rfl⟩; rw [HA.out]; simp only [oneVal]) | (go_at_call 74; (with_reducible refine (must_no _ _).mono ?_); rintro e w' ⟨rfl, rfl⟩))
  exact ⟨rfl, rfl, Below.refl _ _⟩

set_option maxHeartbeats 400000 in
theorem place_auth_no (h : RdAt w B p st mb hv fv gs) (a : ByteArray) (has : a.size ≤ 9223372036854775807) (ha : pick st.ps baAuth = some a) (ht : everyB authR a = false) :
    Calls Tryz.prog 78 #[.pointer (some ⟨p, 0, none⟩)] w fun e w' => e = .panicked (refusal 182) ∧ Below B w w' := by
  have hBw : B ≤ w.heap.size := Nat.le_of_lt (Nat.lt_of_le_of_lt h.pB (lt_of_heap h.blk))
  have hBp := h.pB
  obtain ⟨A, c, hhv, hcell, hmax⟩ := host_slice h
  have H := Kp.mk h
  have HA : Kp (pick st.ps (⟨#[58, 97, 117, 116, 104, 111, 114, 105, 116, 121]⟩ : ByteArray) = some a) := ⟨ha⟩
  clear ha
  have hc1 : w.cell? ⟨p, 1, none⟩ = some (.slice A st.hosts.length c) := by rw [← hhv, cell_of_blk h.blk]; rfl
  have HT := Kp.mk ht
  clear ht hcell hhv h
  go_enter Tryz.func78, Tryz.ntmps78
  go_wp2_with (first | (go_at_call 103; (with_reducible refine (one_any H.out _).mono ?_); rintro e w' ⟨rfl, rfl⟩; rw [HA.out]; simp only [oneVal]) | (go_at_call 74; (with_reducible refine (must_ok _ _).mono ?_); rintro e w' ⟨rfl, rfl⟩) | (go_at_call 74; (with_reducible refine (must_no _ _).mono ?_); rintro e w' ⟨rfl, rfl⟩) | (go_at_call 107; refine (rightAuthority_any _ has _).mono ?_; rintro e w2 ⟨rfl, hb⟩; rw [HT.out]; have HB := Kp.mk hb; have H2 := Kp.mk (rd_kept H.out hb); clear hb; obtain ⟨A2, c2, hhv2, hcell2, hmax2⟩ := host_slice H2.out; have HC := Kp.mk hcell2; have hc1' : w2.cell? ⟨p, 1, none⟩ = some (.slice A2 st.hosts.length c2) := (by rw [← hhv2, cell_of_blk H2.out.blk]; rfl); clear hcell2 hhv2))
  exact ⟨rfl, rfl, HB.out.mono hBw⟩

set_option maxHeartbeats 400000 in
theorem place_auth_ok (h : RdAt w B p st mb hv fv gs) (a : ByteArray) (has : a.size ≤ 9223372036854775807) (ha : pick st.ps baAuth = some a) (ht : everyB authR a = true) (r : Except Int PSt) (hr : Kp (r = if st.hosts.all (fun h => h.data.toList == a.data.toList) = true then .ok { st with a := a } else .error 182)) :
    Calls Tryz.prog 78 #[.pointer (some ⟨p, 0, none⟩)] w fun e w' => LinePost w B p mb hv fv gs r e w' := by
  have hBw : B ≤ w.heap.size := Nat.le_of_lt (Nat.lt_of_le_of_lt h.pB (lt_of_heap h.blk))
  have hBp := h.pB
  obtain ⟨A, c, hhv, hcell, hmax⟩ := host_slice h
  have H := Kp.mk h
  have HA : Kp (pick st.ps (⟨#[58, 97, 117, 116, 104, 111, 114, 105, 116, 121]⟩ : ByteArray) = some a) := ⟨ha⟩
  clear ha
  have hc1 : w.cell? ⟨p, 1, none⟩ = some (.slice A st.hosts.length c) := by rw [← hhv, cell_of_blk h.blk]; rfl
  have HT := Kp.mk ht
  clear ht hcell hhv h
  go_enter Tryz.func78, Tryz.ntmps78
  go_wp2_with (first | (go_at_call 103; (with_reducible refine (one_any H.out _).mono ?_); rintro e w' ⟨rfl, rfl⟩; rw [HA.out]; simp only [oneVal]) | (go_at_call 74; (with_reducible refine (must_ok _ _).mono ?_); rintro e w' ⟨rfl, rfl⟩) | (go_at_call 107; refine (rightAuthority_any _ has _).mono ?_; rintro e w2 ⟨rfl, hb⟩; rw [HT.out]; have HB := Kp.mk hb; have H2 := Kp.mk (rd_kept H.out hb); clear hb; obtain ⟨A2, c2, hhv2, hcell2, hmax2⟩ := host_slice H2.out; have HC := Kp.mk hcell2; have hc1' : w2.cell? ⟨p, 1, none⟩ = some (.slice A2 st.hosts.length c2) := (by rw [← hhv2, cell_of_blk H2.out.blk]; rfl); clear hcell2 hhv2))
  go_loop [37] (fun i => ∃ k : Nat, k ≤ st.hosts.length ∧ i = .int .i64 k ∧ Kp ((st.hosts.take k).all (fun h => h.data.toList == a.data.toList) = true)) (fun i => st.hosts.length - (intOf i).toNat)
  case atStart => exact ⟨0, Nat.zero_le _, rfl, ⟨rfl⟩⟩
  case round =>
    obtain ⟨k, hk, rfl, HK⟩ := hrel
    by_cases hlt : k < st.hosts.length
    · obtain ⟨g2, hA2, hgk⟩ := HC.out k hlt
      have hsuc := all_take_succ st.hosts (fun h => h.data.toList == a.data.toList) k hlt
      obtain ⟨x, hx⟩ : ∃ x, x = st.hosts[k]'hlt := ⟨_, rfl⟩
      have HXE := Kp.mk hx
      rw [← hx] at hgk hsuc
      clear hx
      subst hA2
      cases hq : (x.toList == a.toList) with
      | true =>
        have HS : Kp ((st.hosts.take (k + 1)).all (fun h => h.data.toList == a.data.toList) = true) := ⟨by rw [hsuc, HK.out, ← ByteArray.toList_eq, ← ByteArray.toList_eq, hq]; rfl⟩
        clear hsuc
        go_wp2_with fail
        (with_reducible refine (must_ok _ _).mono ?_)
        rintro e w' ⟨rfl, rfl⟩
        go_wp2_with fail
        go_round
        case rel => exact ⟨k + 1, by omega, by go_num, HS⟩
        case measure => simp [intOf]; omega
      | false =>
        have HF : Kp (st.hosts.all (fun h => h.data.toList == a.data.toList) = false) := ⟨by
          rw [List.all_eq_false]
          refine ⟨x, by rw [HXE.out]; exact List.getElem_mem hlt, ?_⟩
          rw [← ByteArray.toList_eq, ← ByteArray.toList_eq, hq]
          decide⟩
        clear hsuc
        go_wp2_with fail
        (with_reducible refine (must_no _ _).mono ?_)
        rintro e w' ⟨rfl, rfl⟩
        exact ⟨rfl, by rw [hr.out]; exact lp_err HF.out HB.out hBw⟩
    · have hall : Kp (st.hosts.all (fun h => h.data.toList == a.data.toList) = true) := ⟨by have := HK.out; rwa [List.take_of_length_le (by omega)] at this⟩
      have hc5 : w2.cell? ⟨p, 5, none⟩ = some (.string st.a) := by rw [cell_of_blk H2.out.blk]; rfl
      have hz5 : w2.frozen? ⟨p, 5, none⟩ = false := free_of_blk H2.out.blk 5
      go_wp2
      first | go_end0 | refine bodyPost_ret (results_none rfl _ _ _) rfl ?_
      rw [hr.out]
      exact lp_ok hall.out H2.out HB.out hBw hBp

set_option maxHeartbeats 400000 in
theorem place_host_no (h : RdAt w B p st mb hv fv gs) (hh : 0 < st.hosts.length) (a : ByteArray) (has : a.size ≤ 9223372036854775807) (haE : a = st.hosts[0]'hh) (ha : pick st.ps baAuth = none) (ht : everyB authR a = false) :
    Calls Tryz.prog 78 #[.pointer (some ⟨p, 0, none⟩)] w fun e w' => e = .panicked (refusal 182) ∧ Below B w w' := by
  have hBw : B ≤ w.heap.size := Nat.le_of_lt (Nat.lt_of_le_of_lt h.pB (lt_of_heap h.blk))
  have hBp := h.pB
  obtain ⟨A, c, hhv, hcell, hmax⟩ := host_slice h
  have H := Kp.mk h
  have HA : Kp (pick st.ps (⟨#[58, 97, 117, 116, 104, 111, 114, 105, 116, 121]⟩ : ByteArray) = none) := ⟨ha⟩
  clear ha
  have hc1 : w.cell? ⟨p, 1, none⟩ = some (.slice A st.hosts.length c) := by rw [← hhv, cell_of_blk h.blk]; rfl
  obtain ⟨g, rfl, hg0⟩ := hcell 0 hh
  have hpos : (0 : Int) < st.hosts.length := by omega
  rw [← haE] at hg0
  clear haE
  have HT := Kp.mk ht
  clear ht hcell hhv h
  go_enter Tryz.func78, Tryz.ntmps78
  go_wp2_with (first | (go_at_call 103; (with_reducible refine (one_any H.out _).mono ?_); rintro e w' ⟨rfl, rfl⟩; rw [HA.out]; simp only [oneVal]) | (go_at_call 74; (with_reducible refine (must_ok _ _).mono ?_); rintro e w' ⟨rfl, rfl⟩) | (go_at_call 74; (with_reducible refine (must_no _ _).mono ?_); rintro e w' ⟨rfl, rfl⟩) | (go_at_call 107; refine (rightAuthority_any _ has _).mono ?_; rintro e w2 ⟨rfl, hb⟩; rw [HT.out]; have HB := Kp.mk hb; have H2 := Kp.mk (rd_kept H.out hb); clear hb; obtain ⟨A2, c2, hhv2, hcell2, hmax2⟩ := host_slice H2.out; have HC := Kp.mk hcell2; have hc1' : w2.cell? ⟨p, 1, none⟩ = some (.slice A2 st.hosts.length c2) := (by rw [← hhv2, cell_of_blk H2.out.blk]; rfl); clear hcell2 hhv2))
  exact ⟨rfl, rfl, HB.out.mono hBw⟩

set_option maxHeartbeats 400000 in
theorem place_host_ok (h : RdAt w B p st mb hv fv gs) (hh : 0 < st.hosts.length) (a : ByteArray) (has : a.size ≤ 9223372036854775807) (haE : a = st.hosts[0]'hh) (ha : pick st.ps baAuth = none) (ht : everyB authR a = true) (r : Except Int PSt) (hr : Kp (r = if st.hosts.all (fun h => h.data.toList == a.data.toList) = true then .ok { st with a := a } else .error 182)) :
    Calls Tryz.prog 78 #[.pointer (some ⟨p, 0, none⟩)] w fun e w' => LinePost w B p mb hv fv gs r e w' := by
  have hBw : B ≤ w.heap.size := Nat.le_of_lt (Nat.lt_of_le_of_lt h.pB (lt_of_heap h.blk))
  have hBp := h.pB
  obtain ⟨A, c, hhv, hcell, hmax⟩ := host_slice h
  have H := Kp.mk h
  have HA : Kp (pick st.ps (⟨#[58, 97, 117, 116, 104, 111, 114, 105, 116, 121]⟩ : ByteArray) = none) := ⟨ha⟩
  clear ha
  have hc1 : w.cell? ⟨p, 1, none⟩ = some (.slice A st.hosts.length c) := by rw [← hhv, cell_of_blk h.blk]; rfl
  obtain ⟨g, rfl, hg0⟩ := hcell 0 hh
  have hpos : (0 : Int) < st.hosts.length := by omega
  rw [← haE] at hg0
  clear haE
  have HT := Kp.mk ht
  clear ht hcell hhv h
  go_enter Tryz.func78, Tryz.ntmps78
  go_wp2_with (first | (go_at_call 103; (with_reducible refine (one_any H.out _).mono ?_); rintro e w' ⟨rfl, rfl⟩; rw [HA.out]; simp only [oneVal]) | (go_at_call 74; (with_reducible refine (must_ok _ _).mono ?_); rintro e w' ⟨rfl, rfl⟩) | (go_at_call 107; refine (rightAuthority_any _ has _).mono ?_; rintro e w2 ⟨rfl, hb⟩; rw [HT.out]; have HB := Kp.mk hb; have H2 := Kp.mk (rd_kept H.out hb); clear hb; obtain ⟨A2, c2, hhv2, hcell2, hmax2⟩ := host_slice H2.out; have HC := Kp.mk hcell2; have hc1' : w2.cell? ⟨p, 1, none⟩ = some (.slice A2 st.hosts.length c2) := (by rw [← hhv2, cell_of_blk H2.out.blk]; rfl); clear hcell2 hhv2))
  go_loop [37] (fun i => ∃ k : Nat, k ≤ st.hosts.length ∧ i = .int .i64 k ∧ Kp ((st.hosts.take k).all (fun h => h.data.toList == a.data.toList) = true)) (fun i => st.hosts.length - (intOf i).toNat)
  case atStart => exact ⟨0, Nat.zero_le _, rfl, ⟨rfl⟩⟩
  case round =>
    obtain ⟨k, hk, rfl, HK⟩ := hrel
    by_cases hlt : k < st.hosts.length
    · obtain ⟨g2, hA2, hgk⟩ := HC.out k hlt
      have hsuc := all_take_succ st.hosts (fun h => h.data.toList == a.data.toList) k hlt
      obtain ⟨x, hx⟩ : ∃ x, x = st.hosts[k]'hlt := ⟨_, rfl⟩
      have HXE := Kp.mk hx
      rw [← hx] at hgk hsuc
      clear hx
      subst hA2
      cases hq : (x.toList == a.toList) with
      | true =>
        have HS : Kp ((st.hosts.take (k + 1)).all (fun h => h.data.toList == a.data.toList) = true) := ⟨by rw [hsuc, HK.out, ← ByteArray.toList_eq, ← ByteArray.toList_eq, hq]; rfl⟩
        clear hsuc
        go_wp2_with fail
        (with_reducible refine (must_ok _ _).mono ?_)
        rintro e w' ⟨rfl, rfl⟩
        go_wp2_with fail
        go_round
        case rel => exact ⟨k + 1, by omega, by go_num, HS⟩
        case measure => simp [intOf]; omega
      | false =>
        have HF : Kp (st.hosts.all (fun h => h.data.toList == a.data.toList) = false) := ⟨by
          rw [List.all_eq_false]
          refine ⟨x, by rw [HXE.out]; exact List.getElem_mem hlt, ?_⟩
          rw [← ByteArray.toList_eq, ← ByteArray.toList_eq, hq]
          decide⟩
        clear hsuc
        go_wp2_with fail
        (with_reducible refine (must_no _ _).mono ?_)
        rintro e w' ⟨rfl, rfl⟩
        exact ⟨rfl, by rw [hr.out]; exact lp_err HF.out HB.out hBw⟩
    · have hall : Kp (st.hosts.all (fun h => h.data.toList == a.data.toList) = true) := ⟨by have := HK.out; rwa [List.take_of_length_le (by omega)] at this⟩
      have hc5 : w2.cell? ⟨p, 5, none⟩ = some (.string st.a) := by rw [cell_of_blk H2.out.blk]; rfl
      have hz5 : w2.frozen? ⟨p, 5, none⟩ = false := free_of_blk H2.out.blk 5
      go_wp2
      first | go_end0 | refine bodyPost_ret (results_none rfl _ _ _) rfl ?_
      rw [hr.out]
      exact lp_ok hall.out H2.out HB.out hBw hBp

end

end Go.Proofs.YtaaofanhjolikaaGreatDoor.Msg
