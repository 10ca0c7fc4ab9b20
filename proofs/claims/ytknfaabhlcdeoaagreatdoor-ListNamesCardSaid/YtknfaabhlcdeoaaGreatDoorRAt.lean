/- The document's Stack, Kind, Data and At: what a stack shows at a path. -/
import Derived.Test.YtknfaabhlcdeoaaGreatDoorROver
namespace Go.Proofs.YtknfaabhlcdeoaaGreatDoor
open Go Go.RowKit Go.Shelf Go.Proofs

def RstRel (s : List (List Ent)) (n : Nat) (w : World) (v3 v4 : Value) (wr : World) : Prop := ∃ k : Nat, v4 = .int .i64 k ∧ k ≤ n ∧ Hid (RdE wr v3 (foldT (s.take k))) ∧ Ext w wr
theorem rst_next {s : List (List Ent)} {n k : Nat} {w W : World} {v3 : Value} (hlt : k < n) (h : RdE W v3 (foldT (s.take (k + 1)))) (hE : Ext w W) :
    RstRel s n w v3 (.int .i64 ((k : Int) + 1)) W ∧ n - (intOf (.int .i64 ((k : Int) + 1))).toNat < n - (intOf (.int .i64 (k : Int))).toNat :=
  ⟨⟨k + 1, by simp, by omega, Lib.hid h, hE⟩, by simp [intOf]; omega⟩

set_option maxHeartbeats 4000000 in
set_option maxRecDepth 20000 in
theorem RFold_any (v : Value) (s : List (List Ent)) (w : World) (hv : RdK w v s) (hst : stackOk s = true) : Calls Tryz.prog 62 #[v] w (RdAns (foldT s) w) := by
  obtain ⟨h9, hl⟩ := stackOk_layers hst
  have hft := fun k (hk : k ≤ s.length) => fold_take hl h9 k hk
  obtain ⟨n, hn⟩ : ∃ n, n = s.length := ⟨_, rfl⟩
  have Hn := Lib.hid hn
  obtain ⟨A, c, rfl, hc1, hc2, Hcell⟩ := RdK.form hv hn
  rw [← hn] at h9
  have Hl := Lib.hid hl
  have Hft := Lib.hid hft
  clear hn hv hst hl hft
  go_enter Tryz.func62, Tryz.ntmps62
  go_wp2
  go_loopw [3, 4] (fun v3 v4 wr => RstRel s n w v3 v4 wr) (fun _ v4 _ => n - (intOf v4).toNat)
  case atStart => exact ⟨0, rfl, Nat.zero_le _, Lib.hid (Rd.nil _ _ _), Ext.refl _⟩
  case round =>
    obtain ⟨k, rfl, hkn, hrd, hE⟩ := hrel
    by_cases hlt : k < n
    · have hh : k < s.length := by have := Hn.out; omega
      obtain ⟨b, o, rfl, hcell⟩ := Hcell.out (List.ne_nil_of_length_pos (by omega))
      obtain ⟨u, q0, hu⟩ := hcell k hh
      have g0 := hE.cell q0
      have Hu := Lib.hid (hu.ext hE)
      have h1 := Hft.out k (by omega)
      have hlk := Hl.out _ (List.getElem_mem hh)
      have h64 := layerOk_len hlk
      have HO := fun W a1 a2 => ROver_any u3 u (foldT (s.take k)) (s[k]'hh) W a1 a2 h1.1 hlk (by have := h1.2.1; omega)
      rw [← foldT_take hh] at HO
      have HOh := Lib.hid HO
      clear q0 hu hcell h1 hlk h64 HO
      go_wp2_with (go_at_call 116; refine (HOh.out _ (hrd.out.ext (by exact (by repeat (first | exact Ext.refl _ | assumption | refine Ext.alloc ?_ _ | refine Ext.drew ?_ | refine Ext.drewN ?_ _ | refine Ext.setCell ?_ (by first | omega | (simp; done) | (simp; omega)) _ | refine Ext.trans ?_ (by assumption))))) (Hu.out.ext (by exact (by repeat (first | exact Ext.refl _ | assumption | refine Ext.alloc ?_ _ | refine Ext.drew ?_ | refine Ext.drewN ?_ _ | refine Ext.setCell ?_ (by first | omega | (simp; done) | (simp; omega)) _ | refine Ext.trans ?_ (by assumption)))))).mono ?_; rintro e W3 ⟨v4, rfl, hrd4, hE3⟩)
      exact rst_next hlt hrd4 (hE.trans hE3)
    · have hfin := hrd.out
      rw [List.take_of_length_le (by have := Hn.out; omega)] at hfin
      have Hfin := Lib.hid hfin
      clear hfin hrd
      go_wp2
      go_ret
      exact ⟨_, rfl, Hfin.out, hE⟩

/-! ### Kind, Data -/

def kindR (t : List Ent) (p : ByteArray) : Int × Int := match names p with
  | none => (0, 2)
  | some ys => if ys = [] then (2, 0) else match findT t p with
    | some x => (x.kind, 0)
    | none => (0, 3)
def dataR (t : List Ent) (p : ByteArray) : ByteArray := match findT t p with
  | some x => x.data
  | none => ⟨#[]⟩

theorem find_hit {t : List Ent} {p : ByteArray} {k : Nat} (hh : k < t.length) (h : t[k].path = p) (hb : ∀ (j : Nat) (h : j < t.length), j < k → t[j].path ≠ p) : findT t p = some t[k] := by
  rw [findT, List.find?_eq_some_iff_getElem]
  refine ⟨by simp [h], k, hh, rfl, fun j hj => ?_⟩
  simp [hb j (by omega) hj]

set_option maxHeartbeats 4000000 in
set_option maxRecDepth 20000 in
theorem RKind_any (v : Value) (t : List Ent) (p : ByteArray) (w : World) (hv : RdE w v t) (hp : p.size ≤ 140737488355328) :
    Calls Tryz.prog 70 #[v, .string p] w fun e w' => e = .returned (.tuple #[.int .i64 (kindR t p).1, .int .i64 (kindR t p).2]) ∧ Ext w w' := by
  have HS := fun W => RSplit_any p hp W
  have hre := root_eq p
  obtain ⟨n, hn⟩ : ∃ n, n = t.length := ⟨_, rfl⟩
  have Hn := Lib.hid hn
  obtain ⟨A, c, rfl, hc1, hc2, Hcell⟩ := rdE_form hv hn
  clear hn hv
  obtain ⟨r, hr⟩ : ∃ r, kindR t p = r := ⟨_, rfl⟩
  have hr2 : (match names p with | none => ((0 : Int), (2 : Int)) | some ys => if ys = [] then (2, 0) else match findT t p with | some x => (x.kind, 0) | none => (0, 3)) = r := hr
  rw [hr]
  rcases hnm : names p with _ | xs
  · have HS2 : ∀ W, Calls Tryz.prog 69 #[.string p] W fun e w' => e = .returned (.tuple #[.slice none 0 0, .bool false]) ∧ Ext W w' := fun W => (HS W).mono fun e w' h => by
      rcases h with ⟨xs, v, h1, h2, h3, h4⟩ | ⟨_, h⟩
      · rw [hnm] at h1; cases h1
      · exact h
    rw [hnm] at hr2
    subst hr2
    clear HS hnm hr hre
    go_enter Tryz.func70, Tryz.ntmps70
    go_wp2_with (go_at_call 69; refine (HS2 _).mono ?_; rintro e W1 ⟨rfl, hE1⟩)
    go_ret2
    exact ⟨rfl, by exact (by repeat (first | exact Ext.refl _ | assumption | refine Ext.alloc ?_ _ | refine Ext.drew ?_ | refine Ext.drewN ?_ _ | refine Ext.setCell ?_ (by first | omega | (simp; done) | (simp; omega)) _ | refine Ext.trans ?_ (by assumption)))⟩
  · have HS2 : ∀ W, Calls Tryz.prog 69 #[.string p] W fun e w' => ∃ v, e = .returned (.tuple #[v, .bool true]) ∧ Ext W w' := fun W => (HS W).mono fun e w' h => by
      rcases h with ⟨ys, v, h1, h2, h3, h4⟩ | ⟨h1, h⟩
      · exact ⟨v, h2, h4⟩
      · rw [hnm] at h1; cases h1
    rw [hnm] at hr2
    dsimp only at hr2
    by_cases h0 : xs = []
    · have hpr : p = ⟨#[47]⟩ := by
        have := (ValN.of hnm).2
        rw [h0] at this
        exact this.symm
      rw [decide_eq_true hpr] at hre
      rw [if_pos h0] at hr2
      subst hr2
      clear HS hnm hr hpr h0
      go_enter Tryz.func70, Tryz.ntmps70
      go_wp2_with (go_at_call 69; refine (HS2 _).mono ?_; rintro e W1 ⟨v1, rfl, hE1⟩)
      go_ret2
      exact ⟨rfl, by exact (by repeat (first | exact Ext.refl _ | assumption | refine Ext.alloc ?_ _ | refine Ext.drew ?_ | refine Ext.drewN ?_ _ | refine Ext.setCell ?_ (by first | omega | (simp; done) | (simp; omega)) _ | refine Ext.trans ?_ (by assumption)))⟩
    · rw [decide_eq_false (names_ne_root hnm h0)] at hre
      rw [if_neg h0] at hr2
      have Hr2 := Lib.hid hr2
      clear HS hnm hr h0 hr2
      go_enter Tryz.func70, Tryz.ntmps70
      go_upto_region 7 with (go_at_call 69; refine (HS2 _).mono ?_; rintro e W1 ⟨v1, rfl, hE1⟩)
      go_loopw [8] (fun i wr => ∃ k : Nat, i = .int .i64 k ∧ k ≤ n ∧ Hid (∀ (j : Nat) (h : j < t.length), j < k → t[j].path ≠ p) ∧ Ext w wr) (fun i _ => n - (intOf i).toNat)
      case atStart => exact ⟨0, rfl, Nat.zero_le _, Lib.hid fun j _ h => absurd h (Nat.not_lt_zero j), by exact (by repeat (first | exact Ext.refl _ | assumption | refine Ext.alloc ?_ _ | refine Ext.drew ?_ | refine Ext.drewN ?_ _ | refine Ext.setCell ?_ (by first | omega | (simp; done) | (simp; omega)) _ | refine Ext.trans ?_ (by assumption)))⟩
      case round =>
        obtain ⟨k, rfl, hkn, hall, hE⟩ := hrel
        by_cases hlt : k < n
        · have hh : k < t.length := by have := Hn.out; omega
          obtain ⟨b, o, rfl, hcell⟩ := Hcell.out (List.ne_nil_of_length_pos (by omega))
          obtain ⟨q0, q1, q2, _⟩ := hcell k hh
          obtain ⟨x, hx⟩ : ∃ x, t[k]'hh = x := ⟨_, rfl⟩
          rw [hx] at q0 q1 q2
          have g0 := hE.cell q0
          have g1 := hE.cell q1
          have hpe := path_eqR x.path p
          by_cases hxp : x.path = p
          · rw [decide_eq_true hxp] at hpe
            have hf := find_hit hh (by rw [hx]; exact hxp) hall.out
            rw [hx] at hf
            have Hr3 := Lib.hid Hr2.out
            have Hr4 : Hid (r = (x.kind, 0)) := Lib.hid (by rw [← Hr2.out, hf])
            clear q0 q1 q2 hcell hx hxp hf
            go_wp2
            go_ret2
            exact ⟨by rw [Hr4.out]; rfl, hE⟩
          · rw [decide_eq_false hxp] at hpe
            have Hnx : Hid (∀ (j : Nat) (h : j < t.length), j < k + 1 → t[j].path ≠ p) := Lib.hid fun j hj hjk => by
              by_cases e : j = k
              · subst e; rw [hx]; exact hxp
              · exact hall.out j hj (by omega)
            clear q0 q1 q2 hcell hx hxp
            go_wp2
            exact ⟨⟨k + 1, by simp, by omega, Hnx, hE⟩, by simp [intOf]; omega⟩
        · have hf : findT t p = none := findT_not fun y hy => by
            obtain ⟨j, hj, rfl⟩ := List.getElem_of_mem hy
            exact hall.out j hj (by have := Hn.out; omega)
          have Hr4 : Hid (r = (0, 3)) := Lib.hid (by rw [← Hr2.out, hf])
          clear hf
          go_wp2
          go_ret2
          exact ⟨by rw [Hr4.out]; rfl, hE⟩

set_option maxHeartbeats 4000000 in
set_option maxRecDepth 20000 in
theorem RData_any (v : Value) (t : List Ent) (p : ByteArray) (w : World) (hv : RdE w v t) :
    Calls Tryz.prog 72 #[v, .string p] w fun e w' => e = .returned (.string (dataR t p)) ∧ Ext w w' := by
  obtain ⟨n, hn⟩ : ∃ n, n = t.length := ⟨_, rfl⟩
  have Hn := Lib.hid hn
  obtain ⟨A, c, rfl, hc1, hc2, Hcell⟩ := rdE_form hv hn
  clear hn hv
  go_enter Tryz.func72, Tryz.ntmps72
  go_wp2
  go_loopw [5] (fun i wr => ∃ k : Nat, i = .int .i64 k ∧ k ≤ n ∧ Hid (∀ (j : Nat) (h : j < t.length), j < k → t[j].path ≠ p) ∧ Ext w wr) (fun i _ => n - (intOf i).toNat)
  case atStart => exact ⟨0, rfl, Nat.zero_le _, Lib.hid fun j _ h => absurd h (Nat.not_lt_zero j), Ext.refl _⟩
  case round =>
    obtain ⟨k, rfl, hkn, hall, hE⟩ := hrel
    by_cases hlt : k < n
    · have hh : k < t.length := by have := Hn.out; omega
      obtain ⟨b, o, rfl, hcell⟩ := Hcell.out (List.ne_nil_of_length_pos (by omega))
      obtain ⟨q0, q1, q2, _⟩ := hcell k hh
      obtain ⟨x, hx⟩ : ∃ x, t[k]'hh = x := ⟨_, rfl⟩
      rw [hx] at q0 q1 q2
      have g0 := hE.cell q0
      have g2 := hE.cell q2
      have hpe := path_eqR x.path p
      by_cases hxp : x.path = p
      · rw [decide_eq_true hxp] at hpe
        have hf := find_hit hh (by rw [hx]; exact hxp) hall.out
        rw [hx] at hf
        have Hr4 : Hid (dataR t p = x.data) := Lib.hid (by rw [dataR, hf])
        clear q0 q1 q2 hcell hx hxp hf
        go_wp2
        go_ret
        exact ⟨by rw [Hr4.out]; rfl, hE⟩
      · rw [decide_eq_false hxp] at hpe
        have Hnx : Hid (∀ (j : Nat) (h : j < t.length), j < k + 1 → t[j].path ≠ p) := Lib.hid fun j hj hjk => by
          by_cases e : j = k
          · subst e; rw [hx]; exact hxp
          · exact hall.out j hj (by omega)
        clear q0 q1 q2 hcell hx hxp
        go_wp2
        exact ⟨⟨k + 1, by simp, by omega, Hnx, hE⟩, by simp [intOf]; omega⟩
    · have hf : findT t p = none := findT_not fun y hy => by
        obtain ⟨j, hj, rfl⟩ := List.getElem_of_mem hy
        exact hall.out j hj (by have := Hn.out; omega)
      have Hr4 : Hid (dataR t p = ⟨#[]⟩) := Lib.hid (by rw [dataR, hf])
      clear hf
      go_wp2
      go_ret
      exact ⟨by rw [Hr4.out]; rfl, hE⟩

/-! ### At -/

theorem lookS_bad {s : List (List Ent)} {ys : List ByteArray} {i : Nat} {c : Int} (h : lookS s ys i = .error c) : ∀ j, i ≤ j → lookS s ys j = .error c
  | 0, hj => by
    have : i = 0 := by omega
    subst this
    exact h
  | j + 1, hj => by
    by_cases e : i = j + 1
    · subst e; exact h
    · rw [lookS, lookS_bad h j (by omega)]

def atR (s : List (List Ent)) (p : ByteArray) : Int × ByteArray × Int := match names p with
  | none => (0, ⟨#[]⟩, 2)
  | some ys => match lookS s ys ys.length with
    | .error c => (0, ⟨#[]⟩, c)
    | .ok x => (x.kind, x.data, 0)

theorem kindR_root (t : List Ent) : kindR t ⟨#[47]⟩ = (2, 0) := by rw [kindR, names_root]; rfl
theorem kindR_deep {t : List Ent} {xs : List ByteArray} (hv : ValN xs) (h0 : xs ≠ []) : kindR t (pathOf xs) = match findT t (pathOf xs) with | some x => (x.kind, 0) | none => (0, 3) := by
  rw [kindR, hv.names]
  exact if_neg h0

/-- One name on. -/
theorem lookS_step {s : List (List Ent)} {ys : List ByteArray} {i : Nat} {x : Ent} (h : lookS s ys i = .ok x) (hk : x.kind ≠ 1) : lookS s ys (i + 1) = match showL s (pathOf (ys.take (i + 1))) with | none => .error 3 | some e => .ok e := by
  rw [lookS, h]
  exact if_neg hk
theorem lookS_file {s : List (List Ent)} {ys : List ByteArray} {i : Nat} {x : Ent} (h : lookS s ys i = .ok x) (hk : x.kind = 1) : lookS s ys (i + 1) = .error 6 := by
  rw [lookS, h]
  exact if_pos hk

/-- What Kind says of a beginning of the path. -/
theorem kind_step {s : List (List Ent)} {t ys' : List Ent} {ys : List ByteArray} (hf : ∀ p, findT t p = showL s p) (hv : ValN ys) {i : Nat} (hi : i ≤ ys.length) (hall : ∀ j, j < i → ∃ x, lookS s ys j = .ok x ∧ x.kind ≠ 1) :
    (∃ e, kindR t (pathOf (ys.take i)) = (e.kind, 0) ∧ lookS s ys i = .ok e ∧ (dataR t (pathOf (ys.take i)) = e.data)) ∨ (kindR t (pathOf (ys.take i)) = (0, 3) ∧ lookS s ys i = .error 3 ∧ dataR t (pathOf (ys.take i)) = ⟨#[]⟩) ∨ (i = 0 ∧ ys' = ys') := by
  rcases i with _ | i
  · exact .inr (.inr ⟨rfl, rfl⟩)
  · obtain ⟨x, h1, h2⟩ := hall i (by omega)
    have h3 := lookS_step h1 h2
    have h0 : ys.take (i + 1) ≠ [] := by
      intro h
      have := congrArg List.length h
      rw [List.length_take, List.length_nil] at this
      omega
    have h4 := kindR_deep (t := t) (hv.take (i + 1)) h0
    rw [hf] at h4
    rcases hs : showL s (pathOf (ys.take (i + 1))) with _ | e
    · rw [hs] at h3 h4
      exact .inr (.inl ⟨h4, h3, by rw [dataR, hf, hs]⟩)
    · rw [hs] at h3 h4
      exact .inl ⟨e, h4, h3, by rw [dataR, hf, hs]⟩

def ArRel (s : List (List Ent)) (ys : List ByteArray) (n : Nat) (w : World) (i : Value) (wr : World) : Prop :=
  ∃ k : Nat, i = .int .i64 k ∧ k ≤ n ∧ Hid (∀ j, j < k → ∃ x, lookS s ys j = .ok x ∧ x.kind ≠ 1) ∧ Ext w wr
theorem ar_next {s : List (List Ent)} {ys : List ByteArray} {n k : Nat} {w W : World} (hlt : k < n) (hall : Hid (∀ j, j < k → ∃ x, lookS s ys j = .ok x ∧ x.kind ≠ 1)) {x : Ent} (h : lookS s ys k = .ok x) (hk : x.kind ≠ 1) (hE : Ext w W) :
    ArRel s ys n w (.int .i64 ((k : Int) + 1)) W ∧ n - (intOf (.int .i64 ((k : Int) + 1))).toNat < n - (intOf (.int .i64 (k : Int))).toNat := by
  refine ⟨⟨k + 1, by simp, by omega, Lib.hid fun j hj => ?_, hE⟩, by simp [intOf]; omega⟩
  by_cases e : j = k
  · subst e; exact ⟨x, h, hk⟩
  · exact hall.out j (by omega)

def RAtAns (r : Int × ByteArray × Int) (w : World) (e : Ending) (w' : World) : Prop := e = .returned (.tuple #[.int .i64 r.1, .string r.2.1, .int .i64 r.2.2]) ∧ Ext w w'

set_option maxHeartbeats 8000000 in
set_option maxRecDepth 20000 in
theorem RAt_any (v : Value) (s : List (List Ent)) (p : ByteArray) (w : World) (hv : RdK w v s) (hst : stackOk s = true) (hp : p.size ≤ 140737488355328) :
    Calls Tryz.prog 30 #[v, .string p] w (RAtAns (atR s p) w) := by
  have HS := fun W => RSplit_any p hp W
  have HF := fun W h => RFold_any v s W h hst
  obtain ⟨t1, _, hf⟩ := fold_show hst
  have Hv := Lib.hid hv
  obtain ⟨r, hr⟩ : ∃ r, atR s p = r := ⟨_, rfl⟩
  rw [hr]
  obtain ⟨A, c, rfl, _, _, _⟩ := RdK.form hv rfl
  rcases hnm : names p with _ | ys
  · have HS2 : ∀ W, Calls Tryz.prog 69 #[.string p] W fun e w' => e = .returned (.tuple #[.slice none 0 0, .bool false]) ∧ Ext W w' := fun W => (HS W).mono fun e w' h => by
      rcases h with ⟨xs, v, h1, h2, h3, h4⟩ | ⟨_, h⟩
      · rw [hnm] at h1; cases h1
      · exact h
    have hr2 : r = (0, ⟨#[]⟩, 2) := by rw [← hr, atR, hnm]
    have Hr2 := Lib.hid hr2
    clear HS hnm hr hr2 hv hst hf t1
    go_enter Tryz.func30, Tryz.ntmps30
    go_wp2_with (go_at_call 69; refine (HS2 _).mono ?_; rintro e W1 ⟨rfl, hE1⟩)
    refine bodyPost_ret (v := .tuple #[.int .i64 0, .string ⟨#[]⟩, .int .i64 2]) (by simp [results, Tryz.f30, go_sem]) rfl ?_
    rw [Hr2.out]
    exact ⟨rfl, by exact (by repeat (first | exact Ext.refl _ | assumption | refine Ext.alloc ?_ _ | refine Ext.drew ?_ | refine Ext.drewN ?_ _ | refine Ext.setCell ?_ (by first | omega | (simp; done) | (simp; omega)) _ | refine Ext.trans ?_ (by assumption)))⟩
  · have HS2 : ∀ W, Calls Tryz.prog 69 #[.string p] W fun e w' => ∃ v, e = .returned (.tuple #[v, .bool true]) ∧ RdS w' v ys ∧ Ext W w' := fun W => (HS W).mono fun e w' h => by
      rcases h with ⟨xs, v, h1, h2, h3, h4⟩ | ⟨h1, h⟩
      · rw [hnm] at h1
        cases h1
        exact ⟨v, h2, h3, h4⟩
      · rw [hnm] at h1; cases h1
    obtain ⟨hvn, hpe⟩ := ValN.of hnm
    have hr2 : r = match lookS s ys ys.length with | .error c => (0, ⟨#[]⟩, c) | .ok x => (x.kind, x.data, 0) := by rw [← hr, atR, hnm]
    have Hr2 := Lib.hid hr2
    have Hvn := Lib.hid hvn
    have Hpe := Lib.hid hpe
    have Hf := Lib.hid hf
    have Ht1 := Lib.hid t1
    obtain ⟨n, hn⟩ : ∃ n, n = ys.length := ⟨_, rfl⟩
    have hn6 : n ≤ 6 := by have := hvn.2; omega
    have Hn := Lib.hid hn
    obtain ⟨T, hT⟩ : ∃ T, foldT s = T := ⟨_, rfl⟩
    rw [hT] at HF Hf Ht1
    clear HS hnm hr hr2 hv hst hf t1 hvn hpe hT
    go_enter Tryz.func30, Tryz.ntmps30
    go_upto_region 6 with (first | (go_at_call 69; refine (HS2 _).mono ?_; rintro e W1 ⟨v1, rfl, hr1, hE1⟩; have Hr1 := Lib.hid hr1; obtain ⟨A1, c1, rfl, hc1, hc2, _⟩ := rdS_form hr1 hn; clear hr1 hn) | (go_at_call 62; refine (HF _ (Hv.out.ext (by exact (by repeat (first | exact Ext.refl _ | assumption | refine Ext.alloc ?_ _ | refine Ext.drew ?_ | refine Ext.drewN ?_ _ | refine Ext.setCell ?_ (by first | omega | (simp; done) | (simp; omega)) _ | refine Ext.trans ?_ (by assumption)))))).mono ?_; rintro e W2 ⟨v2, rfl, hr2, hE2⟩; have HT2 := Lib.hid hr2; clear hr2))
    have HE2 := Lib.hid (show Ext w W2 by exact (by repeat (first | exact Ext.refl _ | assumption | refine Ext.alloc ?_ _ | refine Ext.drew ?_ | refine Ext.drewN ?_ _ | refine Ext.setCell ?_ (by first | omega | (simp; done) | (simp; omega)) _ | refine Ext.trans ?_ (by assumption))))
    have Hr12 := Lib.hid (Hr1.out.ext hE2)
    clear hE1 hE2
    go_loopw [10] (fun i wr => ArRel s ys n W2 i wr) (fun i _ => n - (intOf i).toNat)
    case atStart => exact ⟨0, rfl, Nat.zero_le _, Lib.hid fun j h => absurd h (Nat.not_lt_zero j), Ext.refl _⟩
    case round =>
      obtain ⟨k, rfl, hkn, hall, hE⟩ := hrel
      have hks := kind_step (ys' := []) Hf.out Hvn.out (show k ≤ ys.length by have := Hn.out; omega) hall.out
      by_cases hlt : k < n
      · have hh : k < ys.length := by have := Hn.out; omega
        have hpre : RdS W2 (.slice A1 (ys.take k).length c1) (ys.take k) := by
          have h1 := Hr12.out
          rw [Hn.out, ← List.take_append_drop k ys] at h1
          exact Rd.left h1
        rw [List.length_take, Nat.min_eq_left (by omega)] at hpre
        have Hpre := Lib.hid hpre
        have HJ := fun W h => RJoin_any (.slice A1 k c1) (ys.take k) W h (fun x hx => nameB_size (List.all_eq_true.1 Hvn.out.1 x (List.mem_of_mem_take hx))) (by rw [List.length_take]; omega)
        have hqs := pathOf_size (Hvn.out.take k).1 (Hvn.out.take k).2
        obtain ⟨q, hq⟩ : ∃ q, pathOf (ys.take k) = q := ⟨_, rfl⟩
        rw [hq] at HJ hqs hks
        have HK := fun W h => RKind_any v2 T q W h (by omega)
        have hkc : (k : Int) ≤ (c1 : Int) := by omega
        have hroot : k = 0 → q = ⟨#[47]⟩ := fun h => by rw [← hq, h]; rfl
        clear hpre
        rcases hks with ⟨e, hke, hle, hz9⟩ | ⟨hke, hle, hz9⟩ | ⟨h0, hz9⟩ <;> clear hz9
        · rw [hke] at HK
          have Hle := Lib.hid hle
          by_cases hk1 : e.kind = 1
          · have k1 : (e.kind == 1) = true := by simpa using hk1
            have hfin : r = (0, ⟨#[]⟩, 6) := by rw [Hr2.out, lookS_bad (lookS_file hle hk1) _ (by omega)]
            have Hfin := Lib.hid hfin
            clear hke hle hk1 hfin hq hroot
            go_wp2_with (first | (go_at_call 71; refine (HJ _ (Hpre.out.ext (hE.trans (by exact (by repeat (first | exact Ext.refl _ | assumption | refine Ext.alloc ?_ _ | refine Ext.drew ?_ | refine Ext.drewN ?_ _ | refine Ext.setCell ?_ (by first | omega | (simp; done) | (simp; omega)) _ | refine Ext.trans ?_ (by assumption))))))).mono ?_; rintro e W3 ⟨rfl, hE3⟩) | (go_at_call 70; refine (HK _ (HT2.out.ext (hE.trans (by exact (by repeat (first | exact Ext.refl _ | assumption | refine Ext.alloc ?_ _ | refine Ext.drew ?_ | refine Ext.drewN ?_ _ | refine Ext.setCell ?_ (by first | omega | (simp; done) | (simp; omega)) _ | refine Ext.trans ?_ (by assumption))))))).mono ?_; rintro e W4 ⟨rfl, hE4⟩))
            refine bodyPost_ret (v := .tuple #[.int .i64 0, .string ⟨#[]⟩, .int .i64 6]) (by simp [results, Tryz.f30, go_sem]) rfl ?_
            rw [Hfin.out]
            exact ⟨rfl, HE2.out.trans (hE.trans (by exact (by repeat (first | exact Ext.refl _ | assumption | refine Ext.alloc ?_ _ | refine Ext.drew ?_ | refine Ext.drewN ?_ _ | refine Ext.setCell ?_ (by first | omega | (simp; done) | (simp; omega)) _ | refine Ext.trans ?_ (by assumption)))))⟩
          · have k1 : (e.kind == 1) = false := by simpa using hk1
            have Hk1 := Lib.hid hk1
            clear hke hle hk1 hq hroot
            go_wp2_with (first | (go_at_call 71; refine (HJ _ (Hpre.out.ext (hE.trans (by exact (by repeat (first | exact Ext.refl _ | assumption | refine Ext.alloc ?_ _ | refine Ext.drew ?_ | refine Ext.drewN ?_ _ | refine Ext.setCell ?_ (by first | omega | (simp; done) | (simp; omega)) _ | refine Ext.trans ?_ (by assumption))))))).mono ?_; rintro e W3 ⟨rfl, hE3⟩) | (go_at_call 70; refine (HK _ (HT2.out.ext (hE.trans (by exact (by repeat (first | exact Ext.refl _ | assumption | refine Ext.alloc ?_ _ | refine Ext.drew ?_ | refine Ext.drewN ?_ _ | refine Ext.setCell ?_ (by first | omega | (simp; done) | (simp; omega)) _ | refine Ext.trans ?_ (by assumption))))))).mono ?_; rintro e W4 ⟨rfl, hE4⟩))
            exact ar_next hlt hall Hle.out Hk1.out (hE.trans (by exact (by repeat (first | exact Ext.refl _ | assumption | refine Ext.alloc ?_ _ | refine Ext.drew ?_ | refine Ext.drewN ?_ _ | refine Ext.setCell ?_ (by first | omega | (simp; done) | (simp; omega)) _ | refine Ext.trans ?_ (by assumption)))))
        · rw [hke] at HK
          have hfin : r = (0, ⟨#[]⟩, 3) := by rw [Hr2.out, lookS_bad hle _ (by omega)]
          have Hfin := Lib.hid hfin
          clear hke hle hfin hq hroot
          go_wp2_with (first | (go_at_call 71; refine (HJ _ (Hpre.out.ext (hE.trans (by exact (by repeat (first | exact Ext.refl _ | assumption | refine Ext.alloc ?_ _ | refine Ext.drew ?_ | refine Ext.drewN ?_ _ | refine Ext.setCell ?_ (by first | omega | (simp; done) | (simp; omega)) _ | refine Ext.trans ?_ (by assumption))))))).mono ?_; rintro e W3 ⟨rfl, hE3⟩) | (go_at_call 70; refine (HK _ (HT2.out.ext (hE.trans (by exact (by repeat (first | exact Ext.refl _ | assumption | refine Ext.alloc ?_ _ | refine Ext.drew ?_ | refine Ext.drewN ?_ _ | refine Ext.setCell ?_ (by first | omega | (simp; done) | (simp; omega)) _ | refine Ext.trans ?_ (by assumption))))))).mono ?_; rintro e W4 ⟨rfl, hE4⟩))
          refine bodyPost_ret (v := .tuple #[.int .i64 0, .string ⟨#[]⟩, .int .i64 3]) (by simp [results, Tryz.f30, go_sem]) rfl ?_
          rw [Hfin.out]
          exact ⟨rfl, HE2.out.trans (hE.trans (by exact (by repeat (first | exact Ext.refl _ | assumption | refine Ext.alloc ?_ _ | refine Ext.drew ?_ | refine Ext.drewN ?_ _ | refine Ext.setCell ?_ (by first | omega | (simp; done) | (simp; omega)) _ | refine Ext.trans ?_ (by assumption)))))⟩
        · rw [hroot h0, kindR_root] at HK
          rw [hroot h0] at HJ
          have H0 := Lib.hid h0
          clear hq hroot h0
          go_wp2_with (first | (go_at_call 71; refine (HJ _ (Hpre.out.ext (hE.trans (by exact (by repeat (first | exact Ext.refl _ | assumption | refine Ext.alloc ?_ _ | refine Ext.drew ?_ | refine Ext.drewN ?_ _ | refine Ext.setCell ?_ (by first | omega | (simp; done) | (simp; omega)) _ | refine Ext.trans ?_ (by assumption))))))).mono ?_; rintro e W3 ⟨rfl, hE3⟩) | (go_at_call 70; refine (HK _ (HT2.out.ext (hE.trans (by exact (by repeat (first | exact Ext.refl _ | assumption | refine Ext.alloc ?_ _ | refine Ext.drew ?_ | refine Ext.drewN ?_ _ | refine Ext.setCell ?_ (by first | omega | (simp; done) | (simp; omega)) _ | refine Ext.trans ?_ (by assumption))))))).mono ?_; rintro e W4 ⟨rfl, hE4⟩))
          exact ar_next (x := ⟨⟨#[47]⟩, 2, ⟨#[]⟩⟩) hlt hall (by rw [H0.out]; rfl) (by decide) (hE.trans (by exact (by repeat (first | exact Ext.refl _ | assumption | refine Ext.alloc ?_ _ | refine Ext.drew ?_ | refine Ext.drewN ?_ _ | refine Ext.setCell ?_ (by first | omega | (simp; done) | (simp; omega)) _ | refine Ext.trans ?_ (by assumption)))))
      · have hkn' : k = n := by omega
        have hkl : k = ys.length := by have := Hn.out; omega
        have hful : ys.take k = ys := List.take_of_length_le (by omega)
        rw [hful, Hpe.out, hkl] at hks
        have HK := fun W h => RKind_any v2 T p W h hp
        have HD := fun W h => RData_any v2 T p W h
        have hr0 := Hr2.out
        have hroot : ys.length = 0 → p = ⟨#[47]⟩ := fun h => by
          have := Hpe.out
          rw [List.eq_nil_of_length_eq_zero h] at this
          exact this.symm
        clear hful
        have hfin : r = ((kindR T p).1, dataR T p, (kindR T p).2) := by
          rcases hks with ⟨e, hke, hle, hda⟩ | ⟨hke, hle, hda⟩ | ⟨h0, _⟩
          · rw [hr0, hke, hda, hle]
          · rw [hr0, hke, hda, hle]
          · have hda : dataR T ⟨#[47]⟩ = ⟨#[]⟩ := by
              rw [dataR, findT_not fun y hy e => ?_]
              exact (mem_deep Ht1.out hy).choose_spec.2.2 e
            rw [hroot h0, kindR_root, hda, hr0, h0]
            rfl
        have Hfin := Lib.hid hfin
        obtain ⟨K1, hK1⟩ : ∃ K1, (kindR T p).1 = K1 := ⟨_, rfl⟩
        obtain ⟨K2, hK2⟩ : ∃ K2, (kindR T p).2 = K2 := ⟨_, rfl⟩
        obtain ⟨D, hD⟩ : ∃ D, dataR T p = D := ⟨_, rfl⟩
        rw [hK1, hK2, hD] at Hfin
        rw [hK1, hK2] at HK
        rw [hD] at HD
        clear hks hr0 hroot hfin hK1 hK2 hD hkn' hkl
        go_wp2_with (first | (go_at_call 70; refine (HK _ (HT2.out.ext (hE.trans (by exact (by repeat (first | exact Ext.refl _ | assumption | refine Ext.alloc ?_ _ | refine Ext.drew ?_ | refine Ext.drewN ?_ _ | refine Ext.setCell ?_ (by first | omega | (simp; done) | (simp; omega)) _ | refine Ext.trans ?_ (by assumption))))))).mono ?_; rintro e W4 ⟨rfl, hE4⟩) | (go_at_call 72; refine (HD _ (HT2.out.ext (hE.trans (by exact (by repeat (first | exact Ext.refl _ | assumption | refine Ext.alloc ?_ _ | refine Ext.drew ?_ | refine Ext.drewN ?_ _ | refine Ext.setCell ?_ (by first | omega | (simp; done) | (simp; omega)) _ | refine Ext.trans ?_ (by assumption))))))).mono ?_; rintro e W5 ⟨rfl, hE5⟩))
        refine bodyPost_ret (v := .tuple #[.int .i64 K1, .string D, .int .i64 K2]) (by simp [results, Tryz.f30, go_sem]) rfl ?_
        rw [Hfin.out]
        exact ⟨rfl, HE2.out.trans (hE.trans (by exact (by repeat (first | exact Ext.refl _ | assumption | refine Ext.alloc ?_ _ | refine Ext.drew ?_ | refine Ext.drewN ?_ _ | refine Ext.setCell ?_ (by first | omega | (simp; done) | (simp; omega)) _ | refine Ext.trans ?_ (by assumption)))))⟩
end Go.Proofs.YtknfaabhlcdeoaaGreatDoor
