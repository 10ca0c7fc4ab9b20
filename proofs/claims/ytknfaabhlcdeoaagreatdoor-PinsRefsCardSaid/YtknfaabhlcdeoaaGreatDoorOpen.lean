/- pins.Table's Open. -/
import Derived.Test.YtknfaabhlcdeoaaGreatDoorPins
import Derived.Test.YtknfaabhlcdeoaaGreatDoorClone
import Derived.Deep.RegionHeld3
namespace Go.Proofs.YtknfaabhlcdeoaaGreatDoor
open Go Go.RowKit Go.Shelf Go.Proofs Go.Maps

theorem step_put {H : Type} {P : Program} {w : World} {ops : Array Oper} {o : Oper} {a : Act} {K : Act → World → Prop} {Q : Exit → Act → World → Prop} {E : Prop} (hgd : o.guard = none) (m x v : Operand) (t : TypeId) (hop : o.op = Op.mapUpdate t m x v)
    (k e : TypeId) (KK : Keyed P k) (ht : P.underlying t = some (.map k e)) (R : Value → Option (DataW H × List MemPlace)) (b n : Nat) (D : DataW H)
    (hm : a.eval m = .map (some b)) (hown : w.ownsMap P k R b n D) (hn : n < maxLen) (key val : Value) (kl : Lit) (hx : a.eval x = key) (hv : a.eval v = val) (hkey : keyOf P k key = some kl)
    (d : DataW H) (ps : List MemPlace) (hval : R val = some (d, ps))
    (hK : ∀ w', w'.ownsMap P k R b (n + 1) (D.put kl d) → w.mapTurned w' b → K (a.put o.dst undef) w') :
    if Region.wanted o (yielded ops a.tmps) = true then Oper.wp P o a w K Q else E := by
  have hw : Region.wanted o (yielded ops a.tmps) = true := by simp [Region.wanted, hgd]
  rw [if_pos hw]
  obtain ⟨w', hrun, r1, r2⟩ := hown.store KK ht hn hkey hval
  unfold Oper.wp
  simp [execOp, hop, hm, hx, hv, hrun, Result.andThen]
  exact hK w' r1 r2

theorem own_but {H : Type} {P : Program} {k : TypeId} {R : Value → Option (DataW H × List MemPlace)} {w w' : World} {b n : Nat} {D : DataW H} {S : Nat → Prop} (h : w.ownsMap P k R b n D) (hb : But S w w') (hs : ¬ S b) : w'.ownsMap P k R b n D := by
  have hlt := h.lt
  obtain ⟨es, clock, hh, r⟩ := h
  exact ⟨es, clock, (hb.block b hlt hs).trans hh, r⟩

theorem tabH_put (l : LH) (k : Int) (d : ByteArray) (r : Value) (h : ∀ x ∈ l, x.1 < k) : (TabH l).put (.int .i64 k) (.held (.agg #[.string d, r])) = TabH (l ++ [(k, d, r)]) := by
  rw [TabH, tab_put, TabH, List.map_append]
  · rfl
  · intro x hx
    obtain ⟨y, hy, rfl⟩ := List.mem_map.1 hx
    exact h y hy

/-- What Open answers. -/
def OpenBad (c : Int) (w : World) (e : Ending) (w' : World) : Prop := ∃ a, e = .returned (.tuple #[.int .i64 0, .iface 181 (.pointer (some ⟨a, 0, none⟩))]) ∧ ErrN w' 1 (.iface 181 (.pointer (some ⟨a, 0, none⟩))) c ∧ Ext w w'
def OpenOk (tb bm n : Nat) (last : Int) (l : LH) (d : ByteArray) (xs : List Ref) (w : World) (e : Ending) (w' : World) : Prop :=
  ∃ A c, e = .returned (.tuple #[.int .i64 (last + 1), .nilIface]) ∧ PT w' tb bm (n + 1) (last + 1) (l ++ [(last + 1, d, .slice A xs.length c)]) ∧ RdR w' (.slice A xs.length c) xs ∧ (∀ S : Nat → Prop, (∀ k, S k → k < w.heap.size) → Off S (.slice A xs.length c)) ∧ (A = none → c = 0) ∧ Off (fun k => w'.heap.size ≤ k) (.slice A xs.length c) ∧ But (Two tb bm) w w'

set_option maxHeartbeats 4000000 in
theorem open_bad (tb : Nat) (v r : Value) (s : List (List Ent)) (p : ByteArray) (c : Int) (w : World) (hv : RdK w v s) (hp : p.size ≤ 140737488355328) (hs : lookE s p = .error c) :
    Calls Tryz.prog 24 #[.pointer (some ⟨tb, 0, none⟩), v, r, .string p] w (OpenBad c w) := by
  have HA := LAt_any v s p w hv hp
  rw [hs] at HA
  clear hv hs
  go_enter Tryz.func24, Tryz.ntmps24
  go_wp2_with (go_at_call 64; refine HA.mono ?_; rintro e W1 ⟨u, rfl, hEr, hE1⟩; obtain ⟨a5, rfl⟩ := ErrN_one hEr)
  go_ret2
  exact ⟨_, rfl, hEr.below ((Ext.refl W1).alloc _).below, (by repeat (first | exact Ext.refl _ | assumption | refine Ext.alloc ?_ _ | refine Ext.drew ?_ | refine Ext.drewN ?_ _ | refine Ext.setCell ?_ (by first | omega | (simp; done) | (simp; omega)) _ | refine Ext.trans ?_ (by assumption)))⟩

set_option maxHeartbeats 4000000 in
theorem open_dir (tb : Nat) (v r : Value) (s : List (List Ent)) (p : ByteArray) (x : Ent × Nat) (w : World) (hv : RdK w v s) (hp : p.size ≤ 140737488355328) (hs : lookE s p = .ok x) (hk : x.1.kind = 2) :
    Calls Tryz.prog 24 #[.pointer (some ⟨tb, 0, none⟩), v, r, .string p] w (OpenBad 5 w) := by
  have HA := LAt_any v s p w hv hp
  rw [hs] at HA
  clear hv hs
  go_enter Tryz.func24, Tryz.ntmps24
  go_wp2_with (first | (go_at_call 64; refine HA.mono ?_; rintro e W1 ⟨rfl, hE1⟩) | (go_at_call 63; refine (fail_At_c _ _ _ _).mono ?_; rintro e W3 ⟨⟨a5, rfl, hEr⟩, hE3⟩))
  go_ret2
  exact ⟨_, rfl, hEr, Ext.trans (by exact (by repeat (first | exact Ext.refl _ | assumption | refine Ext.alloc ?_ _ | refine Ext.drew ?_ | refine Ext.drewN ?_ _ | refine Ext.setCell ?_ (by first | omega | (simp; done) | (simp; omega)) _ | refine Ext.trans ?_ (by assumption)))) hE3⟩

set_option maxHeartbeats 8000000 in
set_option maxRecDepth 20000 in
theorem open_yes (tb bm n : Nat) (last : Int) (l : LH) (v r : Value) (s : List (List Ent)) (p : ByteArray) (x : Ent × Nat) (xs : List Ref) (w : World) (hv : RdK w v s) (hp : p.size ≤ 140737488355328) (hs : lookE s p = .ok x) (hk : x.1.kind ≠ 2)
    (ht : PT w tb bm n last l) (hr : RdR w r xs) (hro : Off (Two tb bm) r) (hxs : xs.length ≤ 5000000000000) (hlast : 0 ≤ last) (hlast' : last ≤ 4611686018427387904) (hn : n < 4611686018427387904) (hl : ∀ y ∈ l, y.1 < last + 1) :
    Calls Tryz.prog 24 #[.pointer (some ⟨tb, 0, none⟩), v, r, .string p] w (OpenOk tb bm n last l x.1.data xs w) := by
  have HA := LAt_any v s p w hv hp
  rw [hs] at HA
  obtain ⟨x, fl⟩ := x
  have HA : Calls Tryz.prog 64 #[v, .string p] w (AtOk (x, fl) w) := HA
  have Ht := Lib.hid ht
  have Hr := Lib.hid hr
  have Hro := Lib.hid hro
  have Hl := Lib.hid hl
  have hk2 : (x.kind == 2) = false := by simpa using hk
  clear hv hs ht hr hro hl
  go_enter Tryz.func24, Tryz.ntmps24
  go_upto_region 4 with (go_at_call 64; refine HA.mono ?_; rintro e W1 ⟨rfl, hE1⟩)
  have hX := Blk.new W1 111 #[.string x.path, .int .i64 x.kind, .string x.data, .int .i64 fl]
  have hE2 := hE1.alloc (.cells #[.string x.path, .int .i64 x.kind, .string x.data, .int .i64 fl] 111)
  have ht2 := Ht.out.ext hE2
  have hxb : W1.heap.size ≠ bm := by have := (Ht.out.ext hE1).own.lt; omega
  have hxt : W1.heap.size ≠ tb := by have := (Ht.out.ext hE1).box.lt; omega
  obtain ⟨xb, hx⟩ : ∃ xb, W1.heap.size = xb := ⟨_, rfl⟩
  rw [hx] at hX hxb hxt ⊢
  clear hx
  generalize W1.alloc (.cells #[.string x.path, .int .i64 x.kind, .string x.data, .int .i64 fl] 111) = W2 at hX hE2 ht2 ⊢
  obtain ⟨⟨t0, f0⟩, ⟨t1, f1⟩⟩ := ht2.box.two
  obtain ⟨⟨x0, _⟩, ⟨x1, _⟩, ⟨x2, _⟩, ⟨x3, _⟩⟩ := hX.four
  have hadd : IntKind.i64.wrap (last + 1) = last + 1 := IntWalk.i64_in _ ⟨by omega, by omega⟩
  go_upto_region 9 with (fail)
  have hB3 : But (Two tb bm) W2 (W2.setCell ⟨tb, 1, none⟩ (.int .i64 (last + 1))) := (But.refl (Two tb bm) W2).setCell (p := ⟨tb, 1, none⟩) (.inl rfl) _
  have hB3' : But (fun k => k = tb) W2 (W2.setCell ⟨tb, 1, none⟩ (.int .i64 (last + 1))) := (But.refl (fun k => k = tb) W2).setCell (p := ⟨tb, 1, none⟩) rfl _
  have hbox3 : Blk (W2.setCell ⟨tb, 1, none⟩ (.int .i64 (last + 1))) tb 108 #[.map (some bm), .int .i64 (last + 1)] := ht2.box.set 1 _
  have hown3 : (W2.setCell ⟨tb, 1, none⟩ (.int .i64 (last + 1))).ownsMap Tryz.prog 3 RH bm n (TabH l) := ht2.own.setCell (Ne.symm ht2.ne) _
  have hX3 := hX.but hB3' hxt
  have hne := ht2.ne
  clear t0 t1 x0 x1 x2 x3 f0 f1
  generalize W2.setCell ⟨tb, 1, none⟩ (.int .i64 (last + 1)) = W3 at hB3 hbox3 hown3 hX3 ⊢
  have HC := fun w' h => Clone_any r xs w' h hxs
  have t0 := hbox3.cell 0 rfl
  have t1 := hbox3.cell 1 rfl
  have x2 := hX3.cell 2 rfl
  have hr3 : RdR W3 r xs := Rd.but (fun _ _ _ _ h => h) (Rd.but (fun _ _ _ _ h => h) Hr.out (But.of_ext hE2) Hro.out) hB3 Hro.out
  have Hr3 := Lib.hid hr3
  clear hr3
  have hwf : (Lit.int .i64 (last + 1)).wf = true := WalkArith.wf_i64 ⟨by omega, by omega⟩
  go_cut [49] (fun _ wx => ∃ A c, PT wx tb bm (n + 1) (last + 1) (l ++ [(last + 1, x.data, .slice A xs.length c)]) ∧ RdR wx (.slice A xs.length c) xs ∧ (∀ S : Nat → Prop, (∀ k, S k → k < w.heap.size) → Off S (.slice A xs.length c)) ∧ (A = none → c = 0) ∧ Off (fun k => wx.heap.size ≤ k) (.slice A xs.length c) ∧ But (Two tb bm) W3 wx)
  case first =>
    go_region_held3 (fun w' => w'.cell? ⟨tb, 0, none⟩ = some (.map (some bm)) ∧ w'.cell? ⟨tb, 1, none⟩ = some (.int .i64 (last + 1)) ∧ w'.cell? ⟨xb, 2, none⟩ = some (.string x.data))
      (first | go_keep | exact ⟨hE7.cell t0, hE7.cell t1, hE7.cell x2⟩ | exact ⟨hb9.cell 0 rfl, hb9.cell 1 rfl, hX9.cell 2 rfl⟩)
      (first
        | (go_at_call 65; refine (HC _ (Rd.but (S := fun _ => False) (fun _ _ _ _ h => h) Hr3.out (But.of_ext (by exact (by repeat (first | exact Ext.refl _ | assumption | refine Ext.alloc ?_ _ | refine Ext.drew ?_ | refine Ext.drewN ?_ _ | refine Ext.setCell ?_ (by first | omega | (simp; done) | (simp; omega)) _ | refine Ext.trans ?_ (by assumption))))) (fun _ _ _ _ _ h => h))).mono ?_; rintro e W7 ⟨A7, c7, rfl, hRd7, hE7', hnil7, hnew7, hOff7⟩; have hE7 : Ext W3 W7 := Ext.trans (by exact (by repeat (first | exact Ext.refl _ | assumption | refine Ext.alloc ?_ _ | refine Ext.drew ?_ | refine Ext.drewN ?_ _ | refine Ext.setCell ?_ (by first | omega | (simp; done) | (simp; omega)) _ | refine Ext.trans ?_ (by assumption)))) hE7'; have hown7 := own_but (S := fun _ => False) hown3 (But.of_ext hE7) (fun h => h); obtain ⟨W9, hrun9, hown9, hturn9⟩ := hown7.store (e := 116) (t := 106) law_int Tryz.underlying106 (by unfold maxLen; omega) (key := .int .i64 (last + 1)) (val := .agg #[.string x.data, .slice A7 xs.length c7]) (keyOf_int_mk Tryz.underlying3 hwf) (d := .held (.agg #[.string x.data, .slice A7 xs.length c7])) (ps := []) rfl; have hg9 : But (fun k => k = bm) W7 W9 := (But.refl _ W7).grown hturn9.grown (by intro k hk; cases hk; exact .inl rfl); have hb9 := (hbox3.ext hE7).but hg9 hne; have hX9 := (hX3.ext hE7).but hg9 hxb))
    go_wp2
    go_meet
    refine ⟨A7, c7, ⟨hb9, ?_, hne⟩, Rd.but (fun _ _ _ _ h => h) hRd7 hg9 (fun b o n' c' e hb => hOff7 (fun k => k = bm) (fun k hk => by rw [hk]; exact Nat.lt_of_lt_of_le hown3.lt (by simp)) b o n' c' e hb), fun S hS => hOff7 S (fun k hk => Nat.lt_of_lt_of_le (hS k hk) (Nat.le_trans (Nat.le_trans hE2.size hB3.size) (by simp))), hnil7, fun b o n' c' e hb => hnew7 b o n' c' e (Nat.le_trans hg9.size hb), ((But.of_ext hE7).trans (hg9.mono fun k _ hk => .inr hk))⟩
    · rw [← tabH_put _ _ _ _ Hl.out]
      exact hown9
  case rest =>
    obtain ⟨A, c, hPT, hRd, hOff, hnil, hnew, hB⟩ := hcut
    have t1' := hPT.box.cell 1 rfl
    have HPT := Lib.hid hPT
    clear t0 t1 x2 hPT
    go_wp2
    go_ret2
    exact ⟨A, c, rfl, HPT.out, hRd, hOff, hnil, hnew, ((But.of_ext hE2).trans hB3).trans hB⟩
end Go.Proofs.YtknfaabhlcdeoaaGreatDoor
