/- tree.filled, with, without, Cut, Unlink. -/
import Derived.Test.YtgemdfobkockaaaGreatDoorTreeFile
import Derived.Test.YtgemdfobkockaaaGreatDoorRepZ
import Derived.Maps.AppendAt
import Derived.Deep.AppendLies
namespace Go.Proofs.YtgemdfobkockaaaGreatDoor
open Go Go.RowKit Go.Shelf Go.Proofs

theorem filled_eq (s : ByteArray) (n m r : Nat) (hm : m = min s.size n) (hr : r = n - s.size) : s.extract 0 m ++ B (zeros r) = filledT s n := by
  have hl : s.data.toList.length = s.size := Array.length_toList
  refine data_inj ?_
  rw [filledT, toList_B]
  have h1 : (s.extract 0 m ++ B (zeros r)).data.toList = (s.extract 0 m).data.toList ++ (B (zeros r)).data.toList := by simp
  rw [h1, toList_B, Lib.extract_data]
  simp only [List.drop_zero, Nat.sub_zero]
  rw [zeros, hr]
  congr 1
  rw [hm]
  rcases Nat.le_total s.size n with h | h
  · rw [Nat.min_eq_left h, List.take_of_length_le (by omega), List.take_of_length_le (by omega)]
  · rw [Nat.min_eq_right h]

set_option maxHeartbeats 2000000 in
theorem Filled_any (s : ByteArray) (n : Nat) (w : World) (hn : n ≤ 256) (hs : s.size ≤ 256) :
    Calls Tryz.prog 84 #[.string s, .int .i64 n] w fun e w' => e = .returned (.string (filledT s n)) ∧ Ext w w' := by
  obtain ⟨m, hm⟩ : ∃ m, m = min s.size n := ⟨_, rfl⟩
  obtain ⟨r, hr⟩ : ∃ r, r = n - s.size := ⟨_, rfl⟩
  have heq := filled_eq s n m r hm hr
  rw [← heq]
  have hm1 : m ≤ s.size := by omega
  have hr1 : r ≤ 8192 := by omega
  have hb1 : (0 : Int) ≤ min (s.size : Int) (n : Int) := by omega
  have hb2 : min (s.size : Int) (n : Int) ≤ (s.size : Int) := by omega
  have hbm : (min (s.size : Int) (n : Int)).toNat = m := by omega
  have hmr : max ((n : Int) - (s.size : Int)) 0 = (r : Int) := by omega
  have hsub : IntKind.i64.wrap ((n : Int) - (s.size : Int)) = (n : Int) - (s.size : Int) := IntWalk.i64_in _ ⟨by omega, by omega⟩
  have hz1 : (s.extract 0 m).size ≤ 256 := by rw [ByteArray.size_extract]; omega
  have hz2 : (B (zeros r)).size ≤ 8192 := by rw [size_B, zeros_len]; exact hr1
  have HR := fun w => RepZ_any r w hr1
  clear hm hr heq
  go_enter Tryz.func84, Tryz.ntmps84
  go_wp2
  (refine wp_region_quiet_below (by kernel_rfl) (by kernel_rfl) ?_; (repeat (go_big_quiet_step ((go_at_call 128; exact Calls.regrown_of (HR _))))); refine wpQuiet_nil ?_; intro _ hq; obtain ⟨⟨dq, osq⟩, hq2⟩ := hq; subst hq2)
  go_wp2
  go_ret
  exact ⟨rfl, below_regrown w dq osq⟩

/-! ### with, without -/

theorem perm_rising {ys zs : List Ent} (hp : ys.Perm zs) (hs : ys.Pairwise fun a b => lt b.path a.path = false) (hz : zs.Pairwise fun a b => a.path ≠ b.path) : Rising ys := by
  have hy : ys.Pairwise fun a b => a.path ≠ b.path := (hp.pairwise_iff (fun {a b} h e => h e.symm)).2 hz
  refine (hs.and hy).imp fun {a b} ⟨h1, h2⟩ => ?_
  rcases h3 : lt a.path b.path with _ | _
  · exact absurd (lt_total h3 h1) h2
  · rfl

theorem sorted_ins {t ys : List Ent} {e : Ent} (hr : Rising t) (hp : ys.Perm (delT t e.path ++ [e])) (hs : ys.Pairwise fun a b => lt b.path a.path = false) : ys = insT t e := by
  have hz : (delT t e.path ++ [e]).Pairwise fun a b => a.path ≠ b.path := by
    rw [List.pairwise_append]
    refine ⟨(rising_delT hr e.path).imp fun h => lt_ne h, by simp, fun a ha b hb => ?_⟩
    rw [List.mem_singleton] at hb
    subst hb
    exact (mem_delT.1 ha).2
  refine rising_ext (perm_rising hp hs hz) (rising_insT hr e) fun x => ?_
  rw [hp.mem_iff, List.mem_append, List.mem_singleton, mem_delT, mem_insT]
  exact or_comm

theorem with1_any (cb : Nat) (y x : Ent) (W : World) (hq : Blk W cb 32 #[.string y.path, .int .i64 y.kind, .string y.data]) :
    Calls Tryz.prog 131 #[.agg #[.string x.path, .int .i64 x.kind, .string x.data], .pointer (some ⟨cb, 0, none⟩)] W fun e w' => e = .returned (.bool (decide (x.path = y.path))) ∧ Ext W w' := by
  have hq0 := hq.three.1.1
  have hq2 := Lib.cell?_alloc_some (.cells #[.string x.path, .int .i64 x.kind, .string x.data] 32) hq0
  clear hq
  go_enter Tryz.func131, Tryz.ntmps131
  go_wp2
  go_ret
  exact ⟨congrArg (fun b => Ending.returned (.bool b)) (beq_path x.path y.path), (by repeat (first | exact Ext.refl _ | assumption | refine Ext.alloc ?_ _ | refine Ext.drew ?_ | refine Ext.drewN ?_ _ | refine Ext.setCell ?_ (by first | omega | (simp; done) | (simp; omega)) _ | refine Ext.trans ?_ (by assumption)))⟩
theorem asks_with (cb : Nat) (y : Ent) : Asks 131 cb (fun x => decide (x.path = y.path)) (fun W => Blk W cb 32 #[.string y.path, .int .i64 y.kind, .string y.data]) where
  enter := enters_of Tryz.func131 (by kernel_rfl) rfl
  call := fun x W hq => with1_any cb y x W hq
  ext := fun W W' h he => h.ext he

theorem without1_any (cb : Nat) (p : ByteArray) (x : Ent) (W : World) (hq : W.cell? ⟨cb, 0, none⟩ = some (.string p)) :
    Calls Tryz.prog 133 #[.agg #[.string x.path, .int .i64 x.kind, .string x.data], .pointer (some ⟨cb, 0, none⟩)] W fun e w' => e = .returned (.bool (decide (x.path = p))) ∧ Ext W w' := by
  have hq2 := Lib.cell?_alloc_some (.cells #[.string x.path, .int .i64 x.kind, .string x.data] 32) hq
  go_enter Tryz.func133, Tryz.ntmps133
  go_wp2
  go_ret
  exact ⟨congrArg (fun b => Ending.returned (.bool b)) (beq_path x.path p), (by repeat (first | exact Ext.refl _ | assumption | refine Ext.alloc ?_ _ | refine Ext.drew ?_ | refine Ext.drewN ?_ _ | refine Ext.setCell ?_ (by first | omega | (simp; done) | (simp; omega)) _ | refine Ext.trans ?_ (by assumption)))⟩
theorem asks_without (cb : Nat) (p : ByteArray) : Asks 133 cb (fun x => decide (x.path = p)) (fun W => W.cell? ⟨cb, 0, none⟩ = some (.string p)) where
  enter := enters_of Tryz.func133 (by kernel_rfl) rfl
  call := fun x W hq => without1_any cb p x W hq
  ext := fun W W' h he => he.cell h

set_option maxHeartbeats 1000000 in
theorem with2_any : CmpPaths 132 := fun x y W => by
  have H := fun w => Tryz.strings_Compare x.path y.path w
  show Calls Tryz.prog 132 #[.agg #[.string x.path, .int .i64 x.kind, .string x.data], .agg #[.string y.path, .int .i64 y.kind, .string y.data]] W _
  go_enter Tryz.func132, Tryz.ntmps132
  go_wp2_with (go_at_call 94; refine (H _).mono ?_; rintro e w' ⟨rfl, rfl⟩)
  go_ret
  exact ⟨rfl, 0, _, by rw [Sort.alloc_eq_grow, Sort.alloc_eq_grow, Sort.grow_grow]; rfl⟩

def WithoutAns (t : List Ent) (p : ByteArray) (w : World) (e : Ending) (w' : World) : Prop := ∃ v, e = .returned v ∧ RdE w' v (delT t p) ∧ Ext w w'

set_option maxHeartbeats 4000000 in
theorem Without_any (v : Value) (t : List Ent) (p : ByteArray) (w : World) (hv : RdE w v t) (hl : t.length ≤ 1000000) :
    Calls Tryz.prog 88 #[v, .string p] w (WithoutAns t p w) := by
  have HC := fun W h => CloneE_any v t W h (by omega)
  have hfit := RdE.fits hv
  have Hv := Lib.hid hv
  have Hfit := Lib.hid hfit
  obtain ⟨A, c, rfl, _, _, _⟩ := rdE_form hv rfl
  clear hv hfit
  go_enter Tryz.func88, Tryz.ntmps88
  go_wp2_with (go_at_call 130; refine (HC _ (Hv.out.ext (by exact (by repeat (first | exact Ext.refl _ | assumption | refine Ext.alloc ?_ _ | refine Ext.drew ?_ | refine Ext.drewN ?_ _ | refine Ext.setCell ?_ (by first | omega | (simp; done) | (simp; omega)) _ | refine Ext.trans ?_ (by assumption)))))).mono ?_; rintro e W1 ⟨v1, rfl, hrow1, hE1⟩)
  have hE0 : Ext w W1 := Ext.trans (by exact (by repeat (first | exact Ext.refl _ | assumption | refine Ext.alloc ?_ _ | refine Ext.drew ?_ | refine Ext.drewN ?_ _ | refine Ext.setCell ?_ (by first | omega | (simp; done) | (simp; omega)) _ | refine Ext.trans ?_ (by assumption)))) hE1
  have hq : W1.cell? ⟨w.heap.size, 0, none⟩ = some (.string p) := ((Blk.new w 9 #[.string p]).ext hE1).one.1
  have hD := DelE_any (asks_without w.heap.size p) (w.alloc (.cells #[.string p] 9)).heap.size (fun W gb j u hgb h => by
    rw [World.size_alloc] at hgb
    exact (World.cell?_setCell_other _ _ _ _ (fun e => by cases e; omega)).trans h) v1 t w W1 hE0 (by simp) hrow1 hl Hfit.out hq
  obtain ⟨A1, c1, rfl⟩ := own_form hrow1
  refine hD.mono ?_
  rintro e W2 ⟨v2, rfl, hrow2, hE2, _⟩
  obtain ⟨A2, c2, rfl⟩ := own_form hrow2
  have hrd : RdE W2 (.slice A2 (delT t p).length c2) (delT t p) := RdE.of_own hrow2 (Nat.le_trans (delT_len t p) (by omega)) (fun x hx => Hfit.out x (mem_delT.1 hx).1)
  have Hrd := Lib.hid hrd
  clear hrow2 hrd hD hq hrow1
  go_wp2
  go_ret
  exact ⟨_, rfl, Hrd.out, hE2⟩

/-! ### with -/

def WithOk (l : List Ent) (w : World) (e : Ending) (w' : World) : Prop := ∃ v, e = .returned (.tuple #[v, .nilIface]) ∧ RdE w' v l ∧ Ext w w'
def WithBad (c : Int) (w : World) (e : Ending) (w' : World) : Prop := e = .returned (.tuple #[.slice none 0 0, .iface 100 (.int .i64 c)]) ∧ Ext w w'
def WithAns (r : Except Int (List Ent)) (w : World) (e : Ending) (w' : World) : Prop := match r with
  | .ok l => WithOk l w e w'
  | .error c => WithBad c w e w'

theorem eg_with2 : ∀ args w, (callFunc 132 args).run Tryz.prog w = .ok (.enter 132 args) w := enters_of Tryz.func132 (by kernel_rfl) rfl

theorem insT_fits {t : List Ent} {e : Ent} (ht : ∀ x ∈ t, x.fits) (he : e.fits) : ∀ x ∈ insT t e, x.fits := by
  intro x hx
  rcases mem_insT.1 hx with rfl | ⟨h, _⟩
  · exact he
  · exact ht x h

theorem flatE_snoc (l : List Ent) (e : Ent) : flatE (l ++ [e]) = flatE l ++ [.string e.path, .int .i64 e.kind, .string e.data] := by
  rw [flatE, List.flatMap_append]
  rfl

instance inhEntT : Inhabited Ent := ⟨⟨⟨#[]⟩, 0, ⟨#[]⟩⟩⟩

set_option maxHeartbeats 8000000 in
set_option maxRecDepth 20000 in
theorem With_any (v : Value) (t : List Ent) (x : Ent) (w : World) (hv : RdE w v t) (hl : t.length ≤ 900000) (hr : Rising t) (hx : x.fits) :
    Calls Tryz.prog 85 #[v, .agg #[.string x.path, .int .i64 x.kind, .string x.data]] w (WithAns (withT t x) w) := by
  have HC := fun W h => CloneE_any v t W h (by omega)
  have hfit := RdE.fits hv
  have Hv := Lib.hid hv
  have Hfit := Lib.hid hfit
  have Hr := Lib.hid hr
  have Hx := Lib.hid hx
  obtain ⟨i0, hi, hz0, hz1, hz2⟩ := info_parts info_ent
  obtain ⟨A, c, rfl, _, _, _⟩ := rdE_form hv rfl
  obtain ⟨m, hm⟩ : ∃ m, (delT t x.path).length = m := ⟨_, rfl⟩
  have hmt : m ≤ t.length := by rw [← hm]; exact delT_len t x.path
  have hil : (insT t x).length = m + 1 := by rw [insT_len, hm]
  have Hm := Lib.hid hm
  have Hil := Lib.hid hil
  have hw : withT t x = if m + 1 ≤ 1024 then .ok (insT t x) else .error 9 := by rw [withT, hil]
  obtain ⟨R, hR⟩ : ∃ R, withT t x = R := ⟨_, rfl⟩
  rw [hR] at hw ⊢
  have Hw := Lib.hid hw
  obtain ⟨K, hK⟩ : ∃ K, WithAns R w = K := ⟨_, rfl⟩
  rw [hK]
  have HK := Lib.hid hK
  clear hv hfit hr hx hm hil hw hR hK
  go_enter Tryz.func85, Tryz.ntmps85
  go_wp2_with (go_at_call 130; refine (HC _ (Hv.out.ext (by exact (by repeat (first | exact Ext.refl _ | assumption | refine Ext.alloc ?_ _ | refine Ext.drew ?_ | refine Ext.drewN ?_ _ | refine Ext.setCell ?_ (by first | omega | (simp; done) | (simp; omega)) _ | refine Ext.trans ?_ (by assumption)))))).mono ?_; rintro e W1 ⟨v1, rfl, hrow1, hE1⟩)
  have hE0 : Ext w W1 := Ext.trans (by exact (by repeat (first | exact Ext.refl _ | assumption | refine Ext.alloc ?_ _ | refine Ext.drew ?_ | refine Ext.drewN ?_ _ | refine Ext.setCell ?_ (by first | omega | (simp; done) | (simp; omega)) _ | refine Ext.trans ?_ (by assumption)))) hE1
  have hBx : Blk W1 w.heap.size 32 #[.string x.path, .int .i64 x.kind, .string x.data] := (Blk.new w 32 #[.string x.path, .int .i64 x.kind, .string x.data]).ext hE1
  have hD := DelE_any (asks_with w.heap.size x) (w.alloc (.cells #[.string x.path, .int .i64 x.kind, .string x.data] 32)).heap.size (fun W gb j u hgb h => by
    rw [World.size_alloc] at hgb
    exact (Below.heap_setCell _ _ _ _ (fun e => absurd (show gb = w.heap.size from by first | exact e | exact e.symm) (by omega))).trans h) v1 t w W1 hE0 (by simp) hrow1 (by omega) Hfit.out hBx
  obtain ⟨A1, c1, rfl⟩ := own_form hrow1
  refine hD.mono ?_
  rintro e W2 ⟨v2, rfl, hrow2, hE2, hB2⟩
  obtain ⟨⟨b0, _⟩, ⟨b1, _⟩, ⟨b2, _⟩⟩ := hB2.three
  have hrow2' : W2.ownsRow (w.heap.size + 1) 32 3 v2 m (flatE (delT t x.path)) := by
    rw [World.size_alloc] at hrow2
    rw [← Hm.out]; exact hrow2
  have Hrow2 := Lib.hid hrow2'
  obtain ⟨A2, c2, rfl⟩ := own_form hrow2'
  have hsz2 : w.heap.size + 1 ≤ W2.heap.size := hB2.lt
  clear hrow2 hrow2' hD hrow1 hBx HC hB2
  go_wp2_with (at_builtin; refine wpList_append_own _ rfl _ _ 40 rfl (w.heap.size + 1) 32 i0 (.agg #[.string ⟨#[]⟩, .int .i64 0, .string ⟨#[]⟩]) 3 40 Tryz.underlying40 hi hz0 hz1 hz2 rfl (by decide) _ _ _ rfl (Hrow2.out.alloc _) ⟨W2.heap.size, 0, none⟩ 1 1 [.string x.path, .int .i64 x.kind, .string x.data] rfl rfl (World.news_of_block (cs := #[.string x.path, .int .i64 x.kind, .string x.data]) (t := 32) (fr := (0, 0)) (Blk.new W2 _ _)) (by simp [Value.oneCell']) (by unfold maxLen; omega) (by omega) (by rw [World.size_alloc]; omega) ?_; intro v3 w1 hown hgrow hnil')
  have hown' : w1.ownsRow (w.heap.size + 1) 32 3 v3 (delT t x.path ++ [x]).length (flatE (delT t x.path ++ [x])) := by
    rw [flatE_snoc, List.length_append, List.length_singleton, Hm.out]
    exact hown
  have hE3 : Ext w w1 := Ext.grown (hE2.alloc _) hgrow (fun j hj => Nat.le_of_succ_le (Hrow2.out.lt j hj).1)
  have HS := sortE_any 132 with2_any eg_with2 (w.heap.size + 1) v3 _ w1 hown' (by rw [List.length_append, List.length_singleton, Hm.out]; omega)
  have hlen3 : (delT t x.path ++ [x]).length = m + 1 := by rw [List.length_append, List.length_singleton, Hm.out]
  rw [hlen3] at hown'
  have Hown := Lib.hid hown'
  obtain ⟨A3, c3, rfl⟩ := own_form hown'
  have Hlen3 := Lib.hid hlen3
  clear hown hown' hgrow hnil' hlen3
  refine HS.mono ?_
  rintro e W4 ⟨rfl, ys, hperm, hsort, hrow4, hgr4⟩
  rw [Hlen3.out] at hrow4
  have hys : ys = insT t x := sorted_ins Hr.out hperm hsort
  subst hys
  have hE4 : Ext w W4 := Ext.grown hE3 (hgr4 _ rfl) (fun j hj => Nat.le_of_succ_le (Hown.out.lt j hj).1)
  have hrd : m + 1 ≤ 1024 → RdE W4 (.slice A3 (m + 1) c3) (insT t x) := fun _ => RdE.of_own (by rw [Hil.out]; exact hrow4) (by rw [Hil.out]; omega) (insT_fits Hfit.out Hx.out)
  have Hrd := Lib.hid hrd
  clear hperm hsort hrow4 hgr4 hrd HS
  by_cases hm4 : m + 1 ≤ 1024
  · go_wp2
    rw [← HK.out, show R = .ok (insT t x) by rw [Hw.out, if_pos hm4]]
    exact ⟨_, rfl, Hrd.out hm4, hE4⟩
  · go_wp2
    rw [← HK.out, show R = .error 9 by rw [Hw.out, if_neg hm4]]
    exact ⟨rfl, hE4⟩
end Go.Proofs.YtgemdfobkockaaaGreatDoor
