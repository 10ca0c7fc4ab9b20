/- tree.Rename. -/
import Derived.Test.YtgemdfobkockaaaGreatDoorTreeDo
namespace Go.Proofs.YtgemdfobkockaaaGreatDoor
open Go Go.RowKit Go.Shelf Go.Proofs

def moveE (e : Ent) (b : ByteArray) : Ent := { e with path := b }
theorem rename_eq {t : List Ent} {a b : ByteArray} {e : Ent} (h : fileT t a = .ok e) (hp : placeT t b = 0) : renameT t a b = .ok (insT (delT t a) (moveE e b)) ∧ (insT (delT t a) (moveE e b)).length ≤ 1024 := by
  obtain ⟨ht, hx, hpx, _, _⟩ := fileT_ok h
  have h1 := delT_mem_len (tree_rising ht) hx
  rw [hpx] at h1
  have h2 : (insT (delT t a) (moveE e b)).length ≤ 1024 := by
    rw [insT_len]
    have := delT_len (delT t a) (moveE e b).path
    have := tree_small ht
    omega
  refine ⟨?_, h2⟩
  rw [renameT, h]
  show (if placeT t b = 0 then withT (delT t a) (moveE e b) else _) = _
  rw [if_pos hp, withT, if_pos h2]

theorem place_ok {v : Value} {t : List Ent} {p : ByteArray} (hp : p.size ≤ 140737488355328) (h : placeT t p = 0) (w : World) (hv : RdE w v t) : Calls Tryz.prog 87 #[v, .string p] w (PlaceOk w) := by
  have hPA : PlaceAns (placeT t p) w = PlaceOk w := by funext e w'; rw [h]; rfl
  exact hPA ▸ tPlace_any v t p w hv hp
theorem place_bad {v : Value} {t : List Ent} {p : ByteArray} {c : Int} (hp : p.size ≤ 140737488355328) (h : placeT t p = c) (hc : c ≠ 0) (w : World) (hv : RdE w v t) : Calls Tryz.prog 87 #[v, .string p] w (PlaceBad c w) := by
  have hPA : PlaceAns (placeT t p) w = PlaceBad c w := by funext e w'; rw [h]; exact if_neg hc
  exact hPA ▸ tPlace_any v t p w hv hp

set_option maxHeartbeats 8000000 in
set_option maxRecDepth 20000 in
theorem Rename_any (v : Value) (t : List Ent) (p q : ByteArray) (w : World) (hv : RdE w v t) (hp : p.size ≤ 140737488355328) (hq : q.size ≤ 140737488355328) :
    Calls Tryz.prog 42 #[v, .string p, .string q] w (TAns (renameT t p q) w) := by
  have Hv := Lib.hid hv
  obtain ⟨A, c, rfl, _, _, _⟩ := rdE_form hv rfl
  rcases hm : fileT t p with cc | x
  · have hu : renameT t p q = .error cc := by rw [renameT, hm]
    rw [hu]
    show Calls _ _ _ _ (TBad cc w)
    have HM := fun w => tFile_bad (v := .slice A t.length c) hp hm w
    clear hm hu hv
    go_enter Tryz.func42, Tryz.ntmps42
    go_wp2_with (go_at_call 83; refine (HM _ Hv.out).mono ?_; rintro e W1 ⟨y1, v1, rfl, ⟨a1, rfl, hEr⟩, hE1⟩)
    go_ret2
    exact ⟨_, _, rfl, hEr.ext (by exact (by repeat (first | exact Ext.refl _ | assumption | refine Ext.alloc ?_ _ | refine Ext.drew ?_ | refine Ext.drewN ?_ _ | refine Ext.setCell ?_ (by first | omega | (simp; done) | (simp; omega)) _ | refine Ext.trans ?_ (by assumption)))), by exact (by repeat (first | exact Ext.refl _ | assumption | refine Ext.alloc ?_ _ | refine Ext.drew ?_ | refine Ext.drewN ?_ _ | refine Ext.setCell ?_ (by first | omega | (simp; done) | (simp; omega)) _ | refine Ext.trans ?_ (by assumption)))⟩
  · have HM := fun w => tFile_ok (v := .slice A t.length c) hp hm w
    by_cases hpl : placeT t q = 0
    · obtain ⟨hu, hl⟩ := rename_eq hm hpl
      rw [hu]
      show Calls _ _ _ _ (WithOk _ w)
      obtain ⟨ht, hx, hpx, hk, _⟩ := fileT_ok hm
      have HP := fun w => place_ok (v := .slice A t.length c) hq hpl w
      have hxf := RdE.fits hv x hx
      have HO := fun w h => Without_any (.slice A t.length c) t p w h (by have := tree_small ht; omega)
      have HW : ∀ (u : Value) (w : World), RdE w u (delT t p) → Calls Tryz.prog 85 #[u, .agg #[.string q, .int .i64 x.kind, .string x.data]] w (WithOk (insT (delT t p) (moveE x q)) w) := fun u w h => by
        have := With_any u (delT t p) (moveE x q) w h (by have := tree_small ht; have := delT_len t p; omega) (rising_delT (tree_rising ht) p) ⟨hq, hxf.2⟩
        rw [withT, if_pos hl] at this
        exact this
      clear hm hu hv hl ht hx hpx hk hxf hpl
      go_enter Tryz.func42, Tryz.ntmps42
      go_upto_region 8 with (first | (go_at_call 83; refine (HM _ Hv.out).mono ?_; rintro e W1 ⟨rfl, hE1⟩) | (go_at_call 87; refine (HP _ (Hv.out.ext (by exact (by repeat (first | exact Ext.refl _ | assumption | refine Ext.alloc ?_ _ | refine Ext.drew ?_ | refine Ext.drewN ?_ _ | refine Ext.setCell ?_ (by first | omega | (simp; done) | (simp; omega)) _ | refine Ext.trans ?_ (by assumption)))))).mono ?_; rintro e W2 ⟨rfl, hE2⟩; obtain ⟨⟨x0, f0⟩, ⟨x1, f1⟩, ⟨x2, f2⟩⟩ := ((Blk.new W1 32 #[.string x.path, .int .i64 x.kind, .string x.data]).ext hE2).three))
      have hB := ((Blk.new W1 32 #[.string x.path, .int .i64 x.kind, .string x.data]).ext hE2).set 0 (.string q)
      have hE4 : Ext w (W2.setCell ⟨W1.heap.size, 0, none⟩ (.string q)) := (Ext.trans (by exact (by repeat (first | exact Ext.refl _ | assumption | refine Ext.alloc ?_ _ | refine Ext.drew ?_ | refine Ext.drewN ?_ _ | refine Ext.setCell ?_ (by first | omega | (simp; done) | (simp; omega)) _ | refine Ext.trans ?_ (by assumption))) : Ext w _) hE2).setCell (p := ⟨W1.heap.size, 0, none⟩) hE1.size _
      clear x0 x1 x2 f0 f1 f2
      generalize W1.heap.size = xb at *
      generalize W2.setCell ⟨xb, 0, none⟩ (.string q) = W4 at *
      obtain ⟨⟨x0, f0⟩, ⟨x1, f1⟩, ⟨x2, f2⟩⟩ := Blk.three (x := .string q) (y := .int .i64 x.kind) (z := .string x.data) hB
      go_region_held3 (fun w' => w'.cell? ⟨xb, 0, none⟩ = some (.string q) ∧ w'.cell? ⟨xb, 1, none⟩ = some (.int .i64 x.kind) ∧ w'.cell? ⟨xb, 2, none⟩ = some (.string x.data)) (first | go_keep | exact ⟨hE5.cell x0, hE5.cell x1, hE5.cell x2⟩ | exact ⟨(hE5.trans hE6).cell x0, (hE5.trans hE6).cell x1, (hE5.trans hE6).cell x2⟩)
        (first | (go_at_call 88; refine (HO _ (Hv.out.ext (by exact (by repeat (first | exact Ext.refl _ | assumption | refine Ext.alloc ?_ _ | refine Ext.drew ?_ | refine Ext.drewN ?_ _ | refine Ext.setCell ?_ (by first | omega | (simp; done) | (simp; omega)) _ | refine Ext.trans ?_ (by assumption)))))).mono ?_; rintro e W5 ⟨v5, rfl, hrd, hE5'⟩; have hE5 : Ext W4 W5 := Ext.trans (by exact (by repeat (first | exact Ext.refl _ | assumption | refine Ext.alloc ?_ _ | refine Ext.drew ?_ | refine Ext.drewN ?_ _ | refine Ext.setCell ?_ (by first | omega | (simp; done) | (simp; omega)) _ | refine Ext.trans ?_ (by assumption)))) hE5') | (go_at_call 85; refine (HW _ _ hrd).mono ?_; rintro e W6 ⟨v6, rfl, hrd6, hE6⟩))
      go_wp2
      go_ret2
      exact ⟨_, rfl, hrd6, (hE4.trans hE5).trans hE6⟩
    · have hu : renameT t p q = .error (placeT t q) := by rw [renameT, hm]; exact if_neg hpl
      rw [hu]
      show Calls _ _ _ _ (TBad (placeT t q) w)
      have HP := fun w => place_bad (v := .slice A t.length c) hq rfl hpl w
      generalize placeT t q = cc at HP ⊢
      clear hm hu hv hpl
      go_enter Tryz.func42, Tryz.ntmps42
      go_wp2_with (first | (go_at_call 83; refine (HM _ Hv.out).mono ?_; rintro e W1 ⟨rfl, hE1⟩) | (go_at_call 87; refine (HP _ (Hv.out.ext (by exact (by repeat (first | exact Ext.refl _ | assumption | refine Ext.alloc ?_ _ | refine Ext.drew ?_ | refine Ext.drewN ?_ _ | refine Ext.setCell ?_ (by first | omega | (simp; done) | (simp; omega)) _ | refine Ext.trans ?_ (by assumption)))))).mono ?_; rintro e W2 ⟨v2, n2, rfl, hEr2, hE2⟩; obtain ⟨T2, u2, rfl⟩ := errN_iface hEr2; have HA := fun op path => At_errN op path _ _ _ _ hEr2; clear hEr2) | (go_at_call 60; refine (HA _ _).mono ?_; rintro e W4 ⟨⟨a5, rfl, hEr⟩, hE4⟩))
      go_ret2
      exact ⟨_, _, rfl, hEr, (Ext.trans (by exact (by repeat (first | exact Ext.refl _ | assumption | refine Ext.alloc ?_ _ | refine Ext.drew ?_ | refine Ext.drewN ?_ _ | refine Ext.setCell ?_ (by first | omega | (simp; done) | (simp; omega)) _ | refine Ext.trans ?_ (by assumption))) : Ext w _) hE2).trans hE4⟩
end Go.Proofs.YtgemdfobkockaaaGreatDoor
