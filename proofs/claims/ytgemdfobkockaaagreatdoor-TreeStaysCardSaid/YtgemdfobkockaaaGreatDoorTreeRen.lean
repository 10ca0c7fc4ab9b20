/- tree.Rename and Write. -/
import Derived.Test.YtgemdfobkockaaaGreatDoorTreeDo
namespace Go.Proofs.YtgemdfobkockaaaGreatDoor
section
open Go Go.RowKit Go.Shelf Go.Proofs

def moveE (e : Ent) (b : ByteArray) : Ent := { e with path := b }
theorem rename_eq {t : List Ent} {a b : ByteArray} {e : Ent} (h : fileT t a = .ok e) (hp : placeT t b = 0) : renameT t a b = .ok (insT (delT t a) (moveE e b)) ∧ (insT (delT t a) (moveE e b)).length ≤ 1024 := by
  obtain ⟨ht, hx, hpx, _, _⟩ := fileT_ok h
  have h1 := delT_mem_len (tree_rising ht) hx
  rw [hpx] at h1
  have h2 : (insT (delT t a) (moveE e b)).length ≤ 1024 := by
    rw [insT_len]
    have := delT_len (delT t a) (moveE e b).path
    have := tree_small ht
    omega
  refine ⟨?_, h2⟩
  rw [renameT, h]
  show (if placeT t b = 0 then withT (delT t a) (moveE e b) else _) = _
  rw [if_pos hp, withT, if_pos h2]

theorem place_ok {v : Value} {t : List Ent} {p : ByteArray} (hp : p.size ≤ 140737488355328) (h : placeT t p = 0) (w : World) (hv : RdE w v t) : Calls Tryz.prog 87 #[v, .string p] w (PlaceOk w) := by
  have hPA : PlaceAns (placeT t p) w = PlaceOk w := by funext e w'; rw [h]; rfl
  exact hPA ▸ tPlace_any v t p w hv hp
theorem place_bad {v : Value} {t : List Ent} {p : ByteArray} {c : Int} (hp : p.size ≤ 140737488355328) (h : placeT t p = c) (hc : c ≠ 0) (w : World) (hv : RdE w v t) : Calls Tryz.prog 87 #[v, .string p] w (PlaceBad c w) := by
  have hPA : PlaceAns (placeT t p) w = PlaceBad c w := by funext e w'; rw [h]; exact if_neg hc
  exact hPA ▸ tPlace_any v t p w hv hp

set_option maxHeartbeats 8000000 in
set_option maxRecDepth 20000 in
theorem Rename_any (v : Value) (t : List Ent) (p q : ByteArray) (w : World) (hv : RdE w v t) (hp : p.size ≤ 140737488355328) (hq : q.size ≤ 140737488355328) :
    Calls Tryz.prog 42 #[v, .string p, .string q] w (TAns (renameT t p q) w) := by
  have Hv := Lib.hid hv
  obtain ⟨A, c, rfl, _, _, _⟩ := rdE_form hv rfl
  rcases hm : fileT t p with cc | x
  · have hu : renameT t p q = .error cc := by rw [renameT, hm]
    rw [hu]
    show Calls _ _ _ _ (TBad cc w)
    have HM := fun w => tFile_bad (v := .slice A t.length c) hp hm w
    clear hm hu hv
    go_enter Tryz.func42, Tryz.ntmps42
    go_wp2_with (go_at_call 83; refine (HM _ Hv.out).mono ?_; rintro e W1 ⟨y1, v1, rfl, ⟨a1, rfl, hEr⟩, hE1⟩)
    go_ret2
    exact ⟨_, _, rfl, hEr.ext (by exact (by repeat (first | exact Ext.refl _ | assumption | refine Ext.alloc ?_ _ | refine Ext.drew ?_ | refine Ext.drewN ?_ _ | refine Ext.setCell ?_ (by first | omega | (simp; done) | (simp; omega)) _ | refine Ext.trans ?_ (by assumption)))), by exact (by repeat (first | exact Ext.refl _ | assumption | refine Ext.alloc ?_ _ | refine Ext.drew ?_ | refine Ext.drewN ?_ _ | refine Ext.setCell ?_ (by first | omega | (simp; done) | (simp; omega)) _ | refine Ext.trans ?_ (by assumption)))⟩
  · have HM := fun w => tFile_ok (v := .slice A t.length c) hp hm w
    by_cases hpl : placeT t q = 0
    · obtain ⟨hu, hl⟩ := rename_eq hm hpl
      rw [hu]
      show Calls _ _ _ _ (WithOk _ w)
      obtain ⟨ht, hx, hpx, hk, _⟩ := fileT_ok hm
      have HP := fun w => place_ok (v := .slice A t.length c) hq hpl w
      have hxf := RdE.fits hv x hx
      have HO := fun w h => Without_any (.slice A t.length c) t p w h (by have := tree_small ht; omega)
      have HW : ∀ (u : Value) (w : World), RdE w u (delT t p) → Calls Tryz.prog 85 #[u, .agg #[.string q, .int .i64 x.kind, .string x.data]] w (WithOk (insT (delT t p) (moveE x q)) w) := fun u w h => by
        have := With_any u (delT t p) (moveE x q) w h (by have := tree_small ht; have := delT_len t p; omega) (rising_delT (tree_rising ht) p) ⟨hq, hxf.2⟩
        rw [withT, if_pos hl] at this
        exact this
      clear hm hu hv hl ht hx hpx hk hxf hpl
      go_enter Tryz.func42, Tryz.ntmps42
      go_upto_region 8 with (first | (go_at_call 83; refine (HM _ Hv.out).mono ?_; rintro e W1 ⟨rfl, hE1⟩) | (go_at_call 87; refine (HP _ (Hv.out.ext (by exact (by repeat (first | exact Ext.refl _ | assumption | refine Ext.alloc ?_ _ | refine Ext.drew ?_ | refine Ext.drewN ?_ _ | refine Ext.setCell ?_ (by first | omega | (simp; done) | (simp; omega)) _ | refine Ext.trans ?_ (by assumption)))))).mono ?_; rintro e W2 ⟨rfl, hE2⟩; obtain ⟨⟨x0, f0⟩, ⟨x1, f1⟩, ⟨x2, f2⟩⟩ := ((Blk.new W1 32 #[.string x.path, .int .i64 x.kind, .string x.data]).ext hE2).three))
      have hB := ((Blk.new W1 32 #[.string x.path, .int .i64 x.kind, .string x.data]).ext hE2).set 0 (.string q)
      have hE4 : Ext w (W2.setCell ⟨W1.heap.size, 0, none⟩ (.string q)) := (Ext.trans (by exact (by repeat (first | exact Ext.refl _ | assumption | refine Ext.alloc ?_ _ | refine Ext.drew ?_ | refine Ext.drewN ?_ _ | refine Ext.setCell ?_ (by first | omega | (simp; done) | (simp; omega)) _ | refine Ext.trans ?_ (by assumption))) : Ext w _) hE2).setCell (p := ⟨W1.heap.size, 0, none⟩) hE1.size _
      clear x0 x1 x2 f0 f1 f2
      generalize W1.heap.size = xb at *
      generalize W2.setCell ⟨xb, 0, none⟩ (.string q) = W4 at *
      obtain ⟨⟨x0, f0⟩, ⟨x1, f1⟩, ⟨x2, f2⟩⟩ := Blk.three (x := .string q) (y := .int .i64 x.kind) (z := .string x.data) hB
      go_region_held3 (fun w' => w'.cell? ⟨xb, 0, none⟩ = some (.string q) ∧ w'.cell? ⟨xb, 1, none⟩ = some (.int .i64 x.kind) ∧ w'.cell? ⟨xb, 2, none⟩ = some (.string x.data)) (first | go_keep | exact ⟨hE5.cell x0, hE5.cell x1, hE5.cell x2⟩ | exact ⟨(hE5.trans hE6).cell x0, (hE5.trans hE6).cell x1, (hE5.trans hE6).cell x2⟩)
        (first | (go_at_call 88; refine (HO _ (Hv.out.ext (by exact (by repeat (first | exact Ext.refl _ | assumption | refine Ext.alloc ?_ _ | refine Ext.drew ?_ | refine Ext.drewN ?_ _ | refine Ext.setCell ?_ (by first | omega | (simp; done) | (simp; omega)) _ | refine Ext.trans ?_ (by assumption)))))).mono ?_; rintro e W5 ⟨v5, rfl, hrd, hE5'⟩; have hE5 : Ext W4 W5 := Ext.trans (by exact (by repeat (first | exact Ext.refl _ | assumption | refine Ext.alloc ?_ _ | refine Ext.drew ?_ | refine Ext.drewN ?_ _ | refine Ext.setCell ?_ (by first | omega | (simp; done) | (simp; omega)) _ | refine Ext.trans ?_ (by assumption)))) hE5') | (go_at_call 85; refine (HW _ _ hrd).mono ?_; rintro e W6 ⟨v6, rfl, hrd6, hE6⟩))
      go_wp2
      go_ret2
      exact ⟨_, rfl, hrd6, (hE4.trans hE5).trans hE6⟩
    · have hu : renameT t p q = .error (placeT t q) := by rw [renameT, hm]; exact if_neg hpl
      rw [hu]
      show Calls _ _ _ _ (TBad (placeT t q) w)
      have HP := fun w => place_bad (v := .slice A t.length c) hq rfl hpl w
      generalize placeT t q = cc at HP ⊢
      clear hm hu hv hpl
      go_enter Tryz.func42, Tryz.ntmps42
      go_wp2_with (first | (go_at_call 83; refine (HM _ Hv.out).mono ?_; rintro e W1 ⟨rfl, hE1⟩) | (go_at_call 87; refine (HP _ (Hv.out.ext (by exact (by repeat (first | exact Ext.refl _ | assumption | refine Ext.alloc ?_ _ | refine Ext.drew ?_ | refine Ext.drewN ?_ _ | refine Ext.setCell ?_ (by first | omega | (simp; done) | (simp; omega)) _ | refine Ext.trans ?_ (by assumption)))))).mono ?_; rintro e W2 ⟨v2, n2, rfl, hEr2, hE2⟩; obtain ⟨T2, u2, rfl⟩ := errN_iface hEr2; have HA := fun op path => At_errN op path _ _ _ _ hEr2; clear hEr2) | (go_at_call 60; refine (HA _ _).mono ?_; rintro e W4 ⟨⟨a5, rfl, hEr⟩, hE4⟩))
      go_ret2
      exact ⟨_, _, rfl, hEr, (Ext.trans (by exact (by repeat (first | exact Ext.refl _ | assumption | refine Ext.alloc ?_ _ | refine Ext.drew ?_ | refine Ext.drewN ?_ _ | refine Ext.setCell ?_ (by first | omega | (simp; done) | (simp; omega)) _ | refine Ext.trans ?_ (by assumption))) : Ext w _) hE2).trans hE4⟩
end

section
open Go Go.RowKit Go.Shelf Go.Proofs

theorem written_eq (d s : ByteArray) (k m : Nat) (hm : m = min d.size (k + s.size)) : filledT d k ++ s ++ d.extract m d.size = writtenT d k s := by
  have hl : d.data.toList.length = d.size := Array.length_toList
  refine data_inj ?_
  rw [writtenT, toList_B]
  have h1 : (filledT d k ++ s ++ d.extract m d.size).data.toList = (filledT d k).data.toList ++ s.data.toList ++ (d.extract m d.size).data.toList := by simp
  rw [h1, Lib.extract_data]
  congr 1
  rw [List.take_of_length_le (by rw [List.length_drop]; omega)]
  rcases Nat.le_total d.size (k + s.size) with h | h
  · rw [List.drop_eq_nil_of_le (by omega), List.drop_eq_nil_of_le (by omega)]
  · rw [hm, Nat.min_eq_right h]
theorem written_size (d s : ByteArray) (k : Nat) : (writtenT d k s).size = k + s.size + (d.size - (k + s.size)) := by
  have hl : d.data.toList.length = d.size := Array.length_toList
  have hl2 : s.data.toList.length = s.size := Array.length_toList
  have hl3 : (filledT d k).data.toList.length = (filledT d k).size := Array.length_toList
  rw [writtenT, size_B]
  simp only [List.length_append, List.length_drop]
  rw [hl3, hl2, hl, filledT_size]

set_option maxHeartbeats 8000000 in
set_option maxRecDepth 20000 in
theorem Write_any (v : Value) (t : List Ent) (p : ByteArray) (n : Int) (s : ByteArray) (w : World) (hv : RdE w v t) (hp : p.size ≤ 140737488355328) :
    Calls Tryz.prog 41 #[v, .string p, .int .i64 n, .string s] w (TAns (writeT t p n s) w) := by
  have Hv := Lib.hid hv
  obtain ⟨A, c, rfl, _, _, _⟩ := rdE_form hv rfl
  rcases hm : fileT t p with cc | x
  · have hu : writeT t p n s = .error cc := by rw [writeT, hm]
    rw [hu]
    show Calls _ _ _ _ (TBad cc w)
    have HM := fun w => tFile_bad (v := .slice A t.length c) hp hm w
    clear hm hu hv
    go_enter Tryz.func41, Tryz.ntmps41
    go_wp2_with (go_at_call 83; refine (HM _ Hv.out).mono ?_; rintro e W1 ⟨y1, v1, rfl, ⟨a1, rfl, hEr⟩, hE1⟩)
    go_ret2
    exact ⟨_, _, rfl, hEr.ext (by exact (by repeat (first | exact Ext.refl _ | assumption | refine Ext.alloc ?_ _ | refine Ext.drew ?_ | refine Ext.drewN ?_ _ | refine Ext.setCell ?_ (by first | omega | (simp; done) | (simp; omega)) _ | refine Ext.trans ?_ (by assumption)))), by exact (by repeat (first | exact Ext.refl _ | assumption | refine Ext.alloc ?_ _ | refine Ext.drew ?_ | refine Ext.drewN ?_ _ | refine Ext.setCell ?_ (by first | omega | (simp; done) | (simp; omega)) _ | refine Ext.trans ?_ (by assumption)))⟩
  · have HM := fun w => tFile_ok (v := .slice A t.length c) hp hm w
    by_cases hn : n < 0 ∨ 256 < n ∨ 256 - n < (s.size : Int)
    · have hu : writeT t p n s = .error 15 := by rw [writeT, hm]; exact if_pos hn
      rw [hu]
      show Calls _ _ _ _ (TBad 15 w)
      clear hm hu hv
      by_cases h1 : n < 0
      · go_enter Tryz.func41, Tryz.ntmps41
        go_wp2_with (first | (go_at_call 83; refine (HM _ Hv.out).mono ?_; rintro e W1 ⟨rfl, hE1⟩) | (go_at_call 60; refine (fail_At_c _ _ _ _).mono ?_; rintro e W4 ⟨⟨a5, rfl, hEr⟩, hE4⟩))
        go_ret2
        exact ⟨_, 1, rfl, hEr, Ext.trans (by exact (by repeat (first | exact Ext.refl _ | assumption | refine Ext.alloc ?_ _ | refine Ext.drew ?_ | refine Ext.drewN ?_ _ | refine Ext.setCell ?_ (by first | omega | (simp; done) | (simp; omega)) _ | refine Ext.trans ?_ (by assumption)))) hE4⟩
      · by_cases h2 : 256 < n
        · go_enter Tryz.func41, Tryz.ntmps41
          go_wp2_with (first | (go_at_call 83; refine (HM _ Hv.out).mono ?_; rintro e W1 ⟨rfl, hE1⟩) | (go_at_call 60; refine (fail_At_c _ _ _ _).mono ?_; rintro e W4 ⟨⟨a5, rfl, hEr⟩, hE4⟩))
          go_ret2
          exact ⟨_, 1, rfl, hEr, Ext.trans (by exact (by repeat (first | exact Ext.refl _ | assumption | refine Ext.alloc ?_ _ | refine Ext.drew ?_ | refine Ext.drewN ?_ _ | refine Ext.setCell ?_ (by first | omega | (simp; done) | (simp; omega)) _ | refine Ext.trans ?_ (by assumption)))) hE4⟩
        · have h3 : 256 - n < (s.size : Int) := by omega
          have hsub : IntKind.i64.wrap (256 - n) = 256 - n := IntWalk.i64_in _ ⟨by omega, by omega⟩
          go_enter Tryz.func41, Tryz.ntmps41
          go_wp2_with (first | (go_at_call 83; refine (HM _ Hv.out).mono ?_; rintro e W1 ⟨rfl, hE1⟩) | (go_at_call 60; refine (fail_At_c _ _ _ _).mono ?_; rintro e W4 ⟨⟨a5, rfl, hEr⟩, hE4⟩))
          go_ret2
          exact ⟨_, 1, rfl, hEr, Ext.trans (by exact (by repeat (first | exact Ext.refl _ | assumption | refine Ext.alloc ?_ _ | refine Ext.drew ?_ | refine Ext.drewN ?_ _ | refine Ext.setCell ?_ (by first | omega | (simp; done) | (simp; omega)) _ | refine Ext.trans ?_ (by assumption)))) hE4⟩
    · obtain ⟨k, rfl⟩ : ∃ k : Nat, n = k := ⟨n.toNat, by omega⟩
      have hu : writeT t p k s = withT t (setD x (writtenT x.data k s)) := by rw [writeT, hm]; exact if_neg hn
      obtain ⟨ht, hx, hpx, hk, _⟩ := fileT_ok hm
      have hent := (treeOk_iff.1 ht).2.2 x hx
      have hd256 := entOk_data hent.1 hk
      have hks : k + s.size ≤ 256 := by omega
      have hws := withT_set ht hx hk (d := writtenT x.data k s) (by rw [written_size]; omega)
      rw [hu, hws.1]
      show Calls _ _ _ _ (WithOk _ w)
      have HF := fun w => Filled_any x.data k w (by omega) hd256
      have hxf := RdE.fits hv x hx
      have HW := fun w h => With_any (.slice A t.length c) t (setD x (writtenT x.data k s)) w h (by have := tree_small ht; omega) (tree_rising ht) ⟨hxf.1, by show (writtenT x.data k s).size ≤ _; rw [written_size]; omega⟩
      rw [hws.1] at HW
      have HW' : ∀ w, RdE w (.slice A t.length c) t → Calls Tryz.prog 85 #[.slice A t.length c, .agg #[.string x.path, .int .i64 x.kind, .string (writtenT x.data k s)]] w (WithOk (insT t (setD x (writtenT x.data k s))) w) := HW
      obtain ⟨m, hmm⟩ : ∃ m, m = min x.data.size (k + s.size) := ⟨_, rfl⟩
      have heq := written_eq x.data s k m hmm
      have hm1 : m ≤ x.data.size := by omega
      have hfs : (filledT x.data k).size = k := filledT_size x.data k
      have hadd : IntKind.i64.wrap ((k : Int) + (s.size : Int)) = (k : Int) + (s.size : Int) := IntWalk.i64_in _ ⟨by omega, by omega⟩
      have hsub : IntKind.i64.wrap (256 - (k : Int)) = 256 - (k : Int) := IntWalk.i64_in _ ⟨by omega, by omega⟩
      have hb1 : (0 : Int) ≤ min (x.data.size : Int) ((k : Int) + (s.size : Int)) := by omega
      have hb2 : min (x.data.size : Int) ((k : Int) + (s.size : Int)) ≤ (x.data.size : Int) := by omega
      have hbm : (min (x.data.size : Int) ((k : Int) + (s.size : Int))).toNat = m := by omega
      have hz1 : (filledT x.data k ++ s).size ≤ 256 := by rw [ByteArray.size_append, hfs]; exact hks
      have hz2 : (x.data.extract m x.data.size).size ≤ 256 := by rw [ByteArray.size_extract]; omega
      have hz0 : (filledT x.data k).size ≤ 256 := by omega
      have hzs : s.size ≤ 256 := by omega
      have hk0 : ¬ (k : Int) < 0 := by omega
      have hk1 : ¬ (256 : Int) < (k : Int) := by omega
      have hk2 : ¬ 256 - (k : Int) < (s.size : Int) := by omega
      have Heq := Lib.hid heq
      clear hm hu hv hn ht hx hpx hk hws hent hxf HW hmm heq hfs
      go_enter Tryz.func41, Tryz.ntmps41
      go_upto_region 8 with (first | (go_at_call 83; refine (HM _ Hv.out).mono ?_; rintro e W1 ⟨rfl, hE1⟩; obtain ⟨⟨y0, _⟩, ⟨y1, _⟩, ⟨y2, _⟩⟩ := (Blk.new W1 32 #[.string x.path, .int .i64 x.kind, .string x.data]).three) | (go_at_call 84; refine (HF _).mono ?_; rintro e W2 ⟨rfl, hE2⟩; obtain ⟨⟨x0, f0⟩, ⟨x1, f1⟩, ⟨x2, f2⟩⟩ := ((Blk.new W1 32 #[.string x.path, .int .i64 x.kind, .string x.data]).ext hE2).three))
      rw [Heq.out]
      generalize writtenT x.data k s = fd at *
      have hB := ((Blk.new W1 32 #[.string x.path, .int .i64 x.kind, .string x.data]).ext hE2).set 2 (.string fd)
      have hE4 : Ext w (W2.setCell ⟨W1.heap.size, 2, none⟩ (.string fd)) := (Ext.trans (by exact (by repeat (first | exact Ext.refl _ | assumption | refine Ext.alloc ?_ _ | refine Ext.drew ?_ | refine Ext.drewN ?_ _ | refine Ext.setCell ?_ (by first | omega | (simp; done) | (simp; omega)) _ | refine Ext.trans ?_ (by assumption))) : Ext w _) hE2).setCell (p := ⟨W1.heap.size, 2, none⟩) hE1.size _
      clear x0 x1 x2 f0 f1 f2 y0 y1 y2
      generalize W1.heap.size = xb at *
      generalize W2.setCell ⟨xb, 2, none⟩ (.string fd) = W4 at *
      obtain ⟨⟨x0, f0⟩, ⟨x1, f1⟩, ⟨x2, f2⟩⟩ := Blk.three (x := .string x.path) (y := .int .i64 x.kind) (z := .string fd) hB
      go_wp2_with (go_at_call 85; refine (HW' _ (Hv.out.ext hE4)).mono ?_; rintro e W3 ⟨v3, rfl, hrd, hE3⟩)
      go_ret2
      exact ⟨_, rfl, hrd, hE4.trans hE3⟩
end
end Go.Proofs.YtgemdfobkockaaaGreatDoor
