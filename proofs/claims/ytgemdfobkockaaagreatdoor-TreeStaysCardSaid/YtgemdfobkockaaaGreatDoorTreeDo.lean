/- tree.made, Create, Mkdir, Cut, Unlink. -/
import Derived.Test.YtgemdfobkockaaaGreatDoorTreeCut
namespace Go.Proofs.YtgemdfobkockaaaGreatDoor
section
open Go Go.RowKit Go.Shelf Go.Proofs

/-- What an operation on a tree answers. -/
def TBad (c : Int) (w : World) (e : Ending) (w' : World) : Prop := ∃ v n, e = .returned (.tuple #[.slice none 0 0, v]) ∧ ErrN w' n v c ∧ Ext w w'
def TAns (r : Except Int (List Ent)) (w : World) (e : Ending) (w' : World) : Prop := match r with
  | .ok l => WithOk l w e w'
  | .error c => TBad c w e w'

theorem ErrN.ext {w w' : World} {n : Nat} {v : Value} {c : Int} (h : ErrN w n v c) (he : Ext w w') : ErrN w' n v c := h.below he.below

theorem At_errN (op path : ByteArray) (n : Nat) (v : Value) (c : Int) (w : World) (h : ErrN w n v c) :
    Calls Tryz.prog 60 #[.string op, .string path, v] w fun e w' => (∃ a, e = .returned (.iface 163 (.pointer (some ⟨a, 0, none⟩))) ∧ ErrN w' (n + 1) (.iface 163 (.pointer (some ⟨a, 0, none⟩))) c) ∧ Ext w w' := by
  rcases ErrN_ne h with ⟨a', rfl⟩ | rfl
  · refine (fail_At_ptr op path _ w).mono ?_
    rintro e w' ⟨rfl, rfl⟩
    exact ⟨⟨_, rfl, _, _, rfl, by rw [World.cell?_alloc_at _ _ _ _ rfl]; rfl, h.ext ((Ext.refl w).alloc _)⟩, (Ext.refl w).alloc _⟩
  · refine (fail_At_int op path _ w).mono ?_
    rintro e w' ⟨rfl, rfl⟩
    exact ⟨⟨_, rfl, _, _, rfl, by rw [World.cell?_alloc_at _ _ _ _ rfl]; rfl, h.ext ((Ext.refl w).alloc _)⟩, (Ext.refl w).alloc _⟩

theorem errN_iface {w : World} {n : Nat} {v : Value} {c : Int} (h : ErrN w n v c) : ∃ T u, v = .iface T u := by
  rcases ErrN_ne h with ⟨a', rfl⟩ | rfl
  · exact ⟨_, _, rfl⟩
  · exact ⟨_, _, rfl⟩

theorem tree_small {t : List Ent} (h : treeOk t = true) : t.length ≤ 1024 := (treeOk_iff.1 h).1
theorem tree_rising {t : List Ent} (h : treeOk t = true) : Rising t := (treeOk_iff.1 h).2.1

set_option maxHeartbeats 8000000 in
set_option maxRecDepth 20000 in
theorem Made_any (v : Value) (t : List Ent) (p : ByteArray) (k : Nat) (w : World) (hv : RdE w v t) (hp : p.size ≤ 140737488355328) :
    Calls Tryz.prog 86 #[v, .string p, .int .i64 k] w (TAns (madeT t p k) w) := by
  have Hv := Lib.hid hv
  obtain ⟨A, c, rfl, hc1, hc2, _⟩ := rdE_form hv rfl
  clear hv
  rcases ht : treeOk t with _ | _
  · have hm : madeT t p k = .error 16 := by rw [madeT, if_neg (by simp [ht])]
    rw [hm]
    show Calls _ _ _ _ (TBad 16 w)
    have HT := fun w => Tree_no (v := .slice A t.length c) ht w
    clear ht hm
    go_enter Tryz.func86, Tryz.ntmps86
    go_wp2_with (first | (go_at_call 36; refine (HT _ Hv.out).mono ?_; rintro e W1 ⟨rfl, hE1⟩) | (go_at_call 60; refine (fail_At_c _ _ _ _).mono ?_; rintro e W3 ⟨⟨a5, rfl, hEr⟩, hE3⟩))
    go_ret2
    exact ⟨_, 1, rfl, hEr, hE1.trans hE3⟩
  · have HT := fun w => Tree_yes (v := .slice A t.length c) ht w
    have HP := fun w h => tPlace_any (.slice A t.length c) t p w h hp
    by_cases hpl : placeT t p = 0
    · have hm : madeT t p k = withT t ⟨p, k, ⟨#[]⟩⟩ := by rw [madeT, if_pos ht, if_pos hpl]
      have hPA : ∀ W, PlaceAns (placeT t p) W = PlaceOk W := fun W => by funext e w'; rw [hpl]; rfl
      have HP' : ∀ w, RdE w (.slice A t.length c) t → Calls Tryz.prog 87 #[.slice A t.length c, .string p] w (PlaceOk w) := fun w h => hPA w ▸ HP w h
      have HW := fun w h => With_any (.slice A t.length c) t ⟨p, k, ⟨#[]⟩⟩ w h (by have := tree_small ht; omega) (tree_rising ht) ⟨hp, Nat.zero_le _⟩
      rw [hm]
      rcases hw : withT t ⟨p, k, ⟨#[]⟩⟩ with cc | l
      · rw [hw] at HW
        show Calls _ _ _ _ (TBad cc w)
        have HW' : ∀ w, RdE w (.slice A t.length c) t → Calls Tryz.prog 85 #[.slice A t.length c, .agg #[.string p, .int .i64 k, .string ⟨#[]⟩]] w (WithBad cc w) := HW
        clear ht hm hw HW HP hPA hpl
        go_enter Tryz.func86, Tryz.ntmps86
        go_wp2_with (first | (go_at_call 36; refine (HT _ Hv.out).mono ?_; rintro e W1 ⟨rfl, hE1⟩) | (go_at_call 87; refine (HP' _ (Hv.out.ext hE1)).mono ?_; rintro e W2 ⟨rfl, hE2⟩) | (go_at_call 85; refine (HW' _ (Hv.out.ext (hE1.trans hE2))).mono ?_; rintro e W3 ⟨rfl, hE3⟩) | (go_at_call 60; refine (fail_At_c _ _ _ _).mono ?_; rintro e W4 ⟨⟨a5, rfl, hEr⟩, hE4⟩))
        go_ret2
        exact ⟨_, 1, rfl, hEr, ((hE1.trans hE2).trans hE3).trans hE4⟩
      · rw [hw] at HW
        show Calls _ _ _ _ (WithOk l w)
        have HW' : ∀ w, RdE w (.slice A t.length c) t → Calls Tryz.prog 85 #[.slice A t.length c, .agg #[.string p, .int .i64 k, .string ⟨#[]⟩]] w (WithOk l w) := HW
        clear ht hm hw HW HP hPA hpl
        go_enter Tryz.func86, Tryz.ntmps86
        go_wp2_with (first | (go_at_call 36; refine (HT _ Hv.out).mono ?_; rintro e W1 ⟨rfl, hE1⟩) | (go_at_call 87; refine (HP' _ (Hv.out.ext hE1)).mono ?_; rintro e W2 ⟨rfl, hE2⟩) | (go_at_call 85; refine (HW' _ (Hv.out.ext (hE1.trans hE2))).mono ?_; rintro e W3 ⟨v3, rfl, hrd, hE3⟩; have Hrd := Lib.hid hrd; obtain ⟨A3, c3, rfl, _, _, _⟩ := rdE_form hrd rfl; clear hrd) | (go_at_call 60; refine (fail_At_nil _ _ _).mono ?_; rintro e W4 ⟨rfl, rfl⟩))
        go_ret2
        exact ⟨_, rfl, Hrd.out, (hE1.trans hE2).trans hE3⟩
    · have hm : madeT t p k = .error (placeT t p) := by rw [madeT, if_pos ht, if_neg hpl]
      rw [hm]
      show Calls _ _ _ _ (TBad (placeT t p) w)
      have hPA : ∀ W, PlaceAns (placeT t p) W = PlaceBad (placeT t p) W := fun W => by funext e w'; exact if_neg hpl
      have HP' : ∀ w, RdE w (.slice A t.length c) t → Calls Tryz.prog 87 #[.slice A t.length c, .string p] w (PlaceBad (placeT t p) w) := fun w h => hPA w ▸ HP w h
      generalize placeT t p = cc at HP' ⊢
      clear ht hm HP hPA hpl
      go_enter Tryz.func86, Tryz.ntmps86
      go_wp2_with (first | (go_at_call 36; refine (HT _ Hv.out).mono ?_; rintro e W1 ⟨rfl, hE1⟩) | (go_at_call 87; refine (HP' _ (Hv.out.ext hE1)).mono ?_; rintro e W2 ⟨v2, n2, rfl, hEr2, hE2⟩; obtain ⟨T2, u2, rfl⟩ := errN_iface hEr2; have HA := fun op path => At_errN op path _ _ _ _ hEr2; clear hEr2) | (go_at_call 60; refine (HA _ _).mono ?_; rintro e W4 ⟨⟨a5, rfl, hEr⟩, hE4⟩))
      go_ret2
      exact ⟨_, _, rfl, hEr, (hE1.trans hE2).trans hE4⟩
end

section
open Go Go.RowKit Go.Shelf Go.Proofs

theorem tFile_ok {v : Value} {t : List Ent} {p : ByteArray} {x : Ent} (hp : p.size ≤ 140737488355328) (h : fileT t p = .ok x) (w : World) (hv : RdE w v t) : Calls Tryz.prog 83 #[v, .string p] w (FileOk x w) := by
  have := tFile_any v t p w hv hp
  rwa [h] at this
theorem tFile_bad {v : Value} {t : List Ent} {p : ByteArray} {c : Int} (hp : p.size ≤ 140737488355328) (h : fileT t p = .error c) (w : World) (hv : RdE w v t) : Calls Tryz.prog 83 #[v, .string p] w (FileBad c w) := by
  have := tFile_any v t p w hv hp
  rwa [h] at this

theorem Made_ok {v : Value} {t l : List Ent} {p : ByteArray} {k : Nat} (hp : p.size ≤ 140737488355328) (h : madeT t p k = .ok l) (w : World) (hv : RdE w v t) : Calls Tryz.prog 86 #[v, .string p, .int .i64 k] w (WithOk l w) := by
  have := Made_any v t p k w hv hp
  rwa [h] at this
theorem Made_bad {v : Value} {t : List Ent} {p : ByteArray} {c : Int} {k : Nat} (hp : p.size ≤ 140737488355328) (h : madeT t p k = .error c) (w : World) (hv : RdE w v t) : Calls Tryz.prog 86 #[v, .string p, .int .i64 k] w (TBad c w) := by
  have := Made_any v t p k w hv hp
  rwa [h] at this

set_option maxHeartbeats 4000000 in
set_option maxRecDepth 20000 in
theorem Create_any (v : Value) (t : List Ent) (p : ByteArray) (w : World) (hv : RdE w v t) (hp : p.size ≤ 140737488355328) :
    Calls Tryz.prog 40 #[v, .string p] w (TAns (madeT t p 1) w) := by
  have Hv := Lib.hid hv
  obtain ⟨A, c, rfl, _, _, _⟩ := rdE_form hv rfl
  clear hv
  rcases hm : madeT t p 1 with cc | l
  · show Calls _ _ _ _ (TBad cc w)
    have HM : ∀ w, RdE w (.slice A t.length c) t → Calls Tryz.prog 86 #[.slice A t.length c, .string p, .int .i64 1] w (TBad cc w) := fun w h => Made_bad (k := 1) hp hm w h
    clear hm
    go_enter Tryz.func40, Tryz.ntmps40
    go_wp2_with (go_at_call 86; refine (HM _ Hv.out).mono ?_; rintro e W1 ⟨v1, n1, rfl, hEr, hE1⟩)
    go_ret2
    exact ⟨_, _, rfl, hEr, hE1⟩
  · show Calls _ _ _ _ (WithOk l w)
    have HM : ∀ w, RdE w (.slice A t.length c) t → Calls Tryz.prog 86 #[.slice A t.length c, .string p, .int .i64 1] w (WithOk l w) := fun w h => Made_ok (k := 1) hp hm w h
    clear hm
    go_enter Tryz.func40, Tryz.ntmps40
    go_wp2_with (go_at_call 86; refine (HM _ Hv.out).mono ?_; rintro e W1 ⟨v1, rfl, hrd, hE1⟩)
    go_ret2
    exact ⟨_, rfl, hrd, hE1⟩

set_option maxHeartbeats 4000000 in
set_option maxRecDepth 20000 in
theorem Mkdir_any (v : Value) (t : List Ent) (p : ByteArray) (w : World) (hv : RdE w v t) (hp : p.size ≤ 140737488355328) :
    Calls Tryz.prog 47 #[v, .string p] w (TAns (madeT t p 2) w) := by
  have Hv := Lib.hid hv
  obtain ⟨A, c, rfl, _, _, _⟩ := rdE_form hv rfl
  clear hv
  rcases hm : madeT t p 2 with cc | l
  · show Calls _ _ _ _ (TBad cc w)
    have HM : ∀ w, RdE w (.slice A t.length c) t → Calls Tryz.prog 86 #[.slice A t.length c, .string p, .int .i64 2] w (TBad cc w) := fun w h => Made_bad (k := 2) hp hm w h
    clear hm
    go_enter Tryz.func47, Tryz.ntmps47
    go_wp2_with (go_at_call 86; refine (HM _ Hv.out).mono ?_; rintro e W1 ⟨v1, n1, rfl, hEr, hE1⟩)
    go_ret2
    exact ⟨_, _, rfl, hEr, hE1⟩
  · show Calls _ _ _ _ (WithOk l w)
    have HM : ∀ w, RdE w (.slice A t.length c) t → Calls Tryz.prog 86 #[.slice A t.length c, .string p, .int .i64 2] w (WithOk l w) := fun w h => Made_ok (k := 2) hp hm w h
    clear hm
    go_enter Tryz.func47, Tryz.ntmps47
    go_wp2_with (go_at_call 86; refine (HM _ Hv.out).mono ?_; rintro e W1 ⟨v1, rfl, hrd, hE1⟩)
    go_ret2
    exact ⟨_, rfl, hrd, hE1⟩

theorem OneErr.errN {w : World} {c : Int} {v : Value} (h : OneErr w c v) : ∃ a, v = .iface 163 (.pointer (some ⟨a, 0, none⟩)) ∧ ErrN w 1 v c := h

set_option maxHeartbeats 4000000 in
set_option maxRecDepth 20000 in
theorem Unlink_any (v : Value) (t : List Ent) (p : ByteArray) (w : World) (hv : RdE w v t) (hp : p.size ≤ 140737488355328) (hl : t.length ≤ 1000000) :
    Calls Tryz.prog 43 #[v, .string p] w (TAns (unlinkT t p) w) := by
  have Hv := Lib.hid hv
  obtain ⟨A, c, rfl, _, _, _⟩ := rdE_form hv rfl
  clear hv
  rcases hm : fileT t p with cc | x
  · have hu : unlinkT t p = .error cc := by rw [unlinkT, hm]
    rw [hu]
    show Calls _ _ _ _ (TBad cc w)
    have HM := fun w => tFile_bad (v := .slice A t.length c) hp hm w
    clear hm hu
    go_enter Tryz.func43, Tryz.ntmps43
    go_wp2_with (go_at_call 83; refine (HM _ Hv.out).mono ?_; rintro e W1 ⟨y1, v1, rfl, ⟨a1, rfl, hEr⟩, hE1⟩)
    go_ret2
    exact ⟨_, _, rfl, hEr.ext (by exact (by repeat (first | exact Ext.refl _ | assumption | refine Ext.alloc ?_ _ | refine Ext.drew ?_ | refine Ext.drewN ?_ _ | refine Ext.setCell ?_ (by first | omega | (simp; done) | (simp; omega)) _ | refine Ext.trans ?_ (by assumption)))), by exact (by repeat (first | exact Ext.refl _ | assumption | refine Ext.alloc ?_ _ | refine Ext.drew ?_ | refine Ext.drewN ?_ _ | refine Ext.setCell ?_ (by first | omega | (simp; done) | (simp; omega)) _ | refine Ext.trans ?_ (by assumption)))⟩
  · have hu : unlinkT t p = .ok (delT t p) := by rw [unlinkT, hm]
    rw [hu]
    show Calls _ _ _ _ (WithOk (delT t p) w)
    have HM := fun w => tFile_ok (v := .slice A t.length c) hp hm w
    have HW := fun w h => Without_any (.slice A t.length c) t p w h hl
    clear hm hu
    go_enter Tryz.func43, Tryz.ntmps43
    go_wp2_with (first | (go_at_call 83; refine (HM _ Hv.out).mono ?_; rintro e W1 ⟨rfl, hE1⟩) | (go_at_call 88; refine (HW _ (Hv.out.ext (by exact (by repeat (first | exact Ext.refl _ | assumption | refine Ext.alloc ?_ _ | refine Ext.drew ?_ | refine Ext.drewN ?_ _ | refine Ext.setCell ?_ (by first | omega | (simp; done) | (simp; omega)) _ | refine Ext.trans ?_ (by assumption)))))).mono ?_; rintro e W2 ⟨v2, rfl, hrd, hE2⟩))
    go_ret2
    exact ⟨_, rfl, hrd, Ext.trans (by exact (by repeat (first | exact Ext.refl _ | assumption | refine Ext.alloc ?_ _ | refine Ext.drew ?_ | refine Ext.drewN ?_ _ | refine Ext.setCell ?_ (by first | omega | (simp; done) | (simp; omega)) _ | refine Ext.trans ?_ (by assumption)))) hE2⟩

set_option maxHeartbeats 8000000 in
set_option maxRecDepth 20000 in
theorem Cut_any (v : Value) (t : List Ent) (p : ByteArray) (n : Int) (w : World) (hv : RdE w v t) (hp : p.size ≤ 140737488355328) :
    Calls Tryz.prog 38 #[v, .string p, .int .i64 n] w (TAns (cutT t p n) w) := by
  have Hv := Lib.hid hv
  obtain ⟨A, c, rfl, _, _, _⟩ := rdE_form hv rfl
  rcases hm : fileT t p with cc | x
  · have hu : cutT t p n = .error cc := by rw [cutT, hm]
    rw [hu]
    show Calls _ _ _ _ (TBad cc w)
    have HM := fun w => tFile_bad (v := .slice A t.length c) hp hm w
    clear hm hu hv
    go_enter Tryz.func38, Tryz.ntmps38
    go_wp2_with (go_at_call 83; refine (HM _ Hv.out).mono ?_; rintro e W1 ⟨y1, v1, rfl, ⟨a1, rfl, hEr⟩, hE1⟩)
    go_ret2
    exact ⟨_, _, rfl, hEr.ext (by exact (by repeat (first | exact Ext.refl _ | assumption | refine Ext.alloc ?_ _ | refine Ext.drew ?_ | refine Ext.drewN ?_ _ | refine Ext.setCell ?_ (by first | omega | (simp; done) | (simp; omega)) _ | refine Ext.trans ?_ (by assumption)))), by exact (by repeat (first | exact Ext.refl _ | assumption | refine Ext.alloc ?_ _ | refine Ext.drew ?_ | refine Ext.drewN ?_ _ | refine Ext.setCell ?_ (by first | omega | (simp; done) | (simp; omega)) _ | refine Ext.trans ?_ (by assumption)))⟩
  · have HM := fun w => tFile_ok (v := .slice A t.length c) hp hm w
    by_cases hn : n < 0 ∨ 256 < n
    · have hu : cutT t p n = .error 15 := by rw [cutT, hm]; exact if_pos hn
      rw [hu]
      show Calls _ _ _ _ (TBad 15 w)
      clear hm hu hv
      rcases hn with hn | hn
      all_goals
        go_enter Tryz.func38, Tryz.ntmps38
        go_wp2_with (first | (go_at_call 83; refine (HM _ Hv.out).mono ?_; rintro e W1 ⟨rfl, hE1⟩) | (go_at_call 60; refine (fail_At_c _ _ _ _).mono ?_; rintro e W4 ⟨⟨a5, rfl, hEr⟩, hE4⟩))
        go_ret2
        exact ⟨_, 1, rfl, hEr, Ext.trans (by exact (by repeat (first | exact Ext.refl _ | assumption | refine Ext.alloc ?_ _ | refine Ext.drew ?_ | refine Ext.drewN ?_ _ | refine Ext.setCell ?_ (by first | omega | (simp; done) | (simp; omega)) _ | refine Ext.trans ?_ (by assumption)))) hE4⟩
    · have hu : cutT t p n = withT t (setD x (filledT x.data n.toNat)) := by rw [cutT, hm]; exact if_neg hn
      obtain ⟨ht, hx, hpx, hk, _⟩ := fileT_ok hm
      obtain ⟨k, rfl⟩ : ∃ k : Nat, n = k := ⟨n.toNat, by omega⟩
      rw [Int.toNat_natCast] at hu
      have hws := withT_set ht hx hk (d := filledT x.data k) (by rw [filledT_size]; omega)
      rw [hu, hws.1]
      show Calls _ _ _ _ (WithOk _ w)
      have hent := (treeOk_iff.1 ht).2.2 x hx
      have HF := fun w => Filled_any x.data k w (by omega) (entOk_data hent.1 hk)
      have hxf := RdE.fits hv x hx
      have HW := fun w h => With_any (.slice A t.length c) t (setD x (filledT x.data k)) w h (by have := tree_small ht; omega) (tree_rising ht) ⟨hxf.1, by show (filledT x.data k).size ≤ _; rw [filledT_size]; omega⟩
      rw [hws.1] at HW
      have HW' : ∀ w, RdE w (.slice A t.length c) t → Calls Tryz.prog 85 #[.slice A t.length c, .agg #[.string x.path, .int .i64 x.kind, .string (filledT x.data k)]] w (WithOk (insT t (setD x (filledT x.data k))) w) := HW
      have hsz : (filledT x.data k).size ≤ 256 := by rw [filledT_size]; omega
      generalize filledT x.data k = fd at *
      have hk256 : (k : Int) ≤ 256 := by omega
      clear hm hu hv hn ht hx hpx hk hws hent hxf HW
      go_enter Tryz.func38, Tryz.ntmps38
      go_upto_region 7 with (first | (go_at_call 83; refine (HM _ Hv.out).mono ?_; rintro e W1 ⟨rfl, hE1⟩) | (go_at_call 84; refine (HF _).mono ?_; rintro e W2 ⟨rfl, hE2⟩; obtain ⟨⟨x0, f0⟩, ⟨x1, f1⟩, ⟨x2, f2⟩⟩ := ((Blk.new W1 32 #[.string x.path, .int .i64 x.kind, .string x.data]).ext hE2).three))
      have hB := ((Blk.new W1 32 #[.string x.path, .int .i64 x.kind, .string x.data]).ext hE2).set 2 (.string fd)
      have hE4 : Ext w (W2.setCell ⟨W1.heap.size, 2, none⟩ (.string fd)) := (Ext.trans (by exact (by repeat (first | exact Ext.refl _ | assumption | refine Ext.alloc ?_ _ | refine Ext.drew ?_ | refine Ext.drewN ?_ _ | refine Ext.setCell ?_ (by first | omega | (simp; done) | (simp; omega)) _ | refine Ext.trans ?_ (by assumption))) : Ext w _) hE2).setCell (p := ⟨W1.heap.size, 2, none⟩) hE1.size _
      clear x0 x1 x2 f0 f1 f2
      generalize W1.heap.size = xb at *
      generalize W2.setCell ⟨xb, 2, none⟩ (.string fd) = W4 at *
      obtain ⟨⟨x0, f0⟩, ⟨x1, f1⟩, ⟨x2, f2⟩⟩ := Blk.three (x := .string x.path) (y := .int .i64 x.kind) (z := .string fd) hB
      go_wp2_with (go_at_call 85; refine (HW' _ (Hv.out.ext hE4)).mono ?_; rintro e W3 ⟨v3, rfl, hrd, hE3⟩)
      go_ret2
      exact ⟨_, rfl, hrd, hE4.trans hE3⟩
end
end Go.Proofs.YtgemdfobkockaaaGreatDoor
