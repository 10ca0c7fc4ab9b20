/- tree.Rmdir. -/
import Derived.Test.YtgemdfobkockaaaGreatDoorTreeIn
import Derived.Test.YtgemdfobkockaaaGreatDoorFIs
namespace Go.Proofs.YtgemdfobkockaaaGreatDoor
open Go Go.RowKit Go.Shelf Go.Proofs

theorem fileT_five {t : List Ent} {p : ByteArray} (h : fileT t p = .error 5) : treeOk t = true := by
  rw [fileT] at h
  split at h
  · assumption
  · cases h

set_option maxHeartbeats 8000000 in
set_option maxRecDepth 20000 in
theorem Rmdir_any (v : Value) (t : List Ent) (p : ByteArray) (w : World) (hv : RdE w v t) (hp : p.size ≤ 140737488355328) :
    Calls Tryz.prog 48 #[v, .string p] w (TAns (rmdirT t p) w) := by
  have Hv := Lib.hid hv
  obtain ⟨A, c, rfl, _, _, _⟩ := rdE_form hv rfl
  clear hv
  rcases hm : fileT t p with cc | x
  · have HM := fun w => tFile_bad (v := .slice A t.length c) hp hm w
    by_cases h5 : cc = 5
    · subst h5
      have ht := fileT_five hm
      have HI := fun w h => In_any (.slice A t.length c) t p w h ht
      by_cases hi : inT t p = []
      · have hu : rmdirT t p = .ok (delT t p) := by
          rw [rmdirT, hm]
          show (if (5 : Int) = 5 then _ else _) = _
          rw [if_pos rfl, if_pos hi]
        rw [hu]
        show Calls _ _ _ _ (WithOk (delT t p) w)
        have HW := fun w h => Without_any (.slice A t.length c) t p w h (by have := tree_small ht; omega)
        have hlen : (inT t p).length = 0 := by rw [hi]; rfl
        have Hlen := Lib.hid hlen
        clear hm hu ht hi hlen
        go_enter Tryz.func48, Tryz.ntmps48
        go_wp2_with (first | (go_at_call 83; refine (HM _ Hv.out).mono ?_; rintro e W1 ⟨y1, v1, rfl, ⟨a1, rfl, hEr⟩, hE1⟩) | (go_at_call 95; refine (Is_any 1 _ 5 5 _ (hEr.ext (by exact (by repeat (first | exact Ext.refl _ | assumption | refine Ext.alloc ?_ _ | refine Ext.drew ?_ | refine Ext.drewN ?_ _ | refine Ext.setCell ?_ (by first | omega | (simp; done) | (simp; omega)) _ | refine Ext.trans ?_ (by assumption)))))).mono ?_; rintro e W2 ⟨rfl, rfl⟩) | (go_at_call 96; refine (HI _ (Hv.out.ext (by exact (by repeat (first | exact Ext.refl _ | assumption | refine Ext.alloc ?_ _ | refine Ext.drew ?_ | refine Ext.drewN ?_ _ | refine Ext.setCell ?_ (by first | omega | (simp; done) | (simp; omega)) _ | refine Ext.trans ?_ (by assumption)))))).mono ?_; rintro e W3 ⟨v3, rfl, hrow, hE3⟩; rw [Hlen.out] at hrow; obtain ⟨A3, c3, rfl⟩ := own_form hrow) | (go_at_call 88; refine (HW _ (Hv.out.ext (by exact (by repeat (first | exact Ext.refl _ | assumption | refine Ext.alloc ?_ _ | refine Ext.drew ?_ | refine Ext.drewN ?_ _ | refine Ext.setCell ?_ (by first | omega | (simp; done) | (simp; omega)) _ | refine Ext.trans ?_ (by assumption)))))).mono ?_; rintro e W4 ⟨v4, rfl, hrd, hE4⟩))
        go_ret2
        exact ⟨_, rfl, hrd, by exact (by repeat (first | exact Ext.refl _ | assumption | refine Ext.alloc ?_ _ | refine Ext.drew ?_ | refine Ext.drewN ?_ _ | refine Ext.setCell ?_ (by first | omega | (simp; done) | (simp; omega)) _ | refine Ext.trans ?_ (by assumption)))⟩
      · have hu : rmdirT t p = .error 7 := by
          rw [rmdirT, hm]
          show (if (5 : Int) = 5 then _ else _) = _
          rw [if_pos rfl, if_neg hi]
        rw [hu]
        show Calls _ _ _ _ (TBad 7 w)
        obtain ⟨m, hlen⟩ : ∃ m, (inT t p).length = m := ⟨_, rfl⟩
        have Hlen := Lib.hid hlen
        have hm0 : 0 < m := by rw [← hlen]; exact List.length_pos_iff.2 hi
        clear hm hu ht hi hlen
        go_enter Tryz.func48, Tryz.ntmps48
        go_wp2_with (first | (go_at_call 83; refine (HM _ Hv.out).mono ?_; rintro e W1 ⟨y1, v1, rfl, ⟨a1, rfl, hEr⟩, hE1⟩) | (go_at_call 95; refine (Is_any 1 _ 5 5 _ (hEr.ext (by exact (by repeat (first | exact Ext.refl _ | assumption | refine Ext.alloc ?_ _ | refine Ext.drew ?_ | refine Ext.drewN ?_ _ | refine Ext.setCell ?_ (by first | omega | (simp; done) | (simp; omega)) _ | refine Ext.trans ?_ (by assumption)))))).mono ?_; rintro e W2 ⟨rfl, rfl⟩) | (go_at_call 96; refine (HI _ (Hv.out.ext (by exact (by repeat (first | exact Ext.refl _ | assumption | refine Ext.alloc ?_ _ | refine Ext.drew ?_ | refine Ext.drewN ?_ _ | refine Ext.setCell ?_ (by first | omega | (simp; done) | (simp; omega)) _ | refine Ext.trans ?_ (by assumption)))))).mono ?_; rintro e W3 ⟨v3, rfl, hrow, hE3⟩; rw [Hlen.out] at hrow; obtain ⟨A3, c3, rfl⟩ := own_form hrow; clear hrow) | (go_at_call 60; refine (fail_At_c _ _ _ _).mono ?_; rintro e W4 ⟨⟨a5, rfl, hEr4⟩, hE4⟩))
        go_ret2
        exact ⟨_, 1, rfl, hEr4, by exact (by repeat (first | exact Ext.refl _ | assumption | refine Ext.alloc ?_ _ | refine Ext.drew ?_ | refine Ext.drewN ?_ _ | refine Ext.setCell ?_ (by first | omega | (simp; done) | (simp; omega)) _ | refine Ext.trans ?_ (by assumption)))⟩
    · have hu : rmdirT t p = .error cc := by
        rw [rmdirT, hm]
        show (if cc = 5 then _ else _) = _
        rw [if_neg h5]
      rw [hu]
      show Calls _ _ _ _ (TBad cc w)
      have h5' : (cc == 5) = false := by simpa using h5
      clear hm hu h5
      go_enter Tryz.func48, Tryz.ntmps48
      go_wp2_with (first | (go_at_call 83; refine (HM _ Hv.out).mono ?_; rintro e W1 ⟨y1, v1, rfl, ⟨a1, rfl, hEr⟩, hE1⟩) | (go_at_call 95; refine (Is_any 1 _ cc 5 _ (hEr.ext (by exact (by repeat (first | exact Ext.refl _ | assumption | refine Ext.alloc ?_ _ | refine Ext.drew ?_ | refine Ext.drewN ?_ _ | refine Ext.setCell ?_ (by first | omega | (simp; done) | (simp; omega)) _ | refine Ext.trans ?_ (by assumption)))))).mono ?_; rintro e W2 ⟨rfl, rfl⟩))
      go_ret2
      exact ⟨_, _, rfl, hEr.ext (by exact (by repeat (first | exact Ext.refl _ | assumption | refine Ext.alloc ?_ _ | refine Ext.drew ?_ | refine Ext.drewN ?_ _ | refine Ext.setCell ?_ (by first | omega | (simp; done) | (simp; omega)) _ | refine Ext.trans ?_ (by assumption)))), by exact (by repeat (first | exact Ext.refl _ | assumption | refine Ext.alloc ?_ _ | refine Ext.drew ?_ | refine Ext.drewN ?_ _ | refine Ext.setCell ?_ (by first | omega | (simp; done) | (simp; omega)) _ | refine Ext.trans ?_ (by assumption)))⟩
  · have hu : rmdirT t p = .error 6 := by rw [rmdirT, hm]
    rw [hu]
    show Calls _ _ _ _ (TBad 6 w)
    have HM := fun w => tFile_ok (v := .slice A t.length c) hp hm w
    clear hm hu
    go_enter Tryz.func48, Tryz.ntmps48
    go_wp2_with (first | (go_at_call 83; refine (HM _ Hv.out).mono ?_; rintro e W1 ⟨rfl, hE1⟩) | (go_at_call 60; refine (fail_At_c _ _ _ _).mono ?_; rintro e W4 ⟨⟨a5, rfl, hEr⟩, hE4⟩))
    go_ret2
    exact ⟨_, 1, rfl, hEr, by exact (by repeat (first | exact Ext.refl _ | assumption | refine Ext.alloc ?_ _ | refine Ext.drew ?_ | refine Ext.drewN ?_ _ | refine Ext.setCell ?_ (by first | omega | (simp; done) | (simp; omega)) _ | refine Ext.trans ?_ (by assumption)))⟩
end Go.Proofs.YtgemdfobkockaaaGreatDoor
