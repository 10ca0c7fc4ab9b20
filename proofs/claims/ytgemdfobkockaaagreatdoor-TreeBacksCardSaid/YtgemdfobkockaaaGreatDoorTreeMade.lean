/- tree.made, Create, Mkdir, Cut, Unlink. -/
import Derived.Test.YtgemdfobkockaaaGreatDoorTreeCut
namespace Go.Proofs.YtgemdfobkockaaaGreatDoor
open Go Go.RowKit Go.Shelf Go.Proofs

/-- What an operation on a tree answers. -/
def TBad (c : Int) (w : World) (e : Ending) (w' : World) : Prop := ∃ v n, e = .returned (.tuple #[.slice none 0 0, v]) ∧ ErrN w' n v c ∧ Ext w w'
def TAns (r : Except Int (List Ent)) (w : World) (e : Ending) (w' : World) : Prop := match r with
  | .ok l => WithOk l w e w'
  | .error c => TBad c w e w'

theorem ErrN.ext {w w' : World} {n : Nat} {v : Value} {c : Int} (h : ErrN w n v c) (he : Ext w w') : ErrN w' n v c := h.below he.below

theorem At_errN (op path : ByteArray) (n : Nat) (v : Value) (c : Int) (w : World) (h : ErrN w n v c) :
    Calls Tryz.prog 60 #[.string op, .string path, v] w fun e w' => (∃ a, e = .returned (.iface 163 (.pointer (some ⟨a, 0, none⟩))) ∧ ErrN w' (n + 1) (.iface 163 (.pointer (some ⟨a, 0, none⟩))) c) ∧ Ext w w' := by
  rcases ErrN_ne h with ⟨a', rfl⟩ | rfl
  · refine (fail_At_ptr op path _ w).mono ?_
    rintro e w' ⟨rfl, rfl⟩
    exact ⟨⟨_, rfl, _, _, rfl, by rw [World.cell?_alloc_at _ _ _ _ rfl]; rfl, h.ext ((Ext.refl w).alloc _)⟩, (Ext.refl w).alloc _⟩
  · refine (fail_At_int op path _ w).mono ?_
    rintro e w' ⟨rfl, rfl⟩
    exact ⟨⟨_, rfl, _, _, rfl, by rw [World.cell?_alloc_at _ _ _ _ rfl]; rfl, h.ext ((Ext.refl w).alloc _)⟩, (Ext.refl w).alloc _⟩

theorem errN_iface {w : World} {n : Nat} {v : Value} {c : Int} (h : ErrN w n v c) : ∃ T u, v = .iface T u := by
  rcases ErrN_ne h with ⟨a', rfl⟩ | rfl
  · exact ⟨_, _, rfl⟩
  · exact ⟨_, _, rfl⟩

theorem tree_small {t : List Ent} (h : treeOk t = true) : t.length ≤ 1024 := (treeOk_iff.1 h).1
theorem tree_rising {t : List Ent} (h : treeOk t = true) : Rising t := (treeOk_iff.1 h).2.1

set_option maxHeartbeats 8000000 in
set_option maxRecDepth 20000 in
theorem Made_any (v : Value) (t : List Ent) (p : ByteArray) (k : Nat) (w : World) (hv : RdE w v t) (hp : p.size ≤ 140737488355328) :
    Calls Tryz.prog 86 #[v, .string p, .int .i64 k] w (TAns (madeT t p k) w) := by
  have Hv := Lib.hid hv
  obtain ⟨A, c, rfl, hc1, hc2, _⟩ := rdE_form hv rfl
  clear hv
  rcases ht : treeOk t with _ | _
  · have hm : madeT t p k = .error 16 := by rw [madeT, if_neg (by simp [ht])]
    rw [hm]
    show Calls _ _ _ _ (TBad 16 w)
    have HT := fun w => Tree_no (v := .slice A t.length c) ht w
    clear ht hm
    go_enter Tryz.func86, Tryz.ntmps86
    go_wp2_with (first | (go_at_call 36; refine (HT _ Hv.out).mono ?_; rintro e W1 ⟨rfl, hE1⟩) | (go_at_call 60; refine (fail_At_c _ _ _ _).mono ?_; rintro e W3 ⟨⟨a5, rfl, hEr⟩, hE3⟩))
    go_ret2
    exact ⟨_, 1, rfl, hEr, hE1.trans hE3⟩
  · have HT := fun w => Tree_yes (v := .slice A t.length c) ht w
    have HP := fun w h => tPlace_any (.slice A t.length c) t p w h hp
    by_cases hpl : placeT t p = 0
    · have hm : madeT t p k = withT t ⟨p, k, ⟨#[]⟩⟩ := by rw [madeT, if_pos ht, if_pos hpl]
      have hPA : ∀ W, PlaceAns (placeT t p) W = PlaceOk W := fun W => by funext e w'; rw [hpl]; rfl
      have HP' : ∀ w, RdE w (.slice A t.length c) t → Calls Tryz.prog 87 #[.slice A t.length c, .string p] w (PlaceOk w) := fun w h => hPA w ▸ HP w h
      have HW := fun w h => With_any (.slice A t.length c) t ⟨p, k, ⟨#[]⟩⟩ w h (by have := tree_small ht; omega) (tree_rising ht) ⟨hp, Nat.zero_le _⟩
      rw [hm]
      rcases hw : withT t ⟨p, k, ⟨#[]⟩⟩ with cc | l
      · rw [hw] at HW
        show Calls _ _ _ _ (TBad cc w)
        have HW' : ∀ w, RdE w (.slice A t.length c) t → Calls Tryz.prog 85 #[.slice A t.length c, .agg #[.string p, .int .i64 k, .string ⟨#[]⟩]] w (WithBad cc w) := HW
        clear ht hm hw HW HP hPA hpl
        go_enter Tryz.func86, Tryz.ntmps86
        go_wp2_with (first | (go_at_call 36; refine (HT _ Hv.out).mono ?_; rintro e W1 ⟨rfl, hE1⟩) | (go_at_call 87; refine (HP' _ (Hv.out.ext hE1)).mono ?_; rintro e W2 ⟨rfl, hE2⟩) | (go_at_call 85; refine (HW' _ (Hv.out.ext (hE1.trans hE2))).mono ?_; rintro e W3 ⟨rfl, hE3⟩) | (go_at_call 60; refine (fail_At_c _ _ _ _).mono ?_; rintro e W4 ⟨⟨a5, rfl, hEr⟩, hE4⟩))
        go_ret2
        exact ⟨_, 1, rfl, hEr, ((hE1.trans hE2).trans hE3).trans hE4⟩
      · rw [hw] at HW
        show Calls _ _ _ _ (WithOk l w)
        have HW' : ∀ w, RdE w (.slice A t.length c) t → Calls Tryz.prog 85 #[.slice A t.length c, .agg #[.string p, .int .i64 k, .string ⟨#[]⟩]] w (WithOk l w) := HW
        clear ht hm hw HW HP hPA hpl
        go_enter Tryz.func86, Tryz.ntmps86
        go_wp2_with (first | (go_at_call 36; refine (HT _ Hv.out).mono ?_; rintro e W1 ⟨rfl, hE1⟩) | (go_at_call 87; refine (HP' _ (Hv.out.ext hE1)).mono ?_; rintro e W2 ⟨rfl, hE2⟩) | (go_at_call 85; refine (HW' _ (Hv.out.ext (hE1.trans hE2))).mono ?_; rintro e W3 ⟨v3, rfl, hrd, hE3⟩; have Hrd := Lib.hid hrd; obtain ⟨A3, c3, rfl, _, _, _⟩ := rdE_form hrd rfl; clear hrd) | (go_at_call 60; refine (fail_At_nil _ _ _).mono ?_; rintro e W4 ⟨rfl, rfl⟩))
        go_ret2
        exact ⟨_, rfl, Hrd.out, (hE1.trans hE2).trans hE3⟩
    · have hm : madeT t p k = .error (placeT t p) := by rw [madeT, if_pos ht, if_neg hpl]
      rw [hm]
      show Calls _ _ _ _ (TBad (placeT t p) w)
      have hPA : ∀ W, PlaceAns (placeT t p) W = PlaceBad (placeT t p) W := fun W => by funext e w'; exact if_neg hpl
      have HP' : ∀ w, RdE w (.slice A t.length c) t → Calls Tryz.prog 87 #[.slice A t.length c, .string p] w (PlaceBad (placeT t p) w) := fun w h => hPA w ▸ HP w h
      generalize placeT t p = cc at HP' ⊢
      clear ht hm HP hPA hpl
      go_enter Tryz.func86, Tryz.ntmps86
      go_wp2_with (first | (go_at_call 36; refine (HT _ Hv.out).mono ?_; rintro e W1 ⟨rfl, hE1⟩) | (go_at_call 87; refine (HP' _ (Hv.out.ext hE1)).mono ?_; rintro e W2 ⟨v2, n2, rfl, hEr2, hE2⟩; obtain ⟨T2, u2, rfl⟩ := errN_iface hEr2; have HA := fun op path => At_errN op path _ _ _ _ hEr2; clear hEr2) | (go_at_call 60; refine (HA _ _).mono ?_; rintro e W4 ⟨⟨a5, rfl, hEr⟩, hE4⟩))
      go_ret2
      exact ⟨_, _, rfl, hEr, (hE1.trans hE2).trans hE4⟩
end Go.Proofs.YtgemdfobkockaaaGreatDoor
