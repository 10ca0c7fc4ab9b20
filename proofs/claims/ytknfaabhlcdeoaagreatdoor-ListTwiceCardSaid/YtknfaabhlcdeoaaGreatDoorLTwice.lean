/- shalelaw13.ListTwice is true: for every stack. -/
import Derived.Test.YtknfaabhlcdeoaaGreatDoorLUnd
import Derived.Test.YtknfaabhlcdeoaaGreatDoorSameE
namespace Go.Proofs.YtknfaabhlcdeoaaGreatDoor
open Go Go.RowKit Go.Shelf Go.Proofs

/-- Rows of one layer, and of one layer twice. -/
theorem rdK_b1 {w : World} {v : Value} {t : List Ent} (h : RdE w v t) : RdK (w.alloc (.cells #[v] 34)) (.slice (some ⟨w.heap.size, 0, none⟩) 1 1) [t] := by
  have hb := Blk.new w 34 #[v]
  refine ⟨_, _, rfl, Nat.le_refl _, by omega, by simp, fun _ => ⟨w.heap.size, 0, rfl, fun j y hj => ?_⟩⟩
  rcases j with _ | j
  · simp at hj
    subst hj
    refine ⟨_, ⟨_, rfl, h.ext ((Ext.refl _).alloc _)⟩, fun i u hi => ?_⟩
    rcases i with _ | i
    · simp at hi; subst hi; exact hb.cell 0 rfl
    · simp at hi
  · simp at hj
theorem rdK_b2 {w : World} {v : Value} {t : List Ent} (h : RdE w v t) : RdK (w.alloc (.cells #[v, v] 34)) (.slice (some ⟨w.heap.size, 0, none⟩) 2 2) [t, t] := by
  have hb := Blk.new w 34 #[v, v]
  refine ⟨_, _, rfl, Nat.le_refl _, by omega, by simp, fun _ => ⟨w.heap.size, 0, rfl, fun j y hj => ?_⟩⟩
  rcases j with _ | _ | j
  · simp at hj
    subst hj
    refine ⟨_, ⟨_, rfl, h.ext ((Ext.refl _).alloc _)⟩, fun i u hi => ?_⟩
    rcases i with _ | i
    · simp at hi; subst hi; exact hb.cell 0 rfl
    · simp at hi
  · simp at hj
    subst hj
    refine ⟨_, ⟨_, rfl, h.ext ((Ext.refl _).alloc _)⟩, fun i u hi => ?_⟩
    rcases i with _ | i
    · simp at hi; subst hi; exact hb.cell 1 rfl
    · simp at hi
  · simp at hj

theorem walk_tree (s : List (List Ent)) : treeOk (walkT s) = true := by
  rw [walkT]
  split
  · rename_i h
    exact (fold_show h).1
  · rfl
theorem walk_self {s : List (List Ent)} (h : (walkT s).length ≤ 64) : walkT [walkT s] = walkT s ∧ walkT [walkT s, walkT s] = walkT s := by
  obtain ⟨h1, h2, h3⟩ := fold_self (walk_tree s) h
  constructor
  · rw [walkT, if_pos (by simp [stackOk, h1]), h2]
  · rw [walkT, if_pos (by simp [stackOk, h1]), h3]

set_option maxHeartbeats 4000000 in
set_option maxRecDepth 20000 in
theorem Twice_any (v : Value) (s : List (List Ent)) (w : World) (hL : Laid w) (hv : RdK w v s) :
    Calls Tryz.prog 8 #[v] w fun e w' => e = .returned (.bool true) ∧ Ext w w' := by
  have HA := fun w' => LAwake_any w'
  have Hv := Lib.hid hv
  rcases hf : fewOk s with _ | _
  · have HF := fun w' h => few_no (v := v) hf w' h
    obtain ⟨A, c, rfl, _, _, _⟩ := RdK.form hv rfl
    clear hv hL hf
    go_enter Tryz.func8, Tryz.ntmps8
    go_wp2_with (first | (go_at_call 15; refine (HF _ (Hv.out.ext (by exact (by repeat (first | exact Ext.refl _ | assumption | refine Ext.alloc ?_ _ | refine Ext.drew ?_ | refine Ext.drewN ?_ _ | refine Ext.setCell ?_ (by first | omega | (simp; done) | (simp; omega)) _ | refine Ext.trans ?_ (by assumption)))))).mono ?_; rintro e W1 ⟨rfl, hE1⟩) | (go_at_call 14; ((with_reducible refine (HA _).mono ?_)); rintro e W2 ⟨rfl, hE2⟩))
    go_ret
    exact ⟨rfl, by exact (by repeat (first | exact Ext.refl _ | assumption | refine Ext.alloc ?_ _ | refine Ext.drew ?_ | refine Ext.drewN ?_ _ | refine Ext.setCell ?_ (by first | omega | (simp; done) | (simp; omega)) _ | refine Ext.trans ?_ (by assumption)))⟩
  · have HF := fun w' h => few_yes (v := v) hf w' h
    have HW := fun w' h => Walk_any v s w' h
    obtain ⟨A, c, rfl, _, _, _⟩ := RdK.form hv rfl
    obtain ⟨t, ht⟩ : ∃ t, walkT s = t := ⟨_, rfl⟩
    have hself := walk_self (s := s)
    rw [ht] at hself
    have HW : ∀ w', RdK w' (.slice A s.length c) s → Calls Tryz.prog 34 #[.slice A s.length c] w' fun e w'' => ∃ v, e = .returned v ∧ RdE w'' v t ∧ Ext w' w'' := fun w' h => by
      have := HW w' h
      unfold WalkAns at this
      rwa [ht] at this
    clear hv hL hf ht
    go_enter Tryz.func8, Tryz.ntmps8
    go_upto_region 4 with (first | (go_at_call 15; refine (HF _ (Hv.out.ext (by exact (by repeat (first | exact Ext.refl _ | assumption | refine Ext.alloc ?_ _ | refine Ext.drew ?_ | refine Ext.drewN ?_ _ | refine Ext.setCell ?_ (by first | omega | (simp; done) | (simp; omega)) _ | refine Ext.trans ?_ (by assumption)))))).mono ?_; rintro e W1 ⟨rfl, hE1⟩) | (go_at_call 14; ((with_reducible refine (HA _).mono ?_)); rintro e W2 ⟨rfl, hE2⟩) | (go_at_call 34; refine (HW _ (Hv.out.ext (by exact (by repeat (first | exact Ext.refl _ | assumption | refine Ext.alloc ?_ _ | refine Ext.drew ?_ | refine Ext.drewN ?_ _ | refine Ext.setCell ?_ (by first | omega | (simp; done) | (simp; omega)) _ | refine Ext.trans ?_ (by assumption)))))).mono ?_; rintro e W3 ⟨v3, rfl, hr3, hE3⟩; have Hr3 := Lib.hid hr3; obtain ⟨A3, c3, rfl, _, _, _⟩ := rdE_form hr3 rfl; clear hr3))
    obtain ⟨n, hn⟩ : ∃ n, n = t.length := ⟨_, rfl⟩
    rw [← hn] at Hr3 hself ⊢
    have Hn := Lib.hid hn
    clear hn
    by_cases hl : n ≤ 64
    · have hl' : ¬ (64 : Int) < (n : Int) := by omega
      obtain ⟨hs1, hs2⟩ := hself hl
      have HW1 : ∀ w', RdE w' (.slice A3 n c3) t → Calls Tryz.prog 34 #[.slice (some ⟨w'.heap.size, 0, none⟩) 1 1] (w'.alloc (.cells #[.slice A3 n c3] 34)) fun e w'' => ∃ v, e = .returned v ∧ RdE w'' v t ∧ Ext (w'.alloc (.cells #[.slice A3 n c3] 34)) w'' := fun w' h => by
        have := Walk_any _ [t] _ (rdK_b1 h)
        unfold WalkAns at this
        rwa [hs1] at this
      have HW2 : ∀ w', RdE w' (.slice A3 n c3) t → Calls Tryz.prog 34 #[.slice (some ⟨w'.heap.size, 0, none⟩) 2 2] (w'.alloc (.cells #[.slice A3 n c3, .slice A3 n c3] 34)) fun e w'' => ∃ v, e = .returned v ∧ RdE w'' v t ∧ Ext (w'.alloc (.cells #[.slice A3 n c3, .slice A3 n c3] 34)) w'' := fun w' h => by
        have := Walk_any _ [t, t] _ (rdK_b2 h)
        unfold WalkAns at this
        rwa [hs2] at this
      clear hs1 hs2 hself hl
      go_wp2_with (first | (go_at_call 34; (with_reducible refine (HW1 _ ?hr1).mono ?_); (case hr1 => exact Hr3.out.ext (by exact (by repeat (first | exact Ext.refl _ | assumption | refine Ext.alloc ?_ _ | refine Ext.drew ?_ | refine Ext.drewN ?_ _ | refine Ext.setCell ?_ (by first | omega | (simp; done) | (simp; omega)) _ | refine Ext.trans ?_ (by assumption))))); rintro e W4 ⟨v4, rfl, hr4, hE4⟩) | (go_at_call 34; (with_reducible refine (HW2 _ ?hr2).mono ?_); (case hr2 => exact Hr3.out.ext (by exact (by repeat (first | exact Ext.refl _ | assumption | refine Ext.alloc ?_ _ | refine Ext.drew ?_ | refine Ext.drewN ?_ _ | refine Ext.setCell ?_ (by first | omega | (simp; done) | (simp; omega)) _ | refine Ext.trans ?_ (by assumption))))); rintro e W6 ⟨v4, rfl, hr4, hE6⟩) | (go_at_call 35; refine (Same_yes hr4 (Hr3.out.ext (by exact (by repeat (first | exact Ext.refl _ | assumption | refine Ext.alloc ?_ _ | refine Ext.drew ?_ | refine Ext.drewN ?_ _ | refine Ext.setCell ?_ (by first | omega | (simp; done) | (simp; omega)) _ | refine Ext.trans ?_ (by assumption)))))).mono ?_; rintro e W5 ⟨rfl, hE5⟩; clear hr4))
      go_ret
      exact ⟨rfl, by exact (by repeat (first | exact Ext.refl _ | assumption | refine Ext.alloc ?_ _ | refine Ext.drew ?_ | refine Ext.drewN ?_ _ | refine Ext.setCell ?_ (by first | omega | (simp; done) | (simp; omega)) _ | refine Ext.trans ?_ (by assumption)))⟩
    · have hl' : (64 : Int) < (n : Int) := by omega
      clear hself hl
      go_wp2
      go_ret
      exact ⟨rfl, by exact (by repeat (first | exact Ext.refl _ | assumption | refine Ext.alloc ?_ _ | refine Ext.drew ?_ | refine Ext.drewN ?_ _ | refine Ext.setCell ?_ (by first | omega | (simp; done) | (simp; omega)) _ | refine Ext.trans ?_ (by assumption)))⟩
end Go.Proofs.YtknfaabhlcdeoaaGreatDoor
