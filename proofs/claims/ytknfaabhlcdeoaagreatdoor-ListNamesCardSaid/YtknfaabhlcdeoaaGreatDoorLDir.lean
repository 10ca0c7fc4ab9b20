/- look.Dir, look.Shows, list.child; for every stack, and texts of at most 2^46 bytes. -/
import Derived.Test.YtknfaabhlcdeoaaGreatDoorListW
namespace Go.Proofs.YtknfaabhlcdeoaaGreatDoor
open Go Go.RowKit Go.Shelf Go.Proofs

def DirOk (f : Nat) (w : World) (e : Ending) (w' : World) : Prop := e = .returned (.tuple #[.int .i64 f, .nilIface]) ∧ Ext w w'
def DirBad (c : Int) (w : World) (e : Ending) (w' : World) : Prop := ∃ a, e = .returned (.tuple #[.int .i64 0, .iface 181 (.pointer (some ⟨a, 0, none⟩))]) ∧ ErrN w' 1 (.iface 181 (.pointer (some ⟨a, 0, none⟩))) c ∧ Ext w w'
def DirAns (r : Except Int Nat) (w : World) (e : Ending) (w' : World) : Prop := match r with
  | .ok f => DirOk f w e w'
  | .error c => DirBad c w e w'

set_option maxHeartbeats 4000000 in
theorem Dir_any (v : Value) (s : List (List Ent)) (p : ByteArray) (w : World) (hv : RdK w v s) (hp : p.size ≤ 140737488355328) :
    Calls Tryz.prog 55 #[v, .string p] w (DirAns (dirE s p) w) := by
  have HA := LAt_any v s p w hv hp
  rcases hl : lookE s p with c | x
  · rw [hl] at HA
    have hd : dirE s p = .error c := by rw [dirE, hl]
    rw [hd]
    show Calls _ _ _ _ (DirBad c w)
    clear hv hl hd
    go_enter Tryz.func55, Tryz.ntmps55
    go_wp2_with (go_at_call 64; refine HA.mono ?_; rintro e W1 ⟨u, rfl, hEr, hE1⟩; obtain ⟨a5, rfl⟩ := ErrN_one hEr)
    go_ret2
    exact ⟨_, rfl, hEr.below ((Ext.refl W1).alloc _).below, (by repeat (first | exact Ext.refl _ | assumption | refine Ext.alloc ?_ _ | refine Ext.drew ?_ | refine Ext.drewN ?_ _ | refine Ext.setCell ?_ (by first | omega | (simp; done) | (simp; omega)) _ | refine Ext.trans ?_ (by assumption)))⟩
  · rw [hl] at HA
    obtain ⟨x, fl⟩ := x
    have HA : Calls Tryz.prog 64 #[v, .string p] w (AtOk (x, fl) w) := HA
    by_cases hk : x.kind = 1
    · have hd : dirE s p = .error 6 := by rw [dirE, hl]; exact if_pos hk
      rw [hd]
      show Calls _ _ _ _ (DirBad 6 w)
      clear hv hl hd
      go_enter Tryz.func55, Tryz.ntmps55
      go_wp2_with (first | (go_at_call 64; refine HA.mono ?_; rintro e W1 ⟨rfl, hE1⟩) | (go_at_call 63; refine (fail_At_c _ _ _ _).mono ?_; rintro e W3 ⟨⟨a5, rfl, hEr⟩, hE3⟩))
      go_ret2
      exact ⟨_, rfl, hEr, Ext.trans (by exact (by repeat (first | exact Ext.refl _ | assumption | refine Ext.alloc ?_ _ | refine Ext.drew ?_ | refine Ext.drewN ?_ _ | refine Ext.setCell ?_ (by first | omega | (simp; done) | (simp; omega)) _ | refine Ext.trans ?_ (by assumption)))) hE3⟩
    · have hd : dirE s p = .ok fl := by rw [dirE, hl]; exact if_neg hk
      rw [hd]
      show Calls _ _ _ _ (DirOk fl w)
      have hk1 : (x.kind == 1) = false := by simpa using hk
      clear hv hl hd hk
      go_enter Tryz.func55, Tryz.ntmps55
      go_wp2_with (go_at_call 64; refine HA.mono ?_; rintro e W1 ⟨rfl, hE1⟩)
      go_ret2
      exact ⟨rfl, (by repeat (first | exact Ext.refl _ | assumption | refine Ext.alloc ?_ _ | refine Ext.drew ?_ | refine Ext.drewN ?_ _ | refine Ext.setCell ?_ (by first | omega | (simp; done) | (simp; omega)) _ | refine Ext.trans ?_ (by assumption)))⟩

set_option maxHeartbeats 4000000 in
theorem Shows_any (v : Value) (s : List (List Ent)) (p : ByteArray) (w : World) (hv : RdK w v s) (hp : p.size ≤ 140737488355328) :
    Calls Tryz.prog 57 #[v, .string p] w fun e w' => e = .returned (.bool (showsE s p)) ∧ Ext w w' := by
  have HA := LAt_any v s p w hv hp
  rcases hl : lookE s p with c | x
  · rw [hl] at HA
    have hd : showsE s p = false := by rw [showsE, hl]
    rw [hd]
    clear hv hl hd
    go_enter Tryz.func57, Tryz.ntmps57
    go_wp2_with (go_at_call 64; refine HA.mono ?_; rintro e W1 ⟨u, rfl, hEr, hE1⟩; obtain ⟨a5, rfl⟩ := ErrN_one hEr)
    go_ret
    exact ⟨rfl, (by repeat (first | exact Ext.refl _ | assumption | refine Ext.alloc ?_ _ | refine Ext.drew ?_ | refine Ext.drewN ?_ _ | refine Ext.setCell ?_ (by first | omega | (simp; done) | (simp; omega)) _ | refine Ext.trans ?_ (by assumption)))⟩
  · rw [hl] at HA
    obtain ⟨x, fl⟩ := x
    have HA : Calls Tryz.prog 64 #[v, .string p] w (AtOk (x, fl) w) := HA
    have hd : showsE s p = true := by rw [showsE, hl]
    rw [hd]
    clear hv hl hd
    go_enter Tryz.func57, Tryz.ntmps57
    go_wp2_with (go_at_call 64; refine HA.mono ?_; rintro e W1 ⟨rfl, hE1⟩)
    go_ret
    exact ⟨rfl, (by repeat (first | exact Ext.refl _ | assumption | refine Ext.alloc ?_ _ | refine Ext.drew ?_ | refine Ext.drewN ?_ _ | refine Ext.setCell ?_ (by first | omega | (simp; done) | (simp; omega)) _ | refine Ext.trans ?_ (by assumption)))⟩

theorem child_any (d x : ByteArray) (w : World) (hd : d.size ≤ 70368744177664) (hx : x.size ≤ 70368744177664) :
    Calls Tryz.prog 58 #[.string d, .string x] w fun e w' => e = .returned (.string (childP d x)) ∧ Ext w w' := by
  by_cases h : d = ⟨#[47]⟩
  · subst h
    go_enter Tryz.func58, Tryz.ntmps58
    go_wp2
    go_ret
    refine ⟨congrArg (fun y => Ending.returned (.string y)) (?_ : (⟨#[47]⟩ : ByteArray) ++ x = _), (by repeat (first | exact Ext.refl _ | assumption | refine Ext.alloc ?_ _ | refine Ext.drew ?_ | refine Ext.drewN ?_ _ | refine Ext.setCell ?_ (by first | omega | (simp; done) | (simp; omega)) _ | refine Ext.trans ?_ (by assumption)))⟩
    rw [childP, if_pos rfl]
    exact ByteArray.ext (by simp [B])
  · have hne : (d.toList == [47]) = false := by
      rw [beq_eq_false_iff_ne]
      exact fun e => h (data_inj (by rw [← toList_eq, e]))
    go_enter Tryz.func58, Tryz.ntmps58
    go_wp2
    go_ret
    refine ⟨congrArg (fun y => Ending.returned (.string y)) (?_ : d ++ ⟨#[47]⟩ ++ x = _), (by repeat (first | exact Ext.refl _ | assumption | refine Ext.alloc ?_ _ | refine Ext.drew ?_ | refine Ext.drewN ?_ _ | refine Ext.setCell ?_ (by first | omega | (simp; done) | (simp; omega)) _ | refine Ext.trans ?_ (by assumption)))⟩
    rw [childP, if_neg h]
    exact ByteArray.ext (by simp [B])
end Go.Proofs.YtknfaabhlcdeoaaGreatDoor
