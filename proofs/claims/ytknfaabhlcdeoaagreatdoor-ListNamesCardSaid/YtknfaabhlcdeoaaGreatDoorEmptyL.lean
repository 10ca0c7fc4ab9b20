/- list.Empty: for every stack and every text. -/
import Derived.Test.YtknfaabhlcdeoaaGreatDoorLHelp
import Derived.Test.YtknfaabhlcdeoaaGreatDoorShF
namespace Go.Proofs.YtknfaabhlcdeoaaGreatDoor
open Go Go.RowKit Go.Shelf Go.Proofs

variable {s : List (List Ent)} {p : ByteArray}

/-- What list.Empty answers. -/
def EmptyOk (s : List (List Ent)) (p : ByteArray) (w : World) (e : Ending) (w' : World) : Prop := ∃ b, e = .returned (.tuple #[.bool b, .nilIface]) ∧ Hid (b = decide ((inT (foldT s) p).length = 0)) ∧ Ext w w'
def EmptyBad (c : Int) (w : World) (e : Ending) (w' : World) : Prop := ∃ a, e = .returned (.tuple #[.bool false, .iface 181 (.pointer (some ⟨a, 0, none⟩))]) ∧ ErrN w' 1 (.iface 181 (.pointer (some ⟨a, 0, none⟩))) c ∧ Ext w w'

theorem dir_stack {f : Nat} (h : dirE s p = .ok f) : stackOk s = true := by
  obtain ⟨x, hx, _, _⟩ := dirE_ok h
  obtain ⟨_, hs, _⟩ := lookE_ok hx
  exact hs

set_option maxHeartbeats 2000000 in
theorem Empty_ok (v : Value) (f : Nat) (w : World) (hv : RdK w v s) (hp : p.size ≤ 70368744177664) (hd : dirE s p = .ok f) : Calls Tryz.prog 20 #[v, .string p] w (EmptyOk s p w) := by
  have HN := fun W h => Names_ok v s p f W h hp hd
  have hst := dir_stack hd
  have Hv := Lib.hid hv
  have Hn : Hid (∀ l, NamesIs s p f l → l = inT (foldT s) p) := Lib.hid fun l hl => names_fold hst hd hl
  obtain ⟨A, c, rfl, _, _, _⟩ := RdK.form hv rfl
  clear hv hd hst
  go_enter Tryz.func20, Tryz.ntmps20
  go_wp2_with (go_at_call 18; refine (HN _ (Hv.out.ext (by exact (by repeat (first | exact Ext.refl _ | assumption | refine Ext.alloc ?_ _ | refine Ext.drew ?_ | refine Ext.drewN ?_ _ | refine Ext.setCell ?_ (by first | omega | (simp; done) | (simp; omega)) _ | refine Ext.trans ?_ (by assumption)))))).mono ?_; rintro e W1 ⟨u, l, rfl, hl, hu, hE1⟩; have hle := Lib.hid (Hn.out l hl); obtain ⟨n, hn⟩ : ∃ n, n = l.length := ⟨_, rfl⟩; have Hln := Lib.hid hn; obtain ⟨A1, c1, rfl, hc1, hc2, Hcell⟩ := rdS_form hu hn; clear hn hl hu)
  go_ret2
  refine ⟨_, rfl, Lib.hid ?_, by exact (by repeat (first | exact Ext.refl _ | assumption | refine Ext.alloc ?_ _ | refine Ext.drew ?_ | refine Ext.drewN ?_ _ | refine Ext.setCell ?_ (by first | omega | (simp; done) | (simp; omega)) _ | refine Ext.trans ?_ (by assumption)))⟩
  rw [← hle.out, ← Hln.out, Bool.eq_iff_iff]
  simp

set_option maxHeartbeats 2000000 in
theorem Empty_bad (v : Value) (c0 : Int) (w : World) (hv : RdK w v s) (hp : p.size ≤ 70368744177664) (hd : dirE s p = .error c0) : Calls Tryz.prog 20 #[v, .string p] w (EmptyBad c0 w) := by
  have HN := fun W h => Names_bad v s p c0 W h hp hd
  have Hv := Lib.hid hv
  obtain ⟨A, c, rfl, _, _, _⟩ := RdK.form hv rfl
  clear hv hd
  go_enter Tryz.func20, Tryz.ntmps20
  go_wp2_with (go_at_call 18; refine (HN _ (Hv.out.ext (by exact (by repeat (first | exact Ext.refl _ | assumption | refine Ext.alloc ?_ _ | refine Ext.drew ?_ | refine Ext.drewN ?_ _ | refine Ext.setCell ?_ (by first | omega | (simp; done) | (simp; omega)) _ | refine Ext.trans ?_ (by assumption)))))).mono ?_; rintro e W1 ⟨a, rfl, hEr, hE1⟩)
  go_ret2
  exact ⟨_, rfl, hEr, by exact (by repeat (first | exact Ext.refl _ | assumption | refine Ext.alloc ?_ _ | refine Ext.drew ?_ | refine Ext.drewN ?_ _ | refine Ext.setCell ?_ (by first | omega | (simp; done) | (simp; omega)) _ | refine Ext.trans ?_ (by assumption)))⟩

end Go.Proofs.YtknfaabhlcdeoaaGreatDoor
