/- shalelaw13.ListWalks is true: for every stack. -/
import Derived.Test.YtknfaabhlcdeoaaGreatDoorFoldStk
import Derived.Test.YtknfaabhlcdeoaaGreatDoorSameE
namespace Go.Proofs.YtknfaabhlcdeoaaGreatDoor
open Go Go.RowKit Go.Shelf Go.Proofs

set_option maxHeartbeats 4000000 in
set_option maxRecDepth 20000 in
theorem Walks_any (v : Value) (s : List (List Ent)) (w : World) (_hL : Laid w) (hv : RdK w v s) :
    Calls Tryz.prog 9 #[v] w fun e w' => e = .returned (.bool true) ∧ Ext w w' := by
  have HA := fun w' => LAwake_any w'
  have Hv := Lib.hid hv
  rcases hf : fewOk s with _ | _
  · have HF := fun w' h => few_no (v := v) hf w' h
    obtain ⟨A, c, rfl, _, _, _⟩ := RdK.form hv rfl
    clear hv hf
    go_enter Tryz.func9, Tryz.ntmps9
    go_wp2_with (first | (go_at_call 15; refine (HF _ (Hv.out.ext (by exact (by repeat (first | exact Ext.refl _ | assumption | refine Ext.alloc ?_ _ | refine Ext.drew ?_ | refine Ext.drewN ?_ _ | refine Ext.setCell ?_ (by first | omega | (simp; done) | (simp; omega)) _ | refine Ext.trans ?_ (by assumption)))))).mono ?_; rintro e W1 ⟨rfl, hE1⟩) | (go_at_call 14; ((with_reducible refine (HA _).mono ?_)); rintro e W2 ⟨rfl, hE2⟩))
    go_ret
    exact ⟨rfl, by exact (by repeat (first | exact Ext.refl _ | assumption | refine Ext.alloc ?_ _ | refine Ext.drew ?_ | refine Ext.drewN ?_ _ | refine Ext.setCell ?_ (by first | omega | (simp; done) | (simp; omega)) _ | refine Ext.trans ?_ (by assumption)))⟩
  · have HF := fun w' h => few_yes (v := v) hf w' h
    have HW := fun w' h => Walk_any v s w' h
    have HS := fun w' h => FStack_any v s w' h
    obtain ⟨A, c, rfl, _, _, _⟩ := RdK.form hv rfl
    clear hv hf
    go_enter Tryz.func9, Tryz.ntmps9
    go_wp2_with (first | (go_at_call 15; refine (HF _ (Hv.out.ext (by exact (by repeat (first | exact Ext.refl _ | assumption | refine Ext.alloc ?_ _ | refine Ext.drew ?_ | refine Ext.drewN ?_ _ | refine Ext.setCell ?_ (by first | omega | (simp; done) | (simp; omega)) _ | refine Ext.trans ?_ (by assumption)))))).mono ?_; rintro e W1 ⟨rfl, hE1⟩) | (go_at_call 14; ((with_reducible refine (HA _).mono ?_)); rintro e W2 ⟨rfl, hE2⟩) | (go_at_call 34; refine (HW _ (Hv.out.ext (by exact (by repeat (first | exact Ext.refl _ | assumption | refine Ext.alloc ?_ _ | refine Ext.drew ?_ | refine Ext.drewN ?_ _ | refine Ext.setCell ?_ (by first | omega | (simp; done) | (simp; omega)) _ | refine Ext.trans ?_ (by assumption)))))).mono ?_; rintro e W3 ⟨v3, rfl, hr3, hE3⟩) | (go_at_call 32; refine (HS _ (Hv.out.ext (by exact (by repeat (first | exact Ext.refl _ | assumption | refine Ext.alloc ?_ _ | refine Ext.drew ?_ | refine Ext.drewN ?_ _ | refine Ext.setCell ?_ (by first | omega | (simp; done) | (simp; omega)) _ | refine Ext.trans ?_ (by assumption)))))).mono ?_; rintro e W4 ⟨v4, rfl, hr4, hE4⟩) | (go_at_call 35; refine (Same_yes (hr3.ext (by exact (by repeat (first | exact Ext.refl _ | assumption | refine Ext.alloc ?_ _ | refine Ext.drew ?_ | refine Ext.drewN ?_ _ | refine Ext.setCell ?_ (by first | omega | (simp; done) | (simp; omega)) _ | refine Ext.trans ?_ (by assumption))))) (hr4.ext (by exact (by repeat (first | exact Ext.refl _ | assumption | refine Ext.alloc ?_ _ | refine Ext.drew ?_ | refine Ext.drewN ?_ _ | refine Ext.setCell ?_ (by first | omega | (simp; done) | (simp; omega)) _ | refine Ext.trans ?_ (by assumption)))))).mono ?_; rintro e W5 ⟨rfl, hE5⟩; clear hr3 hr4))
    go_ret
    exact ⟨rfl, by exact (by repeat (first | exact Ext.refl _ | assumption | refine Ext.alloc ?_ _ | refine Ext.drew ?_ | refine Ext.drewN ?_ _ | refine Ext.setCell ?_ (by first | omega | (simp; done) | (simp; omega)) _ | refine Ext.trans ?_ (by assumption)))⟩
end Go.Proofs.YtknfaabhlcdeoaaGreatDoor
