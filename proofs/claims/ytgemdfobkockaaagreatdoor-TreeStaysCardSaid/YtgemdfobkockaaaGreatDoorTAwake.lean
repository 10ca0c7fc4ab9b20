/- shalelaw11's awake: the document's example holds. -/
import Derived.Test.YtgemdfobkockaaaGreatDoorTreeDo
import Derived.Test.YtgemdfobkockaaaGreatDoorOne
import Derived.Test.YtgemdfobkockaaaGreatDoorLaidT
namespace Go.Proofs.YtgemdfobkockaaaGreatDoor
open Go Go.RowKit Go.Shelf Go.Proofs

def pab : ByteArray := ⟨#[47, 97, 47, 98]⟩
theorem made_pab : madeT [] pab (1 : Nat) = .error 3 := by
  rw [madeT, if_pos (by decide : treeOk [] = true)]
  have h : placeT [] pab = 3 := by decide
  rw [if_neg (by rw [h]; decide), h]
theorem made_pa : madeT [] pa (1 : Nat) = .ok [oneE ⟨#[]⟩] := by
  rw [madeT, if_pos (by decide : treeOk [] = true)]
  have h : placeT [] pa = 0 := by decide
  rw [if_pos h]
  rfl

theorem Create_ok {v : Value} {t l : List Ent} {p : ByteArray} (hp : p.size ≤ 140737488355328) (h : madeT t p (1 : Nat) = .ok l) (w : World) (hv : RdE w v t) : Calls Tryz.prog 40 #[v, .string p] w (WithOk l w) := by
  have := Create_any v t p w hv hp
  rwa [show madeT t p 1 = .ok l from h] at this
theorem Create_bad {v : Value} {t : List Ent} {p : ByteArray} {c : Int} (hp : p.size ≤ 140737488355328) (h : madeT t p (1 : Nat) = .error c) (w : World) (hv : RdE w v t) : Calls Tryz.prog 40 #[v, .string p] w (TBad c w) := by
  have := Create_any v t p w hv hp
  rwa [show madeT t p 1 = .error c from h] at this

set_option maxHeartbeats 4000000 in
set_option maxRecDepth 20000 in
theorem TAwake_any (w : World) (hL : Laid w) : Calls Tryz.prog 34 #[] w fun e w' => e = .returned (.bool true) ∧ Ext w w' := by
  have HL := Lib.hid hL
  have H0 := fun w => Create_bad (v := .slice none 0 0) (by decide) made_pab w (Rd.nil _ _ _)
  have H1 := fun w => Create_ok (v := .slice none 0 0) (by decide) made_pa w (Rd.nil _ _ _)
  clear hL
  go_enter Tryz.func34, Tryz.ntmps34
  go_wp2_with fail
  refine (H0 _).mono ?_
  rintro e W1 ⟨v1, n1, rfl, hEr, hE1⟩
  go_wp2_with fail
  refine (H1 _).mono ?_
  rintro e W2 ⟨v2, rfl, hr2, hE2⟩
  obtain ⟨A2, c2, rfl, _⟩ := hr2
  have hE3 := hE1.trans hE2
  go_wp2_with fail
  refine (Code_err n1 _ 3 _ (hEr.ext hE2) (HL.out.ext hE3)).mono ?_
  rintro e W4 ⟨rfl, hE4⟩
  go_wp2_with fail
  refine (Code_nil _).mono ?_
  rintro e W5 ⟨rfl, hE5⟩
  go_wp2
  go_ret
  exact ⟨rfl, (hE3.trans hE4).trans hE5⟩
end Go.Proofs.YtgemdfobkockaaaGreatDoor
