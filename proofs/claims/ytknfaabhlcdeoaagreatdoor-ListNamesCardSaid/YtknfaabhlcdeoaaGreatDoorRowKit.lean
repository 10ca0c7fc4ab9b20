/- What the rows of this seat need: a world that meets the condition on the listed variables, and the handle's cell out of the condition. -/
import Derived.Test.YtknfaabhlcdeoaaGreatDoorRows
import Derived.Test.YtknfaabhlcdeoaaGreatDoorLaidT
import Derived.ProofKit
import Derived.LaidLaws
import Derived.LaidHandle
import Derived.Lay
import Derived.ChangeSame
import Derived.ChangeVars
import Derived.JoinedOf
import Derived.RowKit
import Derived.RowKitTokens
import Derived.Stop.Joined
namespace Go.Proofs.YtknfaabhlcdeoaaGreatDoor
open Go.ChangeShapes Go.WideShapes Go.RowKit Go

theorem Tryz.ownRow : ownKnob Tryz.prog.godebug = none := by kernel_rfl
theorem Tryz.et : Tryz.prog.globalNamed "errors.errorType" = some 0 := by kernel_rfl
theorem Tryz.rt : (Tryz.prog.cutTypes.find? (·.1 == "internal/reflectlite.rtype")).map (·.2) = some 222 := by kernel_rfl
theorem Tryz.oneRow : ((List.range 325).filter fun t => Tryz.prog.rowNamed t [101, 114, 114, 111, 114]) = [29] := by kernel_rfl
theorem Tryz.tysize : Tryz.prog.types.size = 325 := by kernel_rfl

def laidHandle : List (String × DataW Unit) := [("errors.errorType", Rows.laid_errors_errorType)]

theorem laid_of_handles {W : World} (h' : handlesMet Tryz.prog laidHandle W) : Laid W := by
  obtain ⟨name, u, ty, e1, e2, e3, e4, e5⟩ := h' _ (List.mem_singleton.2 rfl)
  have en : name = [101, 114, 114, 111, 114] := (Option.some.inj e1).symm
  subst en
  obtain rfl := Option.some.inj (Tryz.rt.symm.trans e2)
  have hm : ty ∈ (List.range 325).filter fun t => Tryz.prog.rowNamed t [101, 114, 114, 111, 114] := List.mem_filter.2 ⟨List.mem_range.2 (by rw [← Tryz.tysize]; exact e3), e4⟩
  rw [Tryz.oneRow] at hm
  obtain rfl := List.mem_singleton.1 hm
  have hh : typeHandle Tryz.prog 29 = .pointer (some ⟨4, 29, none⟩) := by kernel_rfl
  rw [hh] at e5
  simpa [Laid] using World.var?_cell Tryz.et e5 0

/-- A world in which the handle and the data are laid. -/
noncomputable def handleWorld (os : Os) : World :=
  let w0 := World.holding Tryz.prog os ⟨#[], #[], []⟩
  { w0 with heap := w0.heap.modify 0 fun
      | .cells _ t frozen => .cells #[.iface 222 (.agg #[.pointer (some ⟨4, 29, none⟩)])] t frozen
      | o => o }

/-- Data laid over a world are met there. -/
theorem laidMet_over {P : Program} {w0 : World} {l : List (String × DataW Unit)} (hf : w0.layFits P l [] = true) (hi : w0.layIfaces P l (w0.layVars P l) = true) : laidMet P l (w0.layVars P l) := by
  have e1 : (l.filter fun x => (l.map (·.1)).contains x.1) = l := List.filter_eq_self.2 fun x hx => List.contains_iff_mem.2 (List.mem_map.2 ⟨x, hx, rfl⟩)
  have e2 : (l.filter fun x => !(l.map (·.1)).contains x.1) = [] := List.filter_eq_nil_iff.2 fun x hx => by rw [List.contains_iff_mem.2 (List.mem_map.2 ⟨x, hx, rfl⟩)]; simp
  exact laidMet_layVars (w0 := w0) (l.map (·.1)) [] (by rw [e1]) (by rw [e1]; exact hf) (by rw [e1]; exact hi) (by rw [e2]; exact LaidIn.none)
end Go.Proofs.YtknfaabhlcdeoaaGreatDoor
