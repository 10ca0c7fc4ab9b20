/- The variable errors.errorType as it is laid. -/
import Derived.Test.YtknfaabhlcdeoaaGreatDoorBase
namespace Go.Proofs.YtknfaabhlcdeoaaGreatDoor
open Go Go.RowKit

/-- The handle of the type error is laid. -/
def Laid (w : World) : Prop := w.cell? ⟨0, 0, none⟩ = some (.iface 222 (.agg #[.pointer (some ⟨4, 29, none⟩)]))
theorem Laid.ext {w w' : World} (h : Laid w) (he : Ext w w') : Laid w' := he.cell h
end Go.Proofs.YtknfaabhlcdeoaaGreatDoor
