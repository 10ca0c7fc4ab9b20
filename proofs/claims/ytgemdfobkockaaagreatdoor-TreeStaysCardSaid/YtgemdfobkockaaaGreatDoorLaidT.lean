/- The variable errors.errorType as it is laid. -/
import Derived.Test.YtgemdfobkockaaaGreatDoorBase
namespace Go.Proofs.YtgemdfobkockaaaGreatDoor
open Go Go.RowKit

/-- The handle of the type error is laid. -/
def Laid (w : World) : Prop := w.cell? ⟨0, 0, none⟩ = some (.iface 201 (.agg #[.pointer (some ⟨4, 27, none⟩)]))
theorem Laid.ext {w w' : World} (h : Laid w) (he : Ext w w') : Laid w' := he.cell h
end Go.Proofs.YtgemdfobkockaaaGreatDoor
