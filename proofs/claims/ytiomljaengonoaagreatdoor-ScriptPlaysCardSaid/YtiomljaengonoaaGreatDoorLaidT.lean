/- The variable errors.errorType as it is laid. -/
import Derived.Test.YtiomljaengonoaaGreatDoorBase
namespace Go.Proofs.YtiomljaengonoaaGreatDoor
open Go Go.RowKit

/-- The handle of the type error is laid. -/
def Laid (w : World) : Prop := w.cell? ⟨0, 0, none⟩ = some (.iface 172 (.agg #[.pointer (some ⟨9, 26, none⟩)]))
theorem Laid.ext {w w' : World} (h : Laid w) (he : Ext w w') : Laid w' := he.cell h
end Go.Proofs.YtiomljaengonoaaGreatDoor
