/- Plain facts of the folded stack, and what a list of entries is answered as. -/
import Derived.Test.YtknfaabhlcdeoaaGreatDoorEntW
import Derived.Test.YtknfaabhlcdeoaaGreatDoorUnder
namespace Go.Proofs.YtknfaabhlcdeoaaGreatDoor
open Go Go.RowKit Go.Shelf Go.Proofs

/-- What stays of a tree. -/
def stayT (l : List Ent) (e : Ent) : List Ent := l.filter fun x => !goesB e x

theorem rising_over {t : List Ent} (hr : Rising t) : ∀ l : List Ent, Rising (overT t l) := fun l => by
  induction l generalizing t with
  | nil => exact hr
  | cons e l ih => exact ih (rising_one_ t hr e)

theorem mem_fits {t : List Ent} (h : MemT t) : ∀ x ∈ t, x.fits := fun x hx => entOk_fits (h x hx).1

theorem path_size {e : Ent} (h : entOk e = true) : e.path.size ≤ 55 := by
  obtain ⟨ys, z, _, _, h3, h4, h5, h6⟩ := ent_names h
  rw [h6]
  exact pathOf_size (by rw [List.all_append, h3]; simpa using h4) (by rw [List.length_append, List.length_singleton]; omega)

def RdAns (l : List Ent) (w : World) (e : Ending) (w' : World) : Prop := ∃ v, e = .returned v ∧ RdE w' v l ∧ Ext w w'

end Go.Proofs.YtknfaabhlcdeoaaGreatDoor
