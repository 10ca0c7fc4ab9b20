/- slices.Sort at a row of texts that a call owns. -/
import Derived.Test.YtknfaabhlcdeoaaGreatDoorLayK
import Derived.Test.YtknfaabhlcdeoaaGreatDoorRd
import Derived.Sort.OwnSorted
namespace Go.Proofs.YtknfaabhlcdeoaaGreatDoor
open Go Go.RowKit Go.Shelf Go.Proofs Go.Sort

def SortAnsS (base : Nat) (v : Value) (ss : List (List UInt8)) (w : World) (e : Ending) (w' : World) : Prop :=
  e = .returned (.tuple #[]) ∧ w'.ownsRow base 9 1 v ss.length ((ss.mergeSort fun x y => decide (x ≤ y)).map encStr) ∧ (∀ row, v.ownBlock = row → w.grownBy w' row)

theorem sortS_any (base : Nat) (v : Value) (ss : List (List UInt8)) (w : World) (hrow : w.ownsRow base 9 1 v ss.length (ss.map encStr)) (hl : ss.length ≤ 1000000) :
    Calls Tryz.prog 59 #[v] w (SortAnsS base v ss w) := by
  rcases hrow.2 with ⟨rfl, hz⟩ | ⟨gb, cap, cur, rfl, hbase, hgb, r1, r2, r3, r4⟩
  · have hss : ss = [] := List.eq_nil_of_length_eq_zero hz
    subst hss
    have h := Any.slices_Sort_string_none Tryz.lays190 none 0 w
    change Calls Tryz.prog 59 _ _ _ at h
    refine h.mono ?_
    rintro e w' ⟨rfl, rfl⟩
    refine ⟨rfl, by simpa using hrow, fun row _ => ⟨rfl, rfl, rfl, Nat.le_refl _, fun _ _ _ => rfl⟩⟩
  · have hH : Holds encStr w gb 0 ss.toArray := holds_of_block hgb (by simpa using r4)
    have hgl : gb < w.heap.size := (Array.getElem?_eq_some_iff.1 hgb).1
    have h := Any.slices_Sort_string Tryz.lays190 gb 0 cap ss w hH hgl (by omega)
    change Calls Tryz.prog 59 _ _ _ at h
    refine h.mono ?_
    rintro e w' ⟨rfl, nn, os, rfl⟩
    refine ⟨rfl, ownsRow_sorted (by simp) hbase hgb r1 r2 r3, fun row hr => ?_⟩
    have : row = some gb := by rw [← hr]; rfl
    subst this
    exact grownBy_sorted _
end Go.Proofs.YtknfaabhlcdeoaaGreatDoor
