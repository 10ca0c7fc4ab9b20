/- Blocks of cells known whole; no program. -/
import Derived.Test.YtknfaabhlcdeoaaGreatDoorBase
namespace Go.Proofs.YtknfaabhlcdeoaaGreatDoor
open Go Go.RowKit

/-- A block has just these cells, none frozen. -/
def Blk (w : World) (b : Nat) (t : TypeId) (cs : Array Value) : Prop := w.heap[b]? = some (.cells cs t (0, 0))
theorem Blk.cell {w : World} {b : Nat} {t : TypeId} {cs : Array Value} (h : Blk w b t cs) (i : Nat) {v : Value} (hi : cs[i]? = some v) : w.cell? ⟨b, i, none⟩ = some v := by
  rw [Blk] at h
  simp [World.cell?, h, hi]
theorem Blk.frozen {w : World} {b : Nat} {t : TypeId} {cs : Array Value} (h : Blk w b t cs) (i : Nat) : w.frozen? ⟨b, i, none⟩ = false := by
  rw [Blk] at h
  simp [World.frozen?, h]
theorem Blk.ext {w w' : World} {b : Nat} {t : TypeId} {cs : Array Value} (h : Blk w b t cs) (he : Ext w w') : Blk w' b t cs := he.block h
theorem Blk.new (w : World) (t : TypeId) (cs : Array Value) : Blk (w.alloc (.cells cs t)) w.heap.size t cs := by
  show (w.heap.push (.cells cs t))[w.heap.size]? = _
  simp
theorem Blk.lt {w : World} {b : Nat} {t : TypeId} {cs : Array Value} (h : Blk w b t cs) : b < w.heap.size := (Array.getElem?_eq_some_iff.1 h).1
theorem Blk.set {w : World} {b : Nat} {t : TypeId} {cs : Array Value} (h : Blk w b t cs) (i : Nat) (v : Value) : Blk (w.setCell ⟨b, i, none⟩ v) b t (cs.setIfInBounds i v) := by
  have h1 := h.lt
  rw [Blk] at h
  show (w.heap.modify b _)[b]? = _
  rw [Array.getElem?_modify, if_pos rfl, h]
  rfl
/-- One, two, three cells at once. -/
theorem Blk.one {w : World} {b : Nat} {t : TypeId} {x : Value} (h : Blk w b t #[x]) : w.cell? ⟨b, 0, none⟩ = some x ∧ w.frozen? ⟨b, 0, none⟩ = false := ⟨h.cell 0 rfl, h.frozen 0⟩
theorem Blk.two {w : World} {b : Nat} {t : TypeId} {x y : Value} (h : Blk w b t #[x, y]) : (w.cell? ⟨b, 0, none⟩ = some x ∧ w.frozen? ⟨b, 0, none⟩ = false) ∧ (w.cell? ⟨b, 1, none⟩ = some y ∧ w.frozen? ⟨b, 1, none⟩ = false) :=
  ⟨⟨h.cell 0 rfl, h.frozen 0⟩, ⟨h.cell 1 rfl, h.frozen 1⟩⟩
theorem Blk.three {w : World} {b : Nat} {t : TypeId} {x y z : Value} (h : Blk w b t #[x, y, z]) : (w.cell? ⟨b, 0, none⟩ = some x ∧ w.frozen? ⟨b, 0, none⟩ = false) ∧ (w.cell? ⟨b, 1, none⟩ = some y ∧ w.frozen? ⟨b, 1, none⟩ = false) ∧ (w.cell? ⟨b, 2, none⟩ = some z ∧ w.frozen? ⟨b, 2, none⟩ = false) :=
  ⟨⟨h.cell 0 rfl, h.frozen 0⟩, ⟨h.cell 1 rfl, h.frozen 1⟩, ⟨h.cell 2 rfl, h.frozen 2⟩⟩
theorem Blk.four {w : World} {b : Nat} {t : TypeId} {x y z u : Value} (h : Blk w b t #[x, y, z, u]) : (w.cell? ⟨b, 0, none⟩ = some x ∧ w.frozen? ⟨b, 0, none⟩ = false) ∧ (w.cell? ⟨b, 1, none⟩ = some y ∧ w.frozen? ⟨b, 1, none⟩ = false) ∧ (w.cell? ⟨b, 2, none⟩ = some z ∧ w.frozen? ⟨b, 2, none⟩ = false) ∧ (w.cell? ⟨b, 3, none⟩ = some u ∧ w.frozen? ⟨b, 3, none⟩ = false) :=
  ⟨⟨h.cell 0 rfl, h.frozen 0⟩, ⟨h.cell 1 rfl, h.frozen 1⟩, ⟨h.cell 2 rfl, h.frozen 2⟩, ⟨h.cell 3 rfl, h.frozen 3⟩⟩
theorem Blk.five {w : World} {b : Nat} {t : TypeId} {x y z u v : Value} (h : Blk w b t #[x, y, z, u, v]) : (w.cell? ⟨b, 0, none⟩ = some x ∧ w.frozen? ⟨b, 0, none⟩ = false) ∧ (w.cell? ⟨b, 1, none⟩ = some y ∧ w.frozen? ⟨b, 1, none⟩ = false) ∧ (w.cell? ⟨b, 2, none⟩ = some z ∧ w.frozen? ⟨b, 2, none⟩ = false) ∧ (w.cell? ⟨b, 3, none⟩ = some u ∧ w.frozen? ⟨b, 3, none⟩ = false) ∧ (w.cell? ⟨b, 4, none⟩ = some v ∧ w.frozen? ⟨b, 4, none⟩ = false) :=
  ⟨⟨h.cell 0 rfl, h.frozen 0⟩, ⟨h.cell 1 rfl, h.frozen 1⟩, ⟨h.cell 2 rfl, h.frozen 2⟩, ⟨h.cell 3 rfl, h.frozen 3⟩, ⟨h.cell 4 rfl, h.frozen 4⟩⟩
theorem setCell_same {w : World} {b i : Nat} {v : Value} (h : w.cell? ⟨b, i, none⟩ = some v) : w.setCell ⟨b, i, none⟩ v = w := by
  obtain ⟨heap, tape, drawn, os, output⟩ := w
  simp only [World.setCell]
  congr 1
  apply Array.ext_getElem?
  intro k
  rw [Array.getElem?_modify]
  split
  · rename_i e
    subst e
    simp only [World.cell?] at h
    split at h
    · rename_i c elem fr hc
      rw [hc]
      simp at h ⊢
      apply Array.ext_getElem?
      intro j
      rw [Array.getElem?_setIfInBounds]
      split
      · rename_i e; subst e
        split
        · exact h.symm
        · rename_i hge
          rw [Array.getElem?_eq_none (by omega)] at h
          cases h
      · rfl
    · cases h
  · rfl
end Go.Proofs.YtknfaabhlcdeoaaGreatDoor
