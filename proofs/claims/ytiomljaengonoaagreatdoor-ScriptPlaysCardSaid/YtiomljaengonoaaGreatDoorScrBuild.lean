/- The acts of a law's input handed over, one by one: the round that all laws of chapter 25 share. -/
import Derived.Test.YtiomljaengonoaaGreatDoorScrLay
import Derived.Test.YtiomljaengonoaaGreatDoorScrAwake
import Derived.Test.YtiomljaengonoaaGreatDoorScrLaw2
namespace Go.Proofs.YtiomljaengonoaaGreatDoor
open Go Go.RowKit Go.Shelf Go.Proofs Go.Maps

def BuildRel (w0 : World) (base : Nat) (l : List ActP) (m i : Value) (wr : World) : Prop := ∃ k : Nat, i = .int .i64 k ∧ k ≤ l.length ∧ Ext w0 wr ∧ wr.ownsRow base 48 5 m k ((l.take k).flatMap ActP.cells)

theorem build_own {w1 : World} {base k : Nat} {l : List ActP} {a : ActP} {v' : Value} (hk : k < l.length) (ha : l[k] = a) (h : w1.ownsRow base 48 5 v' (k + 1) ((l.take k).flatMap ActP.cells ++ a.cells)) : w1.ownsRow base 48 5 v' (k + 1) ((l.take (k + 1)).flatMap ActP.cells) := by
  rw [List.take_add_one, List.getElem?_eq_getElem hk, ha, Option.toList_some, List.flatMap_append, List.flatMap_cons, List.flatMap_nil, List.append_nil]
  exact h

theorem build_done {w : World} {base k : Nat} {l : List ActP} {v : Value} (h : w.ownsRow base 48 5 v k ((l.take k).flatMap ActP.cells)) (hk : k = l.length) (hl : l.length ≤ 60) (hf : ∀ a ∈ l, a.fits) : RdA w v l := by
  subst hk
  rw [List.take_length] at h
  exact RdA.of_own h (by omega) hf

theorem few_fits {w : World} {v : Value} {l : List ActP} (hv : RdW w v l) (hf : fewP l = true) : l.length ≤ 60 ∧ ∀ a ∈ l, a.fits := by
  simp only [fewP, Bool.and_eq_true, decide_eq_true_eq] at hf
  refine ⟨hf.1, fun a ha => ?_⟩
  obtain ⟨j, hj, rfl⟩ := List.getElem_of_mem ha
  obtain ⟨b, o, c, _, _, _, hc⟩ := RdW.at_ hv (by intro e; rw [e] at hj; simp at hj)
  obtain ⟨_, _, _, _, _, hi⟩ := hc j hj
  exact small_fits (List.all_eq_true.1 hf.2 _ ha) hi
end Go.Proofs.YtiomljaengonoaaGreatDoor
