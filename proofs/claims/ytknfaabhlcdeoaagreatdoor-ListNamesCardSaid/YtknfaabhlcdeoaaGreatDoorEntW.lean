/- Entries as cells of a row; no walk. -/
import Derived.Test.YtknfaabhlcdeoaaGreatDoorEnt
import Derived.Test.YtknfaabhlcdeoaaGreatDoorShelf
import Derived.Lib.Hide
import Derived.Sort.OwnSorted
namespace Go.Proofs.YtknfaabhlcdeoaaGreatDoor
open Go Go.RowKit Go.Shelf Go.Proofs Go.Sort

def Ent.cells (x : Ent) : List Value := [.string x.path, .int .i64 x.kind, .string x.data]
/-- The cells of entries. -/
def flatE (l : List Ent) : List Value := l.flatMap Ent.cells

theorem ents_cells (xs : List Ent) (j : Nat) (x : Ent) (hj : xs[j]? = some x) : ∀ (i : Nat) u, x.cells[i]? = some u → (flatE xs)[j * 3 + i]? = some u := by
  induction xs generalizing j with
  | nil => simp at hj
  | cons y ys ih =>
    intro i u hi
    rw [flatE, List.flatMap_cons]
    have hy : y.cells.length = 3 := rfl
    have hi3 : i < 3 := (List.getElem?_eq_some_iff.1 hi).1
    rcases j with _ | j
    · simp at hj
      subst hj
      rw [List.getElem?_append_left (by omega)]
      simpa using hi
    · rw [List.getElem?_append_right (by omega), hy, show (j + 1) * 3 + i - 3 = j * 3 + i by omega]
      exact ih j (by simpa using hj) i u hi
theorem ents_length (xs : List Ent) : (flatE xs).length = xs.length * 3 := by
  induction xs with
  | nil => rfl
  | cons x xs ih =>
    rw [flatE] at ih ⊢
    rw [List.flatMap_cons, List.length_append, ih, List.length_cons]
    show 3 + _ = _
    omega
theorem ents_one (xs : List Ent) : ∀ u ∈ flatE xs, u.oneCell' = true := by
  intro u hu
  obtain ⟨x, _, hx⟩ := List.mem_flatMap.1 hu
  simp [Ent.cells] at hx
  rcases hx with rfl | rfl | rfl <;> rfl
theorem ents_at (xs : List Ent) (k : Nat) (u : Value) (hk : (flatE xs)[k]? = some u) : ∃ j x i, xs[j]? = some x ∧ x.cells[i]? = some u ∧ k = j * 3 + i := by
  induction xs generalizing k with
  | nil => simp [flatE] at hk
  | cons y ys ih =>
    rw [flatE, List.flatMap_cons] at hk
    have hy : y.cells.length = 3 := rfl
    rcases Nat.lt_or_ge k 3 with h | h
    · rw [List.getElem?_append_left (by omega)] at hk
      exact ⟨0, y, k, rfl, hk, by omega⟩
    · rw [List.getElem?_append_right (by omega), hy] at hk
      obtain ⟨j, x, i, h1, h2, h3⟩ := ih (k - 3) hk
      exact ⟨j + 1, x, i, by simpa using h1, h2, by omega⟩

theorem info_ent : (Tryz.prog.info? 33).map (fun i => (i.zero, i.size, i.bytes)) = some (some (.agg #[.string ⟨#[]⟩, .int .i64 0, .string ⟨#[]⟩]), 3, 40) := by kernel_rfl

theorem RdE.of_own {w : World} {base e : Nat} {v : Value} {xs : List Ent} (h : w.ownsRow base e 3 v xs.length (flatE xs)) (hl : xs.length ≤ 1000000000) (hf : ∀ x ∈ xs, x.fits) : RdE w v xs :=
  Rd.of_own h (by omega) fun j x hj => ⟨x.cells, ⟨rfl, hf x (List.mem_of_getElem? hj)⟩, ents_cells xs j x hj⟩
theorem RdE.fits {w : World} {v : Value} {xs : List Ent} (h : RdE w v xs) : ∀ x ∈ xs, x.fits := by
  intro x hx
  obtain ⟨j, hj, rfl⟩ := List.getElem_of_mem hx
  obtain ⟨b, o, c, _, _, _, hc⟩ := RdE.open_ h (List.ne_nil_of_mem hx)
  exact (hc j hj).2.2.2

variable {xs : List Ent} {x : Ent}
theorem flatI_snoc : flatE (xs ++ [x]) = flatE xs ++ [.string x.path, .int .i64 x.kind, .string x.data] := by simp [flatE, Ent.cells]
end Go.Proofs.YtknfaabhlcdeoaaGreatDoor
