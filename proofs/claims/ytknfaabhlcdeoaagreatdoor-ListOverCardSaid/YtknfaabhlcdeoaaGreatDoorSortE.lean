/- slices.SortFunc at a row of entries that a call owns, by their paths. -/
import Derived.Test.YtknfaabhlcdeoaaGreatDoorLayB
import Derived.Test.YtknfaabhlcdeoaaGreatDoorEnt
import Derived.Test.YtknfaabhlcdeoaaGreatDoorShelf
import Derived.Lib.Hide
import Derived.Sort.OwnSorted
import Derived.Shelf.SlSortCmp.WholeK
namespace Go.Proofs.YtknfaabhlcdeoaaGreatDoor
open Go Go.RowKit Go.Shelf Go.Proofs Go.Sort

def Ent.cells (x : Ent) : List Value := [.string x.path, .int .i64 x.kind, .string x.data]
/-- The cells of entries. -/
def flatE (l : List Ent) : List Value := l.flatMap Ent.cells

theorem ents_cells (xs : List Ent) (j : Nat) (x : Ent) (hj : xs[j]? = some x) : ∀ (i : Nat) u, x.cells[i]? = some u → (flatE xs)[j * 3 + i]? = some u := by
  induction xs generalizing j with
  | nil => simp at hj
  | cons y ys ih =>
    intro i u hi
    rw [flatE, List.flatMap_cons]
    have hy : y.cells.length = 3 := rfl
    have hi3 : i < 3 := (List.getElem?_eq_some_iff.1 hi).1
    rcases j with _ | j
    · simp at hj
      subst hj
      rw [List.getElem?_append_left (by omega)]
      simpa using hi
    · rw [List.getElem?_append_right (by omega), hy, show (j + 1) * 3 + i - 3 = j * 3 + i by omega]
      exact ih j (by simpa using hj) i u hi
theorem ents_length (xs : List Ent) : (flatE xs).length = xs.length * 3 := by
  induction xs with
  | nil => rfl
  | cons x xs ih =>
    rw [flatE] at ih ⊢
    rw [List.flatMap_cons, List.length_append, ih, List.length_cons]
    show 3 + _ = _
    omega
theorem ents_one (xs : List Ent) : ∀ u ∈ flatE xs, u.oneCell' = true := by
  intro u hu
  obtain ⟨x, _, hx⟩ := List.mem_flatMap.1 hu
  simp [Ent.cells] at hx
  rcases hx with rfl | rfl | rfl <;> rfl
theorem ents_at (xs : List Ent) (k : Nat) (u : Value) (hk : (flatE xs)[k]? = some u) : ∃ j x i, xs[j]? = some x ∧ x.cells[i]? = some u ∧ k = j * 3 + i := by
  induction xs generalizing k with
  | nil => simp [flatE] at hk
  | cons y ys ih =>
    rw [flatE, List.flatMap_cons] at hk
    have hy : y.cells.length = 3 := rfl
    rcases Nat.lt_or_ge k 3 with h | h
    · rw [List.getElem?_append_left (by omega)] at hk
      exact ⟨0, y, k, rfl, hk, by omega⟩
    · rw [List.getElem?_append_right (by omega), hy] at hk
      obtain ⟨j, x, i, h1, h2, h3⟩ := ih (k - 3) hk
      exact ⟨j + 1, x, i, by simpa using h1, h2, by omega⟩

theorem flatK_flatE (xs : List Ent) [Inhabited Ent] : (flatK Ent.cells 3 xs.toArray).toList = flatE xs := by
  apply List.ext_getElem?
  intro t
  by_cases ht : t < xs.length * 3
  · have h1 : (flatK Ent.cells 3 xs.toArray).toList[t]? = some ((flatK Ent.cells 3 xs.toArray)[t]!) := by
      rw [Array.getElem?_toList, getElem!_pos (flatK Ent.cells 3 xs.toArray) t (by simpa using ht), Array.getElem?_eq_getElem]
    rw [h1, get_flatK _ _ _ _ (by simpa using ht)]
    have hj : t / 3 < xs.length := by omega
    have hx : xs.toArray[t / 3]! = xs[t / 3] := by
      rw [getElem!_pos xs.toArray (t / 3) (by simpa using hj)]
      simp
    rw [hx]
    have hi : t % 3 < (xs[t / 3]).cells.length := by show t % 3 < 3; omega
    have := ents_cells xs (t / 3) xs[t / 3] (List.getElem?_eq_getElem hj) (t % 3) _ (List.getElem?_eq_getElem hi)
    rw [show t / 3 * 3 + t % 3 = t by omega] at this
    rw [this, getElem!_pos (xs[t / 3]).cells (t % 3) hi]
  · rw [List.getElem?_eq_none (by simp; omega), List.getElem?_eq_none (by rw [ents_length]; omega)]

theorem take_putId (cur F : Array Value) (h : F.size ≤ cur.size) : (putCells id 0 F cur).toList.take F.size = F.toList := by
  apply List.ext_getElem?
  intro j
  by_cases hj : j < F.size
  · rw [List.getElem?_take_of_lt hj, Array.getElem?_toList]
    simp [putCells, hj, show j < cur.size by omega]
  · rw [List.getElem?_take_eq_none (by omega), List.getElem?_eq_none (by simp; omega)]

theorem heap_sortedK [Inhabited Ent] {w : World} {g n : Nat} {os : Array Obj} {cur : Array Value} {e : TypeId} {fr : Nat × Nat} (d : Array Ent) (hb : w.heap[g]? = some (.cells cur e fr)) :
    (sortWorldK Ent.cells 3 w g 0 n d os).heap[g]? = some (.cells (putCells id 0 (flatK Ent.cells 3 d) cur) e fr) := by
  have hg : g < w.heap.size := (Array.getElem?_eq_some_iff.1 hb).1
  rw [sortWorldK, putRowK, heap_grow_old _ _ (by simpa using hg)]
  simp [putRow, mapBlock, Sort.ahead, Array.getElem?_modify, hb, onCells]

theorem grownBy_sortedK [Inhabited Ent] {w : World} {g n : Nat} {os : Array Obj} (d : Array Ent) : w.grownBy (sortWorldK Ent.cells 3 w g 0 n d os) (some g) := by
  refine ⟨rfl, rfl, rfl, by simp [sortWorldK, putRowK], fun k hk hne => ?_⟩
  rw [sortWorldK, putRowK, heap_grow_old _ _ (by simpa using hk)]
  have : g ≠ k := fun e => hne (by rw [e])
  simp [putRow, mapBlock, Sort.ahead, Array.getElem?_modify, this]

/-- The order of entries. -/
def cmpE (a b : Ent) : Int := Lib.compareBytes a.path.data.toList b.path.data.toList
theorem ltOf_cmpE (a b : Ent) : ltOf cmpE a b = lt a.path b.path := by
  rw [Bool.eq_iff_iff, ltOf, decide_eq_true_eq, lt, decide_eq_true_eq, cmpE, compare_lt]
theorem swo_cmpE : SWO (ltOf cmpE) where
  irrefl x := by rw [ltOf_cmpE, lt_irrefl]
  trans x y z h1 h2 := by rw [ltOf_cmpE] at *; exact lt_trans h1 h2
  ntrans x y z h1 h2 := by
    rw [ltOf_cmpE] at *
    rcases h3 : lt x.path z.path with _ | _
    · rfl
    · rcases h4 : lt y.path x.path with _ | _
      · rw [lt_total h1 h4] at h3
        rw [h3] at h2
        cases h2
      · have := lt_trans h4 h3
        rw [this] at h2
        cases h2

/-- A closure that compares entries by their paths. -/
def CmpPaths (g : Nat) : Prop := ∀ (x y : Ent) (W : World), Calls Tryz.prog g #[.agg x.cells.toArray, .agg y.cells.toArray] W fun e w' => e = .returned (.int .i64 (cmpE x y)) ∧ ∃ q os', w' = grow (W.drewN q) os'

def SortAnsE (base : Nat) (v : Value) (xs : List Ent) (w : World) (e : Ending) (w' : World) : Prop :=
  e = .returned (.tuple #[]) ∧ ∃ ys, ys.Perm xs ∧ (ys.Pairwise fun a b => lt b.path a.path = false) ∧ w'.ownsRow base 33 3 v xs.length (flatE ys) ∧ (∀ row, v.ownBlock = row → w.grownBy w' row)

theorem sortE_any [Inhabited Ent] (g : Nat) (hg : CmpPaths g) (eg : ∀ args w, (callFunc g args).run Tryz.prog w = .ok (.enter g args) w) (base : Nat) (v : Value) (xs : List Ent) (w : World) (hrow : w.ownsRow base 33 3 v xs.length (flatE xs)) (hl : xs.length ≤ 1000000) :
    Calls Tryz.prog 77 #[v, .func (.func g) #[] #[]] w (SortAnsE base v xs w) := by
  rcases hrow.2 with ⟨rfl, hz⟩ | ⟨gb, cap, cur, rfl, hbase, hgb, r1, r2, r3, r4⟩
  · have hss : xs = [] := List.eq_nil_of_length_eq_zero hz
    subst hss
    have h := AnyF.slices_SortFunc_none Tryz.sortE none 0 (.func (.func g) #[] #[]) w
    change Calls Tryz.prog 77 _ _ _ at h
    refine h.mono ?_
    rintro e w' ⟨rfl, rfl⟩
    refine ⟨rfl, [], List.Perm.refl _, List.Pairwise.nil, hrow, fun row _ => ⟨rfl, rfl, rfl, Nat.le_refl _, fun _ _ _ => rfl⟩⟩
  · have hsz3 : (flatK Ent.cells 3 xs.toArray).size = xs.length * 3 := by simp
    have hH : HoldsK Ent.cells 3 w gb 0 xs.toArray := by
      intro j hj
      rw [hsz3] at hj
      refine ⟨?_, by simp [World.frozen?, hgb]⟩
      have h1 : (cur.toList.take (xs.length * 3))[j]? = (flatE xs)[j]? := by rw [r4]
      rw [List.getElem?_take_of_lt hj] at h1
      simp only [World.cell?, hgb, Nat.zero_add]
      simp only [Option.isSome_none, Bool.false_eq_true, if_false]
      rw [← Array.getElem?_toList, h1, ← flatK_flatE, Array.getElem?_toList, getElem!_pos (flatK Ent.cells 3 xs.toArray) j (by omega), Array.getElem?_eq_getElem]
      rfl
    have hgl : gb < w.heap.size := (Array.getElem?_eq_some_iff.1 hgb).1
    have h := AnyQ.slices_SortFunc Tryz.sortE 3 Tryz.isAgg33 Tryz.sizeOf33 Ent.cells (fun _ => rfl) (fun x v hv => by simp [Ent.cells] at hv; rcases hv with rfl | rfl | rfl <;> rfl) cmpE swo_cmpE g #[] gb 0 cap xs.toArray w eg (fun m os dk _ x y => by simpa using hg x y _) hH hgl (by simp; omega)
    change Calls Tryz.prog 77 _ _ _ at h
    rw [show xs.toArray.size = xs.length by simp] at h
    refine h.mono ?_
    rintro e w' ⟨rfl, d', nn, os, hp, hs, rfl⟩
    have hds : d'.size = xs.length := by have := hp.1; simpa using this
    have hperm : d'.toList.Perm xs := by
      have := hp.2.2
      rw [Array.extract_eq_self_of_le (by omega), Array.extract_eq_self_of_le (by simp)] at this
      simpa using this
    refine ⟨rfl, d'.toList, hperm, ?_, ⟨by rw [ents_length]; simp [hds], .inr ⟨gb, cap, _, rfl, hbase, heap_sortedK d' hgb, r1, r2, by simp [putCells, r3], ?_⟩⟩, fun row hr => ?_⟩
    · rw [List.pairwise_iff_getElem]
      intro i j hi hj hij
      have := hs i j (Nat.zero_le _) hij (by rw [Array.length_toList] at hj; omega)
      rw [ltOf_cmpE] at this
      rw [Array.length_toList] at hi hj
      rw [getElem!_pos d' j hj, getElem!_pos d' i hi] at this
      simpa using this
    · have h1 := take_putId cur (flatK Ent.cells 3 d') (by rw [size_flatK, hds, r3]; exact Nat.mul_le_mul_right 3 r1)
      rw [size_flatK, hds] at h1
      rw [h1]
      have := flatK_flatE d'.toList
      simpa using this
    · have : row = some gb := by rw [← hr]; rfl
      subst this
      exact grownBy_sortedK _
end Go.Proofs.YtknfaabhlcdeoaaGreatDoor
