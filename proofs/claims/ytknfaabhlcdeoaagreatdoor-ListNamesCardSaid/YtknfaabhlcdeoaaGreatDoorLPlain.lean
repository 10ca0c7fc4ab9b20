/- What a layer is, in plain Lean; no program. -/
import Derived.Test.YtknfaabhlcdeoaaGreatDoorLayer
namespace Go.Proofs.YtknfaabhlcdeoaaGreatDoor
open Go Go.RowKit

/-- The directory of a path; nothing, if it has none. -/
def dirOf (p : ByteArray) : ByteArray := match names p with
  | none => ⟨#[]⟩
  | some xs => if xs = [] then ⟨#[]⟩ else pathOf xs.dropLast

/-- Whether the entry is one, and stands behind the one ahead of it. -/
def headOk (l : List Ent) (i : Nat) (x : Ent) : Bool :=
  entOk x && (match i with | 0 => true | j + 1 => (match l[j]? with | some y => lt y.path x.path | none => true))
/-- Whether a directory holds it. -/
def dirOk (l : List Ent) (i : Nat) (x : Ent) : Bool :=
  decide (dirOf x.path = ⟨#[47]⟩) || (l.take i).any fun y => decide (y.path = dirOf x.path) && holds y
def okAt (l : List Ent) (i : Nat) (x : Ent) : Bool := headOk l i x && dirOk l i x
def layerOk (l : List Ent) : Bool := decide (l.length ≤ 64) && l.zipIdx.all fun z => okAt l z.2 z.1

theorem layerOk_of {l : List Ent} (h : l.length ≤ 64) (hall : ∀ (t : Nat) (h : t < l.length), okAt l t l[t] = true) : layerOk l = true := by
  simp only [layerOk, Bool.and_eq_true, decide_eq_true_eq, List.all_eq_true]
  refine ⟨h, ?_⟩
  rintro ⟨x, i⟩ hm
  obtain ⟨hi, e⟩ := List.mem_zipIdx' hm
  show okAt l i x = true
  rw [e]
  exact hall _ hi

theorem layerOk_len {l : List Ent} (h : layerOk l = true) : l.length ≤ 64 := by
  simp only [layerOk, Bool.and_eq_true, decide_eq_true_eq] at h
  exact h.1

theorem layerOk_at {l : List Ent} (h : layerOk l = true) (t : Nat) (ht : t < l.length) : okAt l t l[t] = true := by
  simp only [layerOk, Bool.and_eq_true, decide_eq_true_eq, List.all_eq_true] at h
  refine h.2 (l[t], t) ?_
  rw [List.mem_zipIdx_iff_getElem?]
  exact List.getElem?_eq_getElem ht

theorem layerOk_not {l : List Ent} {t : Nat} (ht : t < l.length) (h : okAt l t l[t] = false) : layerOk l = false := by
  cases e : layerOk l
  · rfl
  · rw [layerOk_at e t ht] at h; cases h

theorem layerOk_long {l : List Ent} (h : ¬ l.length ≤ 64) : layerOk l = false := by
  cases e : layerOk l
  · rfl
  · exact absurd (layerOk_len e) h

theorem okAt_head {l : List Ent} {t : Nat} {x : Ent} (h : okAt l t x = true) : headOk l t x = true := by
  rw [okAt, Bool.and_eq_true] at h; exact h.1

theorem rising_of {l : List Ent} {k : Nat} (hall : ∀ (t : Nat) (h : t < l.length), t < k → okAt l t l[t] = true) : Rising (l.take k) := by
  have H : ∀ (j i : Nat) (hj : j < l.length) (hij : i < j), j < k → lt (l[i]'(by omega)).path l[j].path = true := by
    intro j
    induction j with
    | zero => intro i _ hij; omega
    | succ j ih =>
      intro i hj hij hk
      have h1 := okAt_head (hall (j + 1) hj hk)
      rw [headOk, Bool.and_eq_true] at h1
      have h2 := h1.2
      simp only [List.getElem?_eq_getElem (show j < l.length by omega)] at h2
      rcases Nat.lt_or_ge i j with h3 | h3
      · exact lt_trans (ih i (by omega) h3 (by omega)) h2
      · have : i = j := by omega
        subst this
        exact h2
  refine List.pairwise_iff_getElem.2 fun i j hi hj hij => ?_
  rw [List.length_take] at hi hj
  rw [List.getElem_take, List.getElem_take]
  exact H j i (by omega) hij (by omega)

theorem layerOk_rising {l : List Ent} (h : layerOk l = true) : Rising l := by
  have := rising_of (l := l) (k := l.length) fun t ht _ => layerOk_at h t ht
  rwa [List.take_length] at this

theorem any_none {l : List Ent} {p : ByteArray} {k : Nat} (hr : Rising l) (h : AtIs l p k false) : ∀ y ∈ l, y.path ≠ p := by
  obtain ⟨h1, h2, h3, h4⟩ := h
  intro y hy e
  obtain ⟨j, hj, rfl⟩ := List.getElem_of_mem hy
  rcases Nat.lt_or_ge j k with hk | hk
  · exact lt_ne (h2 j hj hk) e
  · rcases Nat.lt_or_ge k j with hk2 | hk2
    · have := hr.at_ hk2 hj
      rw [e] at this
      rw [h3 k (by omega) (Nat.le_refl _)] at this
      cases this
    · have : j = k := by omega
      subst this
      have := h4.2 ⟨hj, e⟩
      cases this

theorem at_one {l : List Ent} {p : ByteArray} {k : Nat} (hr : Rising l) (h : AtIs l p k true) : ∃ hk : k < l.length, l[k].path = p ∧ ∀ y ∈ l, y.path = p → y = l[k] := by
  obtain ⟨h1, h2, h3, h4⟩ := h
  obtain ⟨hk, e⟩ := h4.1 rfl
  refine ⟨hk, e, fun y hy ey => ?_⟩
  obtain ⟨j, hj, rfl⟩ := List.getElem_of_mem hy
  rcases Nat.lt_or_ge j k with h | h
  · have := hr.at_ h hk
    exact absurd (ey.trans e.symm) (lt_ne this)
  · rcases Nat.lt_or_ge k j with h' | h'
    · have := hr.at_ h' hj
      exact absurd (e.trans ey.symm) (lt_ne this)
    · have : j = k := by omega
      subst this
      rfl

theorem dirOk_none {l : List Ent} {i k : Nat} {x : Ent} (hr : Rising (l.take i)) (hd : dirOf x.path ≠ ⟨#[47]⟩) (h : AtIs (l.take i) (dirOf x.path) k false) : dirOk l i x = false := by
  rw [dirOk, decide_eq_false hd, Bool.false_or]
  rw [List.any_eq_false]
  intro y hy
  simp [any_none hr h y hy]

theorem dirOk_at {l : List Ent} {i k : Nat} {x : Ent} (hr : Rising (l.take i)) (hd : dirOf x.path ≠ ⟨#[47]⟩) (h : AtIs (l.take i) (dirOf x.path) k true) : ∃ hk : k < l.length, k < i ∧ dirOk l i x = holds l[k] := by
  obtain ⟨hk, e, hu⟩ := at_one hr h
  have hk2 := hk
  rw [List.length_take] at hk2
  refine ⟨by omega, by omega, ?_⟩
  rw [dirOk, decide_eq_false hd, Bool.false_or]
  rw [List.getElem_take] at e hu
  cases hh : holds l[k]
  · rw [List.any_eq_false]
    intro y hy
    by_cases ey : y.path = dirOf x.path
    · rw [hu y hy ey, hh]; simp
    · simp [ey]
  · rw [List.any_eq_true]
    refine ⟨(l.take i)[k], List.getElem_mem hk, ?_⟩
    rw [List.getElem_take, e, hh]
    simp

theorem entOk_names {x : Ent} (h : entOk x = true) : ∃ xs z, names x.path = some (xs ++ [z]) ∧ dirOf x.path = pathOf xs := by
  rw [entOk, Bool.and_eq_true, decide_eq_true_eq] at h
  have h1 := h.1
  rw [deep] at h1
  rcases hn : names x.path with _ | xs
  · rw [hn] at h1; revert h1; simp
  · rw [hn] at h1
    have hne : xs ≠ [] := by
      rintro rfl
      revert h1; simp
    refine ⟨xs.dropLast, xs.getLast hne, by rw [List.dropLast_concat_getLast], ?_⟩
    rw [dirOf, hn]
    simp only [if_neg hne]

theorem headOk_ent {l : List Ent} {i : Nat} {x : Ent} (h : headOk l i x = true) : entOk x = true := by
  unfold headOk at h; rw [Bool.and_eq_true] at h; exact h.1

theorem holds_of_dir {x : Ent} {l : List Ent} {i : Nat} (h : dirOf x.path = ⟨#[47]⟩) : dirOk l i x = true := by
  rw [dirOk, decide_eq_true h, Bool.true_or]

theorem okAt_bad {l : List Ent} {i : Nat} {x : Ent} (h : headOk l i x = false) : okAt l i x = false := by rw [okAt, h, Bool.false_and]
theorem okAt_dir {l : List Ent} {i : Nat} {x : Ent} (h : headOk l i x = true) : okAt l i x = dirOk l i x := by rw [okAt, h, Bool.true_and]
theorem headOk_zero {l : List Ent} {x : Ent} : headOk l 0 x = entOk x := by rw [headOk, Bool.and_true]
theorem headOk_succ {l : List Ent} {j : Nat} {x : Ent} (h : j < l.length) : headOk l (j + 1) x = (entOk x && lt l[j].path x.path) := by
  simp only [headOk, List.getElem?_eq_getElem h]
end Go.Proofs.YtknfaabhlcdeoaaGreatDoor
