/- Trees and layers by their entries, in plain Lean; no program. -/
import Derived.Test.YtknfaabhlcdeoaaGreatDoorLNW
namespace Go.Proofs.YtknfaabhlcdeoaaGreatDoor
open Go Go.RowKit

theorem lt_prefix : ∀ (l : List UInt8) (c : UInt8) (m : List UInt8), l < l ++ c :: m
  | [], c, m => by simp
  | x :: l, c, m => by
    rw [List.cons_append, List.cons_lt_cons_iff]
    exact .inr ⟨rfl, lt_prefix l c m⟩

theorem path_lt {xs : List ByteArray} (hx : xs ≠ []) (z : ByteArray) : lt (pathOf xs) (pathOf (xs ++ [z])) = true := by
  rcases xs with _ | ⟨y, ys⟩
  · exact absurd rfl hx
  · rw [lt, decide_eq_true_eq, pathOf, if_neg (by simp), pathOf, if_neg (by simp), toList_B, toList_B, List.map_append, List.map_cons, List.map_singleton, join_snoc, ← List.cons_append]
    exact lt_prefix _ _ _

theorem pathOf_root {xs : List ByteArray} (h : xs.all nameB = true) (hl : xs.length ≤ 6) : pathOf xs = ⟨#[47]⟩ ↔ xs = [] := by
  constructor
  · intro e
    exact pathOf_inj h hl (ys := []) rfl (by simp) (by rw [e]; rfl)
  · rintro rfl
    rfl

/-- What an entry's names are. -/
theorem ent_names {x : Ent} (h : entOk x = true) : ∃ ys z, names x.path = some (ys ++ [z]) ∧ dirOf x.path = pathOf ys ∧ ys.all nameB = true ∧ nameB z = true ∧ ys.length ≤ 5 ∧ x.path = pathOf (ys ++ [z]) := by
  obtain ⟨ys, z, h1, h2⟩ := entOk_names h
  obtain ⟨hall, hl, hp⟩ := names_some h1
  rw [List.all_append, Bool.and_eq_true] at hall
  rw [List.length_append, List.length_singleton] at hl
  exact ⟨ys, z, h1, h2, hall.1, by simpa using hall.2, by omega, hp.symm⟩

theorem dir_lt {x : Ent} (h : entOk x = true) (hd : dirOf x.path ≠ ⟨#[47]⟩) : lt (dirOf x.path) x.path = true := by
  obtain ⟨ys, z, _, h2, h3, _, h5, h6⟩ := ent_names h
  rw [h2, h6]
  refine path_lt ?_ z
  rintro rfl
  exact hd (by rw [h2]; rfl)

/-- A directory of the list holds what lies at a path. -/
def HoldIn (l : List Ent) (p : ByteArray) : Prop := dirOf p = ⟨#[47]⟩ ∨ ∃ y ∈ l, y.path = dirOf p ∧ holds y = true

theorem okAt_iff {l : List Ent} : (∀ (t : Nat) (h : t < l.length), okAt l t l[t] = true) ↔ Rising l ∧ ∀ x ∈ l, entOk x = true ∧ HoldIn l x.path := by
  constructor
  · intro h
    refine ⟨?_, fun x hx => ?_⟩
    · have := rising_of (l := l) (k := l.length) fun t ht _ => h t ht
      rwa [List.take_length] at this
    · obtain ⟨t, ht, rfl⟩ := List.getElem_of_mem hx
      have h1 := h t ht
      rw [okAt, Bool.and_eq_true] at h1
      refine ⟨headOk_ent h1.1, ?_⟩
      have h2 := h1.2
      rw [dirOk, Bool.or_eq_true, decide_eq_true_eq, List.any_eq_true] at h2
      rcases h2 with h2 | ⟨y, hy, hyp⟩
      · exact .inl h2
      · rw [Bool.and_eq_true, decide_eq_true_eq] at hyp
        exact .inr ⟨y, List.mem_of_mem_take hy, hyp.1, hyp.2⟩
  · rintro ⟨hr, h⟩ t ht
    obtain ⟨h1, h2⟩ := h l[t] (List.getElem_mem ht)
    rw [okAt, Bool.and_eq_true]
    constructor
    · rcases t with _ | j
      · rw [headOk_zero, h1]
      · rw [headOk_succ (by omega), h1, Bool.true_and]
        exact hr.at_ (by omega) ht
    · rw [dirOk, Bool.or_eq_true, decide_eq_true_eq, List.any_eq_true]
      by_cases hd : dirOf l[t].path = ⟨#[47]⟩
      · exact .inl hd
      · rcases h2 with h2 | ⟨y, hy, hyp, hyh⟩
        · exact absurd h2 hd
        · right
          obtain ⟨j, hj, rfl⟩ := List.getElem_of_mem hy
          refine ⟨l[j], ?_, by rw [hyp, hyh]; simp⟩
          have hlt := dir_lt h1 hd
          rw [← hyp] at hlt
          have hjt : j < t := by
            rcases Nat.lt_trichotomy j t with h | h | h
            · exact h
            · subst h
              rw [lt_irrefl] at hlt
              cases hlt
            · have := hr.at_ h hj
              rw [lt_asymm this] at hlt
              cases hlt
          exact List.mem_of_getElem? (i := j) (by rw [List.getElem?_take_of_lt hjt]; exact List.getElem?_eq_getElem hj)

theorem layerOk_iff {l : List Ent} : layerOk l = true ↔ l.length ≤ 64 ∧ Rising l ∧ ∀ x ∈ l, entOk x = true ∧ HoldIn l x.path := by
  constructor
  · intro h
    exact ⟨layerOk_len h, okAt_iff.1 fun t ht => layerOk_at h t ht⟩
  · rintro ⟨h, h2⟩
    exact layerOk_of h (okAt_iff.2 h2)

/-- Whether a list is a tree. -/
def tokAt (l : List Ent) (i : Nat) (x : Ent) : Bool := okAt l i x && decide (x.kind ≤ 2)
def treeOk (l : List Ent) : Bool := decide (l.length ≤ 1024) && l.zipIdx.all fun z => tokAt l z.2 z.1

theorem treeOk_of {l : List Ent} (h : l.length ≤ 1024) (hall : ∀ (t : Nat) (h : t < l.length), tokAt l t l[t] = true) : treeOk l = true := by
  simp only [treeOk, Bool.and_eq_true, decide_eq_true_eq, List.all_eq_true]
  refine ⟨h, ?_⟩
  rintro ⟨x, i⟩ hm
  obtain ⟨hi, e⟩ := List.mem_zipIdx' hm
  show tokAt l i x = true
  rw [e]
  exact hall _ hi
theorem treeOk_len {l : List Ent} (h : treeOk l = true) : l.length ≤ 1024 := by
  simp only [treeOk, Bool.and_eq_true, decide_eq_true_eq] at h
  exact h.1
theorem treeOk_at {l : List Ent} (h : treeOk l = true) (t : Nat) (ht : t < l.length) : tokAt l t l[t] = true := by
  simp only [treeOk, Bool.and_eq_true, decide_eq_true_eq, List.all_eq_true] at h
  refine h.2 (l[t], t) ?_
  rw [List.mem_zipIdx_iff_getElem?]
  exact List.getElem?_eq_getElem ht
theorem treeOk_not {l : List Ent} {t : Nat} (ht : t < l.length) (h : tokAt l t l[t] = false) : treeOk l = false := by
  cases e : treeOk l
  · rfl
  · rw [treeOk_at e t ht] at h; cases h
theorem treeOk_long {l : List Ent} (h : ¬ l.length ≤ 1024) : treeOk l = false := by
  cases e : treeOk l
  · rfl
  · exact absurd (treeOk_len e) h

/-- A directory of the tree holds what lies at a path. -/
def DirIn (l : List Ent) (p : ByteArray) : Prop := dirOf p = ⟨#[47]⟩ ∨ ∃ y ∈ l, y.path = dirOf p ∧ y.kind = 2

theorem entOk_kind {x : Ent} (h : entOk x = true) : 1 ≤ x.kind ∧ x.kind ≤ 4 := by
  rw [entOk, Bool.and_eq_true] at h
  have h2 := h.2
  split at h2
  · omega
  · simp only [Bool.and_eq_true, decide_eq_true_eq] at h2
    omega

theorem treeOk_iff {l : List Ent} : treeOk l = true ↔ l.length ≤ 1024 ∧ Rising l ∧ ∀ x ∈ l, entOk x = true ∧ x.kind ≤ 2 ∧ DirIn l x.path := by
  have key : (∀ (t : Nat) (h : t < l.length), tokAt l t l[t] = true) ↔ (∀ (t : Nat) (h : t < l.length), okAt l t l[t] = true) ∧ ∀ x ∈ l, x.kind ≤ 2 := by
    constructor
    · intro h
      refine ⟨fun t ht => ?_, fun x hx => ?_⟩
      · have := h t ht
        rw [tokAt, Bool.and_eq_true] at this
        exact this.1
      · obtain ⟨t, ht, rfl⟩ := List.getElem_of_mem hx
        have := h t ht
        rw [tokAt, Bool.and_eq_true, decide_eq_true_eq] at this
        exact this.2
    · rintro ⟨h1, h2⟩ t ht
      rw [tokAt, Bool.and_eq_true, decide_eq_true_eq]
      exact ⟨h1 t ht, h2 _ (List.getElem_mem ht)⟩
  have hhold : (∀ x ∈ l, x.kind ≤ 2) → (∀ x ∈ l, entOk x = true) → ∀ p, HoldIn l p ↔ DirIn l p := fun hk he p => by
    unfold HoldIn DirIn
    refine or_congr Iff.rfl ⟨?_, ?_⟩
    · rintro ⟨y, hy, h1, h2⟩
      refine ⟨y, hy, h1, ?_⟩
      have h3 := hk y hy
      simp only [holds, Bool.or_eq_true, beq_iff_eq] at h2
      omega
    · rintro ⟨y, hy, h1, h2⟩
      exact ⟨y, hy, h1, by simp [holds, h2]⟩
  constructor
  · intro h
    obtain ⟨h1, h2⟩ := key.1 fun t ht => treeOk_at h t ht
    obtain ⟨h3, h4⟩ := okAt_iff.1 h1
    exact ⟨treeOk_len h, h3, fun x hx => ⟨(h4 x hx).1, h2 x hx, (hhold h2 (fun x hx => (h4 x hx).1) _).1 (h4 x hx).2⟩⟩
  · rintro ⟨h1, h2, h3⟩
    have hk : ∀ x ∈ l, x.kind ≤ 2 := fun x hx => (h3 x hx).2.1
    have he : ∀ x ∈ l, entOk x = true := fun x hx => (h3 x hx).1
    exact treeOk_of h1 (key.2 ⟨okAt_iff.2 ⟨h2, fun x hx => ⟨he x hx, (hhold hk he _).2 (h3 x hx).2.2⟩⟩, hk⟩)

theorem treeOk_rising {l : List Ent} (h : treeOk l = true) : Rising l := (treeOk_iff.1 h).2.1

/-- In a rising list a path stands once. -/
theorem rising_one {l : List Ent} (h : Rising l) {x y : Ent} (hx : x ∈ l) (hy : y ∈ l) (e : x.path = y.path) : x = y := by
  obtain ⟨i, hi, rfl⟩ := List.getElem_of_mem hx
  obtain ⟨j, hj, rfl⟩ := List.getElem_of_mem hy
  rcases Nat.lt_trichotomy i j with h1 | h1 | h1
  · exact absurd e (lt_ne (h.at_ h1 hj))
  · subst h1; rfl
  · exact absurd e.symm (lt_ne (h.at_ h1 hi))

/-- What the map of directories says ahead of the i-th entry. -/
def heldB (l : List Ent) (i : Nat) (z : ByteArray) : Bool := decide (z = ⟨#[47]⟩) || (l.take i).any fun y => decide (y.path = z) && holds y

theorem heldB_dir {l : List Ent} {i : Nat} {x : Ent} : heldB l i (dirOf x.path) = dirOk l i x := rfl

theorem heldB_succ {l : List Ent} {i : Nat} (hi : i < l.length) (z : ByteArray) : heldB l (i + 1) z = (heldB l i z || (decide (l[i].path = z) && holds l[i])) := by
  rw [heldB, heldB, ← List.take_append_getElem hi, List.any_append]
  simp [Bool.or_assoc]

/-- The entry's own path is held by none ahead of it. -/
theorem heldB_own {l : List Ent} {i : Nat} (hi : i < l.length) (hr : Rising (l.take (i + 1))) (he : entOk l[i] = true) : heldB l i l[i].path = false := by
  obtain ⟨ys, z, h1, _⟩ := ent_names he
  have hroot : l[i].path ≠ ⟨#[47]⟩ := fun e => by
    rw [e, names_root] at h1
    have := Option.some.inj h1
    simp at this
  rw [heldB, decide_eq_false hroot, Bool.false_or, List.any_eq_false]
  intro y hy
  obtain ⟨j, hj, rfl⟩ := List.getElem_of_mem hy
  rw [List.length_take] at hj
  have := hr.at_ (i := j) (j := i) (by omega) (by rw [List.length_take]; omega)
  rw [List.getElem_take, List.getElem_take] at this
  rw [List.getElem_take, decide_eq_false (lt_ne this)]
  simp
end Go.Proofs.YtknfaabhlcdeoaaGreatDoor
