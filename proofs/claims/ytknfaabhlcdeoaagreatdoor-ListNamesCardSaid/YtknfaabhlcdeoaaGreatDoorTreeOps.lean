/- What is done to a tree, in plain Lean; no program. -/
import Derived.Test.YtknfaabhlcdeoaaGreatDoorTreeW
namespace Go.Proofs.YtknfaabhlcdeoaaGreatDoor
open Go Go.RowKit

/-- Rising lists of the same entries are one. -/
theorem rising_ext : ∀ {a b : List Ent}, Rising a → Rising b → (∀ x, x ∈ a ↔ x ∈ b) → a = b
  | [], [], _, _, _ => rfl
  | [], y :: b, _, _, h => by have := (h y).2 (by simp); simp at this
  | x :: a, [], _, _, h => by have := (h x).1 (by simp); simp at this
  | x :: a, y :: b, ha, hb, h => by
    have ha' := List.pairwise_cons.1 ha
    have hb' := List.pairwise_cons.1 hb
    have hxy : x = y := by
      rcases List.mem_cons.1 ((h x).1 (by simp)) with e | hx
      · exact e
      · rcases List.mem_cons.1 ((h y).2 (by simp)) with e | hy
        · exact e.symm
        · have h1 := ha'.1 y hy
          have h2 := hb'.1 x hx
          rw [lt_asymm h1] at h2
          cases h2
    subst hxy
    congr 1
    refine rising_ext ha'.2 hb'.2 fun z => ?_
    constructor
    · intro hz
      rcases List.mem_cons.1 ((h z).1 (List.mem_cons_of_mem _ hz)) with rfl | hz'
      · have := ha'.1 z hz
        rw [lt_irrefl] at this
        cases this
      · exact hz'
    · intro hz
      rcases List.mem_cons.1 ((h z).2 (List.mem_cons_of_mem _ hz)) with rfl | hz'
      · have := hb'.1 z hz
        rw [lt_irrefl] at this
        cases this
      · exact hz'

/-- A list with an entry, instead of that at its path. -/
def insT (t : List Ent) (e : Ent) : List Ent := t.filter (fun x => lt x.path e.path) ++ e :: t.filter (fun x => lt e.path x.path)
/-- A list without the entry at a path. -/
def delT (t : List Ent) (p : ByteArray) : List Ent := t.filter fun x => !decide (x.path = p)

theorem mem_insT {t : List Ent} {e y : Ent} : y ∈ insT t e ↔ y = e ∨ (y ∈ t ∧ y.path ≠ e.path) := by
  rw [insT, List.mem_append, List.mem_cons, List.mem_filter, List.mem_filter]
  constructor
  · rintro (⟨h1, h2⟩ | rfl | ⟨h1, h2⟩)
    · exact .inr ⟨h1, lt_ne h2⟩
    · exact .inl rfl
    · exact .inr ⟨h1, (lt_ne h2).symm⟩
  · rintro (rfl | ⟨h1, h2⟩)
    · exact .inr (.inl rfl)
    · rcases h3 : lt y.path e.path with _ | _
      · rcases h4 : lt e.path y.path with _ | _
        · exact absurd (lt_total h3 h4) h2
        · exact .inr (.inr ⟨h1, rfl⟩)
      · exact .inl ⟨h1, rfl⟩
theorem mem_delT {t : List Ent} {p : ByteArray} {y : Ent} : y ∈ delT t p ↔ y ∈ t ∧ y.path ≠ p := by
  rw [delT, List.mem_filter]
  simp

theorem rising_insT {t : List Ent} (h : Rising t) (e : Ent) : Rising (insT t e) := by
  rw [Rising, insT, List.pairwise_append]
  refine ⟨h.filter _, List.pairwise_cons.2 ⟨fun y hy => (List.mem_filter.1 hy).2, h.filter _⟩, fun a ha b hb => ?_⟩
  have h1 := (List.mem_filter.1 ha).2
  rcases List.mem_cons.1 hb with rfl | hb
  · exact h1
  · exact lt_trans h1 (List.mem_filter.1 hb).2
theorem rising_delT {t : List Ent} (h : Rising t) (p : ByteArray) : Rising (delT t p) := List.Pairwise.filter _ h

theorem delT_len (t : List Ent) (p : ByteArray) : (delT t p).length ≤ t.length := List.length_filter_le _ _

/-- How long a list is then: by where its path stands. -/
theorem insT_delT (t : List Ent) (e : Ent) : insT (delT t e.path) e = insT t e := by
  rw [insT, insT, delT, List.filter_filter, List.filter_filter]
  congr 1
  · refine List.filter_congr fun x hx => ?_
    by_cases h : x.path = e.path
    · simp [h, lt_irrefl]
    · simp [h]
  · congr 1
    refine List.filter_congr fun x hx => ?_
    by_cases h : x.path = e.path
    · simp [h, lt_irrefl]
    · simp [h]

theorem len_split (t : List Ent) (p : ByteArray) : (t.filter fun x => lt x.path p).length + (t.filter fun x => lt p x.path).length = (delT t p).length := by
  induction t with
  | nil => rfl
  | cons x t ih =>
    rw [delT] at ih ⊢
    rw [List.filter_cons, List.filter_cons, List.filter_cons]
    by_cases e : x.path = p
    · subst e
      simp [lt_irrefl]
      simpa using ih
    · rcases h1 : lt x.path p with _ | _
      · rcases h2 : lt p x.path with _ | _
        · exact absurd (lt_total h1 h2) e
        · simp [e] at ih ⊢
          omega
      · rw [lt_asymm h1]
        simp [e] at ih ⊢
        omega
theorem insT_len (t : List Ent) (e : Ent) : (insT t e).length = (delT t e.path).length + 1 := by
  rw [insT, List.length_append, List.length_cons, ← len_split]
  omega

theorem delT_none {t : List Ent} {p : ByteArray} (h : ∀ x ∈ t, x.path ≠ p) : delT t p = t := by
  rw [delT, List.filter_eq_self]
  intro x hx
  simp [h x hx]

/-- What lies at a path. -/
def findT (t : List Ent) (p : ByteArray) : Option Ent := t.find? fun x => decide (x.path = p)
theorem findT_some {t : List Ent} {p : ByteArray} {x : Ent} (h : findT t p = some x) : x ∈ t ∧ x.path = p := by
  have h1 := List.find?_some h
  rw [decide_eq_true_eq] at h1
  exact ⟨List.mem_of_find?_eq_some h, h1⟩
theorem findT_none {t : List Ent} {p : ByteArray} (h : findT t p = none) : ∀ x ∈ t, x.path ≠ p := by
  rw [findT, List.find?_eq_none] at h
  intro x hx e
  exact h x hx (by simp [e])
theorem findT_of {t : List Ent} (hr : Rising t) {x : Ent} (hx : x ∈ t) : findT t x.path = some x := by
  rcases h : findT t x.path with _ | y
  · exact absurd rfl (findT_none h x hx)
  · obtain ⟨h1, h2⟩ := findT_some h
    rw [rising_one hr h1 hx h2]
theorem findT_not {t : List Ent} {p : ByteArray} (h : ∀ x ∈ t, x.path ≠ p) : findT t p = none := by
  rw [findT, List.find?_eq_none]
  intro x hx
  simp [h x hx]

theorem findT_ins {t : List Ent} (hr : Rising t) (e : Ent) (p : ByteArray) : findT (insT t e) p = if p = e.path then some e else findT t p := by
  have hr2 := rising_insT hr e
  split
  · rename_i h
    subst h
    exact findT_of hr2 (mem_insT.2 (.inl rfl))
  · rename_i h
    rcases hf : findT t p with _ | x
    · refine findT_not fun y hy => ?_
      rcases mem_insT.1 hy with rfl | ⟨h1, _⟩
      · exact fun e => h e.symm
      · exact findT_none hf y h1
    · obtain ⟨h1, h2⟩ := findT_some hf
      rw [← h2]
      exact findT_of hr2 (mem_insT.2 (.inr ⟨h1, by rw [h2]; exact h⟩))
theorem findT_del {t : List Ent} (hr : Rising t) (q p : ByteArray) : findT (delT t q) p = if p = q then none else findT t p := by
  split
  · rename_i h
    subst h
    exact findT_not fun y hy => (mem_delT.1 hy).2
  · rename_i h
    rcases hf : findT t p with _ | x
    · exact findT_not fun y hy => findT_none hf y (mem_delT.1 hy).1
    · obtain ⟨h1, h2⟩ := findT_some hf
      rw [← h2]
      exact findT_of (rising_delT hr q) (mem_delT.2 ⟨h1, by rw [h2]; exact h⟩)

/-- tree.at. -/
def atT (t : List Ent) (p : ByteArray) : Except Int Ent := match names p with
  | none => .error 2
  | some ys => if ys = [] then .ok ⟨p, 2, ⟨#[]⟩⟩ else match findT t p with
    | none => .error 3
    | some x => .ok x
/-- tree.Kind. -/
def kindT (t : List Ent) (p : ByteArray) : Except Int Int := if treeOk t = true then (match atT t p with | .error c => .error c | .ok x => .ok x.kind) else .error 16
/-- tree.Read. -/
def readT (t : List Ent) (p : ByteArray) : Except Int ByteArray := match kindT t p with
  | .error c => .error c
  | .ok k => if k = 2 then .error 5 else match atT t p with
    | .error _ => .ok ⟨#[]⟩
    | .ok x => .ok x.data
/-- tree.place: 0, or why not. -/
def placeT (t : List Ent) (p : ByteArray) : Int := match names p with
  | none => 2
  | some ys => if ys = [] then 1 else match atT t (dirOf p) with
    | .error c => c
    | .ok d => if d.kind = 1 then 6 else match atT t p with
      | .ok _ => 4
      | .error _ => 0
/-- tree.with. -/
def withT (t : List Ent) (e : Ent) : Except Int (List Ent) := if (insT t e).length ≤ 1024 then .ok (insT t e) else .error 9
/-- tree.made. -/
def madeT (t : List Ent) (p : ByteArray) (k : Int) : Except Int (List Ent) := if treeOk t = true then (if placeT t p = 0 then withT t ⟨p, k, ⟨#[]⟩⟩ else .error (placeT t p)) else .error 16
/-- tree.file. -/
def fileT (t : List Ent) (p : ByteArray) : Except Int Ent := if treeOk t = true then (if p = ⟨#[47]⟩ then .error 1 else match atT t p with
    | .error c => .error c
    | .ok x => if x.kind = 2 then .error 5 else .ok x) else .error 16
/-- tree.filled. -/
def filledT (s : ByteArray) (n : Nat) : ByteArray := B (s.data.toList.take n ++ List.replicate (n - s.size) 0)
/-- The data that comes of writing. -/
def writtenT (d : ByteArray) (k : Nat) (s : ByteArray) : ByteArray := B ((filledT d k).data.toList ++ s.data.toList ++ d.data.toList.drop (k + s.size))
/-- tree.Write. -/
def writeT (t : List Ent) (p : ByteArray) (k : Int) (s : ByteArray) : Except Int (List Ent) := match fileT t p with
  | .error c => .error c
  | .ok e => if k < 0 ∨ 256 < k ∨ 256 - k < (s.size : Int) then .error 15 else withT t { e with data := writtenT e.data k.toNat s }
/-- tree.Cut. -/
def cutT (t : List Ent) (p : ByteArray) (n : Int) : Except Int (List Ent) := match fileT t p with
  | .error c => .error c
  | .ok e => if n < 0 ∨ 256 < n then .error 15 else withT t { e with data := filledT e.data n.toNat }
/-- tree.Unlink. -/
def unlinkT (t : List Ent) (p : ByteArray) : Except Int (List Ent) := match fileT t p with
  | .error c => .error c
  | .ok _ => .ok (delT t p)
/-- The names in a directory of a tree, as they stand. -/
def inT (t : List Ent) (p : ByteArray) : List ByteArray := t.filterMap (inP p)
/-- tree.Rmdir. -/
def rmdirT (t : List Ent) (p : ByteArray) : Except Int (List Ent) := match fileT t p with
  | .ok _ => .error 6
  | .error c => if c = 5 then (if inT t p = [] then .ok (delT t p) else .error 7) else .error c
/-- tree.Rename. -/
def renameT (t : List Ent) (a b : ByteArray) : Except Int (List Ent) := match fileT t a with
  | .error c => .error c
  | .ok e => if placeT t b = 0 then withT (delT t a) { e with path := b } else .error (placeT t b)

/-! ### What comes is a tree -/

theorem names_dir {p : ByteArray} {ys : List ByteArray} {z : ByteArray} (h : names p = some (ys ++ [z])) : dirOf p = pathOf ys := by
  rw [dirOf, h]
  simp

theorem atT_root (t : List Ent) : atT t ⟨#[47]⟩ = .ok ⟨⟨#[47]⟩, 2, ⟨#[]⟩⟩ := by rw [atT, names_root]; rfl
theorem atT_deep {t : List Ent} {p : ByteArray} {ys : List ByteArray} (h : names p = some ys) (h0 : ys ≠ []) : atT t p = (match findT t p with | none => .error 3 | some x => .ok x) := by
  rw [atT, h]
  exact if_neg h0
theorem names_ne_root {p : ByteArray} {ys : List ByteArray} (h : names p = some ys) (h0 : ys ≠ []) : p ≠ ⟨#[47]⟩ := by
  rintro rfl
  rw [names_root] at h
  exact h0 (Option.some.inj h).symm
theorem atT_mem {t : List Ent} {p : ByteArray} {x : Ent} (hp : p ≠ ⟨#[47]⟩) (h : atT t p = .ok x) : x ∈ t ∧ x.path = p := by
  rw [atT] at h
  split at h
  · cases h
  · rename_i ys hy
    split at h
    · rename_i h0
      subst h0
      exact absurd (names_some hy).2.2.symm hp
    · split at h
      · cases h
      · rename_i y hy2
        cases h
        exact findT_some hy2

theorem mem_deep {t : List Ent} (h : treeOk t = true) {x : Ent} (hx : x ∈ t) : ∃ ys, names x.path = some ys ∧ ys ≠ [] ∧ x.path ≠ ⟨#[47]⟩ := by
  obtain ⟨ys, z, h1, _⟩ := ent_names ((treeOk_iff.1 h).2.2 x hx).1
  exact ⟨_, h1, by simp, names_ne_root h1 (by simp)⟩
theorem atT_of {t : List Ent} (h : treeOk t = true) {x : Ent} (hx : x ∈ t) : atT t x.path = .ok x := by
  obtain ⟨ys, h1, h2, _⟩ := mem_deep h hx
  rw [atT_deep h1 h2, findT_of (treeOk_rising h) hx]

/-- What a place asks. -/
theorem place_zero {t : List Ent} {p : ByteArray} (h : placeT t p = 0) (ht : treeOk t = true) : (∃ ys z, names p = some (ys ++ [z])) ∧ DirIn t p ∧ findT t p = none ∧ p ≠ ⟨#[47]⟩ := by
  rw [placeT] at h
  split at h
  · cases h
  · rename_i ys hy
    split at h
    · cases h
    · rename_i h0
      have hne := names_ne_root hy h0
      have hlast : names p = some (ys.dropLast ++ [ys.getLast h0]) := by rw [hy, List.dropLast_concat_getLast]
      split at h
      · rename_i c hc
        subst h
        rw [atT] at hc
        split at hc
        · cases hc
        · split at hc
          · cases hc
          · split at hc <;> cases hc
      · rename_i d hd
        split at h
        · cases h
        · rename_i hk
          split at h
          · cases h
          · rename_i c hc
            refine ⟨⟨_, _, hlast⟩, ?_, ?_, hne⟩
            · by_cases hr : dirOf p = ⟨#[47]⟩
              · exact .inl hr
              · obtain ⟨h1, h2⟩ := atT_mem hr hd
                have h3 := (treeOk_iff.1 ht).2.2 d h1
                have h4 := entOk_kind h3.1
                exact .inr ⟨d, h1, h2, by omega⟩
            · rw [atT_deep hy h0] at hc
              split at hc
              · rename_i hf
                exact hf
              · cases hc

/-- A new entry in its place. -/
theorem tree_ins {t : List Ent} {e : Ent} (ht : treeOk t = true) (hp : DirIn t e.path) (hn : findT t e.path = none) (he : entOk e = true) (hk : e.kind ≤ 2) (hl : t.length + 1 ≤ 1024) : treeOk (insT t e) = true := by
  obtain ⟨h1, h2, h3⟩ := treeOk_iff.1 ht
  refine treeOk_iff.2 ⟨?_, rising_insT h2 e, fun x hx => ?_⟩
  · rw [insT_len, delT_none (findT_none hn)]
    exact hl
  · have hdir : ∀ q, DirIn t q → DirIn (insT t e) q := fun q hq => hq.elim .inl fun ⟨y, hy, h4, h5⟩ => .inr ⟨y, mem_insT.2 (.inr ⟨hy, findT_none hn y hy⟩), h4, h5⟩
    rcases mem_insT.1 hx with rfl | ⟨hx, _⟩
    · exact ⟨he, hk, hdir _ hp⟩
    · exact ⟨(h3 x hx).1, (h3 x hx).2.1, hdir _ (h3 x hx).2.2⟩

theorem delT_mem_len {t : List Ent} (hr : Rising t) {x : Ent} (hx : x ∈ t) : (delT t x.path).length + 1 = t.length := by
  have : insT t x = t := rising_ext (rising_insT hr x) hr fun y => by
    rw [mem_insT]
    constructor
    · rintro (rfl | ⟨h, _⟩)
      · exact hx
      · exact h
    · intro hy
      by_cases e : y.path = x.path
      · exact .inl (rising_one hr hy hx e)
      · exact .inr ⟨hy, e⟩
  rw [← insT_len, this]
theorem insT_same {t : List Ent} (hr : Rising t) {x : Ent} (hx : x ∈ t) : insT t x = t := rising_ext (rising_insT hr x) hr fun y => by
  rw [mem_insT]
  constructor
  · rintro (rfl | ⟨h, _⟩)
    · exact hx
    · exact h
  · intro hy
    by_cases e : y.path = x.path
    · exact .inl (rising_one hr hy hx e)
    · exact .inr ⟨hy, e⟩

/-- Another entry of the same path and kind. -/
theorem tree_set {t : List Ent} {x e : Ent} (ht : treeOk t = true) (hx : x ∈ t) (hp : e.path = x.path) (hk : e.kind = x.kind) (he : entOk e = true) : treeOk (insT t e) = true ∧ (insT t e).length = t.length := by
  obtain ⟨h1, h2, h3⟩ := treeOk_iff.1 ht
  have hlen : (insT t e).length = t.length := by rw [insT_len, hp, delT_mem_len h2 hx]
  have hdir : ∀ q, DirIn t q → DirIn (insT t e) q := fun q hq => hq.elim .inl fun ⟨y, hy, h4, h5⟩ => by
    by_cases ey : y.path = e.path
    · have := rising_one h2 hy hx (by rw [ey, hp])
      subst this
      exact .inr ⟨e, mem_insT.2 (.inl rfl), by rw [hp, h4], by rw [hk, h5]⟩
    · exact .inr ⟨y, mem_insT.2 (.inr ⟨hy, ey⟩), h4, h5⟩
  refine ⟨treeOk_iff.2 ⟨by omega, rising_insT h2 e, fun y hy => ?_⟩, hlen⟩
  rcases mem_insT.1 hy with rfl | ⟨hy, _⟩
  · refine ⟨he, by rw [hk]; exact (h3 x hx).2.1, ?_⟩
    rw [hp]
    exact hdir _ (h3 x hx).2.2
  · exact ⟨(h3 y hy).1, (h3 y hy).2.1, hdir _ (h3 y hy).2.2⟩

/-- Without an entry in which none lies. -/
theorem tree_del {t : List Ent} {p : ByteArray} (ht : treeOk t = true) (h : ∀ y ∈ t, dirOf y.path ≠ p ∨ p = ⟨#[47]⟩) : treeOk (delT t p) = true := by
  obtain ⟨h1, h2, h3⟩ := treeOk_iff.1 ht
  refine treeOk_iff.2 ⟨Nat.le_trans (delT_len t p) h1, rising_delT h2 p, fun y hy => ?_⟩
  obtain ⟨hy, _⟩ := mem_delT.1 hy
  refine ⟨(h3 y hy).1, (h3 y hy).2.1, ?_⟩
  rcases (h3 y hy).2.2 with hr | ⟨d, hd, h4, h5⟩
  · exact .inl hr
  · rcases h y hy with h6 | h6
    · exact .inr ⟨d, mem_delT.2 ⟨hd, by rw [h4]; exact h6⟩, h4, h5⟩
    · by_cases e : d.path = p
      · left
        rw [← h4, e, h6]
      · exact .inr ⟨d, mem_delT.2 ⟨hd, e⟩, h4, h5⟩

/-- In a file none lies. -/
theorem file_leaf {t : List Ent} {x : Ent} (ht : treeOk t = true) (hx : x ∈ t) (hk : x.kind ≠ 2) : ∀ y ∈ t, dirOf y.path ≠ x.path := by
  obtain ⟨h1, h2, h3⟩ := treeOk_iff.1 ht
  intro y hy e
  obtain ⟨_, _, _, hne⟩ := mem_deep ht hx
  rcases (h3 y hy).2.2 with hr | ⟨d, hd, h4, h5⟩
  · exact hne (by rw [← e, hr])
  · have := rising_one h2 hd hx (by rw [h4, e])
    subst this
    exact hk h5

theorem fileT_ok {t : List Ent} {p : ByteArray} {e : Ent} (h : fileT t p = .ok e) : treeOk t = true ∧ e ∈ t ∧ e.path = p ∧ e.kind = 1 ∧ p ≠ ⟨#[47]⟩ := by
  rw [fileT] at h
  split at h
  · rename_i ht
    split at h
    · cases h
    · rename_i hp
      split at h
      · cases h
      · rename_i x hx
        split at h
        · cases h
        · rename_i hk
          cases h
          obtain ⟨h1, h2⟩ := atT_mem hp hx
          have h3 := (treeOk_iff.1 ht).2.2 e h1
          have h4 := entOk_kind h3.1
          exact ⟨ht, h1, h2, by omega, hp⟩
  · cases h

theorem fileT_of {t : List Ent} {e : Ent} (ht : treeOk t = true) (he : e ∈ t) (hk : e.kind = 1) : fileT t e.path = .ok e := by
  obtain ⟨_, _, _, hne⟩ := mem_deep ht he
  rw [fileT, if_pos ht, if_neg hne, atT_of ht he]
  exact if_neg (by omega)

theorem readT_of {t : List Ent} {e : Ent} (ht : treeOk t = true) (he : e ∈ t) (hk : e.kind = 1) : readT t e.path = .ok e.data := by
  rw [readT, kindT, if_pos ht, atT_of ht he]
  exact if_neg (by omega)

theorem readT_ok {t : List Ent} {p s : ByteArray} (h : readT t p = .ok s) : ∃ e, fileT t p = .ok e ∧ e.data = s := by
  rw [readT, kindT] at h
  split at h
  · cases h
  · rename_i k hk
    split at hk
    · rename_i ht
      split at hk
      · cases hk
      · rename_i x hx
        cases hk
        split at h
        · cases h
        · rename_i hk2
          rw [hx] at h
          cases h
          have hp : p ≠ ⟨#[47]⟩ := by
            rintro rfl
            rw [atT_root] at hx
            cases hx
            exact hk2 rfl
          refine ⟨x, ?_, rfl⟩
          rw [fileT, if_pos ht, if_neg hp, hx]
          exact if_neg hk2
    · cases hk

/-- A file's data is another. -/
def setD (e : Ent) (d : ByteArray) : Ent := { e with data := d }
theorem entOk_set {e : Ent} (h : entOk e = true) (hk : e.kind = 1) {d : ByteArray} (hd : d.size ≤ 256) : entOk (setD e d) = true := by
  rw [entOk, Bool.and_eq_true] at h ⊢
  refine ⟨h.1, ?_⟩
  rw [if_pos (show (setD e d).kind = 1 from hk)]
  exact decide_eq_true hd
theorem entOk_data {e : Ent} (h : entOk e = true) (hk : e.kind = 1) : e.data.size ≤ 256 := by
  rw [entOk, Bool.and_eq_true] at h
  have := h.2
  rw [if_pos hk] at this
  simpa using this

theorem withT_set {t : List Ent} {e : Ent} (ht : treeOk t = true) (he : e ∈ t) (hk : e.kind = 1) {d : ByteArray} (hd : d.size ≤ 256) : withT t (setD e d) = .ok (insT t (setD e d)) ∧ treeOk (insT t (setD e d)) = true := by
  obtain ⟨h1, h2⟩ := tree_set (e := setD e d) ht he rfl rfl (entOk_set ((treeOk_iff.1 ht).2.2 e he).1 hk hd)
  rw [withT, if_pos (by rw [h2]; exact treeOk_len ht)]
  exact ⟨rfl, h1⟩

theorem filledT_size (s : ByteArray) (n : Nat) : (filledT s n).size = n := by
  have : s.data.toList.length = s.size := Array.length_toList
  rw [filledT, size_B, List.length_append, List.length_take, List.length_replicate]
  omega
theorem filledT_self (s : ByteArray) : filledT s s.size = s := by
  have : s.data.toList.length = s.size := Array.length_toList
  rw [filledT, List.take_of_length_le (by omega), Nat.sub_self]
  simp [B_toList]
end Go.Proofs.YtknfaabhlcdeoaaGreatDoor
