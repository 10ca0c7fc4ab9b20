/- Joined: The names that layers have in a directory, gathered entry by entry; Trees and layers by their entries, in plain Lean; What is done to a tree, in plain Lean; What a stack shows at each path, and that look answers it, in plain Lean; What a stack folds to has just what it shows, in plain Lean; The document's Name, Split, Join and Less -/
import Derived.Test.YthadldnojdjlnaaGreatDoorJP2
import Derived.Maps.Views
import Derived.Test.YthadldnojdjlnaaGreatDoorJP1
import Derived.Test.YthadldnojdjlnaaGreatDoorJP0
import Derived.Deep.AppendLies
import Derived.Deep.QuietTactic
import Derived.BigQuiet
/-! LNW -/
namespace Go.Proofs.YthadldnojdjlnaaGreatDoor
open Go Go.RowKit Go.Maps

/-- What has been met in the layers below k. -/
def metAt (s : List (List Ent)) (p : ByteArray) (f k : Nat) : List ByteArray := ((s.take k).drop f).flatten.filterMap (inP p)

theorem metAt_zero (s : List (List Ent)) (p : ByteArray) (f : Nat) : metAt s p f f = [] := by
  rw [metAt, List.drop_of_length_le (by rw [List.length_take]; omega)]
  rfl
theorem metAt_succ {s : List (List Ent)} (p : ByteArray) {f k : Nat} (hf : f ≤ k) (h : k < s.length) : metAt s p f (k + 1) = metAt s p f k ++ (s[k]).filterMap (inP p) := by
  rw [metAt, metAt, ← List.take_append_getElem h, List.drop_append_of_le_length (by rw [List.length_take]; omega), List.flatten_append, List.filterMap_append]
  congr 2
  simp
theorem metAt_end (s : List (List Ent)) (p : ByteArray) (f : Nat) : metAt s p f s.length = metP s p f := by rw [metAt, metP, List.take_length]

theorem met_in {l : List Ent} (p : ByteArray) {j : Nat} (h : j < l.length) : (l.take (j + 1)).filterMap (inP p) = (l.take j).filterMap (inP p) ++ (inP p l[j]).toList := by
  rw [← List.take_append_getElem h, List.filterMap_append]
  congr 1

theorem flatten_le {s : List (List Ent)} (h : ∀ l ∈ s, l.length ≤ 64) : s.flatten.length ≤ 64 * s.length := by
  induction s with
  | nil => simp
  | cons l s ih =>
    have h1 := h l (by simp)
    have h2 := ih (fun x hx => h x (by simp [hx]))
    simp only [List.flatten_cons, List.length_append, List.length_cons]
    omega

theorem stackOk_layers {s : List (List Ent)} (h : stackOk s = true) : s.length ≤ 9 ∧ ∀ l ∈ s, layerOk l = true := by
  simp only [stackOk, Bool.and_eq_true, decide_eq_true_eq, List.all_eq_true] at h
  exact h

theorem metAt_len {s : List (List Ent)} (p : ByteArray) (f k : Nat) (h : stackOk s = true) : (metAt s p f k).length ≤ 576 := by
  obtain ⟨h1, h2⟩ := stackOk_layers h
  have h3 := List.length_filterMap_le (inP p) ((s.take k).drop f).flatten
  have h4 : ((s.take k).drop f).flatten.length ≤ 64 * ((s.take k).drop f).length := flatten_le fun l hl => layerOk_len (h2 l (List.mem_of_mem_take (List.mem_of_mem_drop hl)))
  have h5 : ((s.take k).drop f).length ≤ 9 := by rw [List.length_drop, List.length_take]; omega
  show (List.filterMap _ _).length ≤ _
  omega

theorem met_name {l : List Ent} {p z : ByteArray} (h : z ∈ l.filterMap (inP p)) : nameB z = true := by
  obtain ⟨x, _, hx⟩ := List.mem_filterMap.1 h
  obtain ⟨ys, hy, _⟩ := inP_iff.1 hx
  exact List.all_eq_true.1 (names_some hy).1 z (by simp)

/-- A name as a key. -/
def keyL (z : ByteArray) : Lit := .string z.data.toList
def uT : DataW Value := .held (.bool true)
/-- The set of names in memory. -/
def setS (acc : List ByteArray) : DataW Value := setOf uT (acc.map keyL)

theorem isKey (z : List UInt8) : WideAt.IsKeyLit (.string z) := by simp [WideAt.IsKeyLit]
theorem setS_snoc (acc : List ByteArray) (z : ByteArray) : (setS acc).put (keyL z) uT = setS (acc ++ [z]) := by rw [setS, setS, List.map_append, List.map_singleton, setOf_snoc]

theorem setS_has (acc : List ByteArray) (x : List UInt8) : Maps.has (setS acc) (.string x) = true ↔ B x ∈ acc := by
  rw [setS, has_setOf uT (.string x) (acc.map keyL) (by
    intro y hy
    obtain ⟨z, _, rfl⟩ := List.mem_map.1 hy
    exact isKey _), List.any_map, List.any_eq_true]
  constructor
  · rintro ⟨z, hz, h⟩
    have e : z.data.toList = x := by
      have := WideAt.sameKey_eq (show (keyL z).sameKey (.string x) = true from h)
      simpa [keyL] using this
    rw [← e, B_toList]
    exact hz
  · intro h
    refine ⟨B x, h, ?_⟩
    show (Lit.string (B x).data.toList).sameKey (.string x) = true
    rw [toList_B]
    exact WideAt.sameKey_self (isKey x)

/-- What is kept of the names that come. -/
def shownL (s : List (List Ent)) (p : ByteArray) (pre : List (List UInt8)) : List (List UInt8) := pre.filter fun x => showsE s (childP p (B x))
theorem shownL_snoc (s : List (List Ent)) (p : ByteArray) (pre : List (List UInt8)) (x : List UInt8) : shownL s p (pre ++ [x]) = shownL s p pre ++ (if showsE s (childP p (B x)) then [x] else []) := by
  rw [shownL, shownL, List.filter_append]
  congr 1
  simp [List.filter_cons]
theorem shownL_len (s : List (List Ent)) (p : ByteArray) (pre : List (List UInt8)) : (shownL s p pre).length ≤ pre.length := List.length_filter_le _ _

theorem nodup_sub {α : Type} [DecidableEq α] : ∀ (l m : List α), l.Nodup → (∀ x ∈ l, x ∈ m) → l.length ≤ m.length
  | [], _, _, _ => Nat.zero_le _
  | a :: l, m, hn, h => by
    rw [List.nodup_cons] at hn
    have ha := h a (by simp)
    have h1 := nodup_sub l (m.erase a) hn.2 fun x hx => (List.mem_erase_of_ne (show x ≠ a from fun e => hn.1 (by rw [← e]; exact hx))).2 (h x (by simp [hx]))
    rw [List.length_erase_of_mem ha] at h1
    have h2 := List.length_pos_of_mem ha
    rw [List.length_cons]
    omega

theorem nodup_len {pre : List (List UInt8)} {acc : List ByteArray} (hn : pre.Nodup) (h : ∀ x ∈ pre, B x ∈ acc) : pre.length ≤ acc.length := by
  have h1 : (pre.map B).Nodup := List.pairwise_map.2 (hn.imp fun {a b} h e => h (B_inj e))
  have h2 := nodup_sub (pre.map B) acc h1 (fun x hx => by
    obtain ⟨y, hy, rfl⟩ := List.mem_map.1 hx
    exact h y hy)
  rwa [List.length_map] at h2

/-- The list that is sorted is the directory's. -/
theorem names_done {s : List (List Ent)} {p : ByteArray} {f : Nat} {ss : List (List UInt8)} (hn : ss.Nodup) (h : ∀ x, x ∈ ss ↔ B x ∈ metP s p f) :
    NamesIs s p f (((shownL s p ss).mergeSort fun x y => decide (x ≤ y)).map B) := by
  have hperm := List.mergeSort_perm (shownL s p ss) (fun x y => decide (x ≤ y))
  have hsort := List.pairwise_mergeSort (le := fun x y : List UInt8 => decide (x ≤ y)) (fun a b c h1 h2 => by simp only [decide_eq_true_eq] at *; exact List.le_trans h1 h2) (fun a b => by
    simp only [Bool.or_eq_true, decide_eq_true_eq]
    exact List.le_total a b) (shownL s p ss)
  have hnd : ((shownL s p ss).mergeSort fun x y => decide (x ≤ y)).Nodup := hperm.nodup_iff.2 (hn.filter _)
  refine ⟨?_, fun x => ?_⟩
  · rw [List.pairwise_map]
    refine (List.Pairwise.and hsort hnd).imp fun {a b} ⟨h1, h2⟩ => ?_
    simp only [decide_eq_true_eq] at h1
    simp only [lt, toList_B, decide_eq_true_eq]
    refine Classical.byContradiction fun h3 => h2 ?_
    exact List.le_antisymm h1 (List.not_lt.1 h3)
  · rw [List.mem_map]
    constructor
    · rintro ⟨y, hy, rfl⟩
      have h1 := (hperm.mem_iff.1 hy)
      rw [shownL, List.mem_filter] at h1
      exact ⟨(h y).1 h1.1, h1.2⟩
    · rintro ⟨h1, h2⟩
      refine ⟨x.data.toList, hperm.mem_iff.2 ?_, B_toList x⟩
      rw [shownL, List.mem_filter]
      exact ⟨(h _).2 (by rw [B_toList]; exact h1), by rw [B_toList]; exact h2⟩
end Go.Proofs.YthadldnojdjlnaaGreatDoor

/-! TreeW -/
namespace Go.Proofs.YthadldnojdjlnaaGreatDoor
open Go Go.RowKit

theorem lt_prefix : ∀ (l : List UInt8) (c : UInt8) (m : List UInt8), l < l ++ c :: m
  | [], c, m => by simp
  | x :: l, c, m => by
    rw [List.cons_append, List.cons_lt_cons_iff]
    exact .inr ⟨rfl, lt_prefix l c m⟩

theorem path_lt {xs : List ByteArray} (hx : xs ≠ []) (z : ByteArray) : lt (pathOf xs) (pathOf (xs ++ [z])) = true := by
  rcases xs with _ | ⟨y, ys⟩
  · exact absurd rfl hx
  · rw [lt, decide_eq_true_eq, pathOf, if_neg (by simp), pathOf, if_neg (by simp), toList_B, toList_B, List.map_append, List.map_cons, List.map_singleton, join_snoc, ← List.cons_append]
    exact lt_prefix _ _ _

theorem pathOf_root {xs : List ByteArray} (h : xs.all nameB = true) (hl : xs.length ≤ 6) : pathOf xs = ⟨#[47]⟩ ↔ xs = [] := by
  constructor
  · intro e
    exact pathOf_inj h hl (ys := []) rfl (by simp) (by rw [e]; rfl)
  · rintro rfl
    rfl

/-- What an entry's names are. -/
theorem ent_names {x : Ent} (h : entOk x = true) : ∃ ys z, names x.path = some (ys ++ [z]) ∧ dirOf x.path = pathOf ys ∧ ys.all nameB = true ∧ nameB z = true ∧ ys.length ≤ 5 ∧ x.path = pathOf (ys ++ [z]) := by
  obtain ⟨ys, z, h1, h2⟩ := entOk_names h
  obtain ⟨hall, hl, hp⟩ := names_some h1
  rw [List.all_append, Bool.and_eq_true] at hall
  rw [List.length_append, List.length_singleton] at hl
  exact ⟨ys, z, h1, h2, hall.1, by simpa using hall.2, by omega, hp.symm⟩

theorem dir_lt {x : Ent} (h : entOk x = true) (hd : dirOf x.path ≠ ⟨#[47]⟩) : lt (dirOf x.path) x.path = true := by
  obtain ⟨ys, z, _, h2, h3, _, h5, h6⟩ := ent_names h
  rw [h2, h6]
  refine path_lt ?_ z
  rintro rfl
  exact hd (by rw [h2]; rfl)

/-- A directory of the list holds what lies at a path. -/
def HoldIn (l : List Ent) (p : ByteArray) : Prop := dirOf p = ⟨#[47]⟩ ∨ ∃ y ∈ l, y.path = dirOf p ∧ holds y = true

theorem okAt_iff {l : List Ent} : (∀ (t : Nat) (h : t < l.length), okAt l t l[t] = true) ↔ Rising l ∧ ∀ x ∈ l, entOk x = true ∧ HoldIn l x.path := by
  constructor
  · intro h
    refine ⟨?_, fun x hx => ?_⟩
    · have := rising_of (l := l) (k := l.length) fun t ht _ => h t ht
      rwa [List.take_length] at this
    · obtain ⟨t, ht, rfl⟩ := List.getElem_of_mem hx
      have h1 := h t ht
      rw [okAt, Bool.and_eq_true] at h1
      refine ⟨headOk_ent h1.1, ?_⟩
      have h2 := h1.2
      rw [dirOk, Bool.or_eq_true, decide_eq_true_eq, List.any_eq_true] at h2
      rcases h2 with h2 | ⟨y, hy, hyp⟩
      · exact .inl h2
      · rw [Bool.and_eq_true, decide_eq_true_eq] at hyp
        exact .inr ⟨y, List.mem_of_mem_take hy, hyp.1, hyp.2⟩
  · rintro ⟨hr, h⟩ t ht
    obtain ⟨h1, h2⟩ := h l[t] (List.getElem_mem ht)
    rw [okAt, Bool.and_eq_true]
    constructor
    · rcases t with _ | j
      · rw [headOk_zero, h1]
      · rw [headOk_succ (by omega), h1, Bool.true_and]
        exact hr.at_ (by omega) ht
    · rw [dirOk, Bool.or_eq_true, decide_eq_true_eq, List.any_eq_true]
      by_cases hd : dirOf l[t].path = ⟨#[47]⟩
      · exact .inl hd
      · rcases h2 with h2 | ⟨y, hy, hyp, hyh⟩
        · exact absurd h2 hd
        · right
          obtain ⟨j, hj, rfl⟩ := List.getElem_of_mem hy
          refine ⟨l[j], ?_, by rw [hyp, hyh]; simp⟩
          have hlt := dir_lt h1 hd
          rw [← hyp] at hlt
          have hjt : j < t := by
            rcases Nat.lt_trichotomy j t with h | h | h
            · exact h
            · subst h
              rw [lt_irrefl] at hlt
              cases hlt
            · have := hr.at_ h hj
              rw [lt_asymm this] at hlt
              cases hlt
          exact List.mem_of_getElem? (i := j) (by rw [List.getElem?_take_of_lt hjt]; exact List.getElem?_eq_getElem hj)

theorem layerOk_iff {l : List Ent} : layerOk l = true ↔ l.length ≤ 64 ∧ Rising l ∧ ∀ x ∈ l, entOk x = true ∧ HoldIn l x.path := by
  constructor
  · intro h
    exact ⟨layerOk_len h, okAt_iff.1 fun t ht => layerOk_at h t ht⟩
  · rintro ⟨h, h2⟩
    exact layerOk_of h (okAt_iff.2 h2)

/-- Whether a list is a tree. -/
def tokAt (l : List Ent) (i : Nat) (x : Ent) : Bool := okAt l i x && decide (x.kind ≤ 2)
def treeOk (l : List Ent) : Bool := decide (l.length ≤ 1024) && l.zipIdx.all fun z => tokAt l z.2 z.1

theorem treeOk_of {l : List Ent} (h : l.length ≤ 1024) (hall : ∀ (t : Nat) (h : t < l.length), tokAt l t l[t] = true) : treeOk l = true := by
  simp only [treeOk, Bool.and_eq_true, decide_eq_true_eq, List.all_eq_true]
  refine ⟨h, ?_⟩
  rintro ⟨x, i⟩ hm
  obtain ⟨hi, e⟩ := List.mem_zipIdx' hm
  show tokAt l i x = true
  rw [e]
  exact hall _ hi
theorem treeOk_len {l : List Ent} (h : treeOk l = true) : l.length ≤ 1024 := by
  simp only [treeOk, Bool.and_eq_true, decide_eq_true_eq] at h
  exact h.1
theorem treeOk_at {l : List Ent} (h : treeOk l = true) (t : Nat) (ht : t < l.length) : tokAt l t l[t] = true := by
  simp only [treeOk, Bool.and_eq_true, decide_eq_true_eq, List.all_eq_true] at h
  refine h.2 (l[t], t) ?_
  rw [List.mem_zipIdx_iff_getElem?]
  exact List.getElem?_eq_getElem ht
theorem treeOk_not {l : List Ent} {t : Nat} (ht : t < l.length) (h : tokAt l t l[t] = false) : treeOk l = false := by
  cases e : treeOk l
  · rfl
  · rw [treeOk_at e t ht] at h; cases h
theorem treeOk_long {l : List Ent} (h : ¬ l.length ≤ 1024) : treeOk l = false := by
  cases e : treeOk l
  · rfl
  · exact absurd (treeOk_len e) h

/-- A directory of the tree holds what lies at a path. -/
def DirIn (l : List Ent) (p : ByteArray) : Prop := dirOf p = ⟨#[47]⟩ ∨ ∃ y ∈ l, y.path = dirOf p ∧ y.kind = 2

theorem entOk_kind {x : Ent} (h : entOk x = true) : 1 ≤ x.kind ∧ x.kind ≤ 4 := by
  rw [entOk, Bool.and_eq_true] at h
  have h2 := h.2
  split at h2
  · omega
  · simp only [Bool.and_eq_true, decide_eq_true_eq] at h2
    omega

theorem treeOk_iff {l : List Ent} : treeOk l = true ↔ l.length ≤ 1024 ∧ Rising l ∧ ∀ x ∈ l, entOk x = true ∧ x.kind ≤ 2 ∧ DirIn l x.path := by
  have key : (∀ (t : Nat) (h : t < l.length), tokAt l t l[t] = true) ↔ (∀ (t : Nat) (h : t < l.length), okAt l t l[t] = true) ∧ ∀ x ∈ l, x.kind ≤ 2 := by
    constructor
    · intro h
      refine ⟨fun t ht => ?_, fun x hx => ?_⟩
      · have := h t ht
        rw [tokAt, Bool.and_eq_true] at this
        exact this.1
      · obtain ⟨t, ht, rfl⟩ := List.getElem_of_mem hx
        have := h t ht
        rw [tokAt, Bool.and_eq_true, decide_eq_true_eq] at this
        exact this.2
    · rintro ⟨h1, h2⟩ t ht
      rw [tokAt, Bool.and_eq_true, decide_eq_true_eq]
      exact ⟨h1 t ht, h2 _ (List.getElem_mem ht)⟩
  have hhold : (∀ x ∈ l, x.kind ≤ 2) → (∀ x ∈ l, entOk x = true) → ∀ p, HoldIn l p ↔ DirIn l p := fun hk he p => by
    unfold HoldIn DirIn
    refine or_congr Iff.rfl ⟨?_, ?_⟩
    · rintro ⟨y, hy, h1, h2⟩
      refine ⟨y, hy, h1, ?_⟩
      have h3 := hk y hy
      simp only [holds, Bool.or_eq_true, beq_iff_eq] at h2
      omega
    · rintro ⟨y, hy, h1, h2⟩
      exact ⟨y, hy, h1, by simp [holds, h2]⟩
  constructor
  · intro h
    obtain ⟨h1, h2⟩ := key.1 fun t ht => treeOk_at h t ht
    obtain ⟨h3, h4⟩ := okAt_iff.1 h1
    exact ⟨treeOk_len h, h3, fun x hx => ⟨(h4 x hx).1, h2 x hx, (hhold h2 (fun x hx => (h4 x hx).1) _).1 (h4 x hx).2⟩⟩
  · rintro ⟨h1, h2, h3⟩
    have hk : ∀ x ∈ l, x.kind ≤ 2 := fun x hx => (h3 x hx).2.1
    have he : ∀ x ∈ l, entOk x = true := fun x hx => (h3 x hx).1
    exact treeOk_of h1 (key.2 ⟨okAt_iff.2 ⟨h2, fun x hx => ⟨he x hx, (hhold hk he _).2 (h3 x hx).2.2⟩⟩, hk⟩)

theorem treeOk_rising {l : List Ent} (h : treeOk l = true) : Rising l := (treeOk_iff.1 h).2.1

/-- In a rising list a path stands once. -/
theorem rising_one {l : List Ent} (h : Rising l) {x y : Ent} (hx : x ∈ l) (hy : y ∈ l) (e : x.path = y.path) : x = y := by
  obtain ⟨i, hi, rfl⟩ := List.getElem_of_mem hx
  obtain ⟨j, hj, rfl⟩ := List.getElem_of_mem hy
  rcases Nat.lt_trichotomy i j with h1 | h1 | h1
  · exact absurd e (lt_ne (h.at_ h1 hj))
  · subst h1; rfl
  · exact absurd e.symm (lt_ne (h.at_ h1 hi))

/-- What the map of directories says ahead of the i-th entry. -/
def heldB (l : List Ent) (i : Nat) (z : ByteArray) : Bool := decide (z = ⟨#[47]⟩) || (l.take i).any fun y => decide (y.path = z) && holds y

theorem heldB_dir {l : List Ent} {i : Nat} {x : Ent} : heldB l i (dirOf x.path) = dirOk l i x := rfl

theorem heldB_succ {l : List Ent} {i : Nat} (hi : i < l.length) (z : ByteArray) : heldB l (i + 1) z = (heldB l i z || (decide (l[i].path = z) && holds l[i])) := by
  rw [heldB, heldB, ← List.take_append_getElem hi, List.any_append]
  simp [Bool.or_assoc]

/-- The entry's own path is held by none ahead of it. -/
theorem heldB_own {l : List Ent} {i : Nat} (hi : i < l.length) (hr : Rising (l.take (i + 1))) (he : entOk l[i] = true) : heldB l i l[i].path = false := by
  obtain ⟨ys, z, h1, _⟩ := ent_names he
  have hroot : l[i].path ≠ ⟨#[47]⟩ := fun e => by
    rw [e, names_root] at h1
    have := Option.some.inj h1
    simp at this
  rw [heldB, decide_eq_false hroot, Bool.false_or, List.any_eq_false]
  intro y hy
  obtain ⟨j, hj, rfl⟩ := List.getElem_of_mem hy
  rw [List.length_take] at hj
  have := hr.at_ (i := j) (j := i) (by omega) (by rw [List.length_take]; omega)
  rw [List.getElem_take, List.getElem_take] at this
  rw [List.getElem_take, decide_eq_false (lt_ne this)]
  simp
end Go.Proofs.YthadldnojdjlnaaGreatDoor

/-! TreeOps -/
namespace Go.Proofs.YthadldnojdjlnaaGreatDoor
open Go Go.RowKit

/-- Rising lists of the same entries are one. -/
theorem rising_ext : ∀ {a b : List Ent}, Rising a → Rising b → (∀ x, x ∈ a ↔ x ∈ b) → a = b
  | [], [], _, _, _ => rfl
  | [], y :: b, _, _, h => by have := (h y).2 (by simp); simp at this
  | x :: a, [], _, _, h => by have := (h x).1 (by simp); simp at this
  | x :: a, y :: b, ha, hb, h => by
    have ha' := List.pairwise_cons.1 ha
    have hb' := List.pairwise_cons.1 hb
    have hxy : x = y := by
      rcases List.mem_cons.1 ((h x).1 (by simp)) with e | hx
      · exact e
      · rcases List.mem_cons.1 ((h y).2 (by simp)) with e | hy
        · exact e.symm
        · have h1 := ha'.1 y hy
          have h2 := hb'.1 x hx
          rw [lt_asymm h1] at h2
          cases h2
    subst hxy
    congr 1
    refine rising_ext ha'.2 hb'.2 fun z => ?_
    constructor
    · intro hz
      rcases List.mem_cons.1 ((h z).1 (List.mem_cons_of_mem _ hz)) with rfl | hz'
      · have := ha'.1 z hz
        rw [lt_irrefl] at this
        cases this
      · exact hz'
    · intro hz
      rcases List.mem_cons.1 ((h z).2 (List.mem_cons_of_mem _ hz)) with rfl | hz'
      · have := hb'.1 z hz
        rw [lt_irrefl] at this
        cases this
      · exact hz'

/-- A list with an entry, instead of that at its path. -/
def insT (t : List Ent) (e : Ent) : List Ent := t.filter (fun x => lt x.path e.path) ++ e :: t.filter (fun x => lt e.path x.path)
/-- A list without the entry at a path. -/
def delT (t : List Ent) (p : ByteArray) : List Ent := t.filter fun x => !decide (x.path = p)

theorem mem_insT {t : List Ent} {e y : Ent} : y ∈ insT t e ↔ y = e ∨ (y ∈ t ∧ y.path ≠ e.path) := by
  rw [insT, List.mem_append, List.mem_cons, List.mem_filter, List.mem_filter]
  constructor
  · rintro (⟨h1, h2⟩ | rfl | ⟨h1, h2⟩)
    · exact .inr ⟨h1, lt_ne h2⟩
    · exact .inl rfl
    · exact .inr ⟨h1, (lt_ne h2).symm⟩
  · rintro (rfl | ⟨h1, h2⟩)
    · exact .inr (.inl rfl)
    · rcases h3 : lt y.path e.path with _ | _
      · rcases h4 : lt e.path y.path with _ | _
        · exact absurd (lt_total h3 h4) h2
        · exact .inr (.inr ⟨h1, rfl⟩)
      · exact .inl ⟨h1, rfl⟩
theorem mem_delT {t : List Ent} {p : ByteArray} {y : Ent} : y ∈ delT t p ↔ y ∈ t ∧ y.path ≠ p := by
  rw [delT, List.mem_filter]
  simp

theorem rising_insT {t : List Ent} (h : Rising t) (e : Ent) : Rising (insT t e) := by
  rw [Rising, insT, List.pairwise_append]
  refine ⟨h.filter _, List.pairwise_cons.2 ⟨fun y hy => (List.mem_filter.1 hy).2, h.filter _⟩, fun a ha b hb => ?_⟩
  have h1 := (List.mem_filter.1 ha).2
  rcases List.mem_cons.1 hb with rfl | hb
  · exact h1
  · exact lt_trans h1 (List.mem_filter.1 hb).2
theorem rising_delT {t : List Ent} (h : Rising t) (p : ByteArray) : Rising (delT t p) := List.Pairwise.filter _ h

theorem delT_len (t : List Ent) (p : ByteArray) : (delT t p).length ≤ t.length := List.length_filter_le _ _

/-- How long a list is then: by where its path stands. -/
theorem insT_delT (t : List Ent) (e : Ent) : insT (delT t e.path) e = insT t e := by
  rw [insT, insT, delT, List.filter_filter, List.filter_filter]
  congr 1
  · refine List.filter_congr fun x hx => ?_
    by_cases h : x.path = e.path
    · simp [h, lt_irrefl]
    · simp [h]
  · congr 1
    refine List.filter_congr fun x hx => ?_
    by_cases h : x.path = e.path
    · simp [h, lt_irrefl]
    · simp [h]

theorem len_split (t : List Ent) (p : ByteArray) : (t.filter fun x => lt x.path p).length + (t.filter fun x => lt p x.path).length = (delT t p).length := by
  induction t with
  | nil => rfl
  | cons x t ih =>
    rw [delT] at ih ⊢
    rw [List.filter_cons, List.filter_cons, List.filter_cons]
    by_cases e : x.path = p
    · subst e
      simp [lt_irrefl]
      simpa using ih
    · rcases h1 : lt x.path p with _ | _
      · rcases h2 : lt p x.path with _ | _
        · exact absurd (lt_total h1 h2) e
        · simp [e] at ih ⊢
          omega
      · rw [lt_asymm h1]
        simp [e] at ih ⊢
        omega
theorem insT_len (t : List Ent) (e : Ent) : (insT t e).length = (delT t e.path).length + 1 := by
  rw [insT, List.length_append, List.length_cons, ← len_split]
  omega

theorem delT_none {t : List Ent} {p : ByteArray} (h : ∀ x ∈ t, x.path ≠ p) : delT t p = t := by
  rw [delT, List.filter_eq_self]
  intro x hx
  simp [h x hx]

/-- What lies at a path. -/
def findT (t : List Ent) (p : ByteArray) : Option Ent := t.find? fun x => decide (x.path = p)
theorem findT_some {t : List Ent} {p : ByteArray} {x : Ent} (h : findT t p = some x) : x ∈ t ∧ x.path = p := by
  have h1 := List.find?_some h
  rw [decide_eq_true_eq] at h1
  exact ⟨List.mem_of_find?_eq_some h, h1⟩
theorem findT_none {t : List Ent} {p : ByteArray} (h : findT t p = none) : ∀ x ∈ t, x.path ≠ p := by
  rw [findT, List.find?_eq_none] at h
  intro x hx e
  exact h x hx (by simp [e])
theorem findT_of {t : List Ent} (hr : Rising t) {x : Ent} (hx : x ∈ t) : findT t x.path = some x := by
  rcases h : findT t x.path with _ | y
  · exact absurd rfl (findT_none h x hx)
  · obtain ⟨h1, h2⟩ := findT_some h
    rw [rising_one hr h1 hx h2]
theorem findT_not {t : List Ent} {p : ByteArray} (h : ∀ x ∈ t, x.path ≠ p) : findT t p = none := by
  rw [findT, List.find?_eq_none]
  intro x hx
  simp [h x hx]

theorem findT_ins {t : List Ent} (hr : Rising t) (e : Ent) (p : ByteArray) : findT (insT t e) p = if p = e.path then some e else findT t p := by
  have hr2 := rising_insT hr e
  split
  · rename_i h
    subst h
    exact findT_of hr2 (mem_insT.2 (.inl rfl))
  · rename_i h
    rcases hf : findT t p with _ | x
    · refine findT_not fun y hy => ?_
      rcases mem_insT.1 hy with rfl | ⟨h1, _⟩
      · exact fun e => h e.symm
      · exact findT_none hf y h1
    · obtain ⟨h1, h2⟩ := findT_some hf
      rw [← h2]
      exact findT_of hr2 (mem_insT.2 (.inr ⟨h1, by rw [h2]; exact h⟩))
theorem findT_del {t : List Ent} (hr : Rising t) (q p : ByteArray) : findT (delT t q) p = if p = q then none else findT t p := by
  split
  · rename_i h
    subst h
    exact findT_not fun y hy => (mem_delT.1 hy).2
  · rename_i h
    rcases hf : findT t p with _ | x
    · exact findT_not fun y hy => findT_none hf y (mem_delT.1 hy).1
    · obtain ⟨h1, h2⟩ := findT_some hf
      rw [← h2]
      exact findT_of (rising_delT hr q) (mem_delT.2 ⟨h1, by rw [h2]; exact h⟩)

/-- tree.at. -/
def atT (t : List Ent) (p : ByteArray) : Except Int Ent := match names p with
  | none => .error 2
  | some ys => if ys = [] then .ok ⟨p, 2, ⟨#[]⟩⟩ else match findT t p with
    | none => .error 3
    | some x => .ok x
/-- tree.Kind. -/
def kindT (t : List Ent) (p : ByteArray) : Except Int Int := if treeOk t = true then (match atT t p with | .error c => .error c | .ok x => .ok x.kind) else .error 16
/-- tree.Read. -/
def readT (t : List Ent) (p : ByteArray) : Except Int ByteArray := match kindT t p with
  | .error c => .error c
  | .ok k => if k = 2 then .error 5 else match atT t p with
    | .error _ => .ok ⟨#[]⟩
    | .ok x => .ok x.data
/-- tree.place: 0, or why not. -/
def placeT (t : List Ent) (p : ByteArray) : Int := match names p with
  | none => 2
  | some ys => if ys = [] then 1 else match atT t (dirOf p) with
    | .error c => c
    | .ok d => if d.kind = 1 then 6 else match atT t p with
      | .ok _ => 4
      | .error _ => 0
/-- tree.with. -/
def withT (t : List Ent) (e : Ent) : Except Int (List Ent) := if (insT t e).length ≤ 1024 then .ok (insT t e) else .error 9
/-- tree.made. -/
def madeT (t : List Ent) (p : ByteArray) (k : Int) : Except Int (List Ent) := if treeOk t = true then (if placeT t p = 0 then withT t ⟨p, k, ⟨#[]⟩⟩ else .error (placeT t p)) else .error 16
/-- tree.file. -/
def fileT (t : List Ent) (p : ByteArray) : Except Int Ent := if treeOk t = true then (if p = ⟨#[47]⟩ then .error 1 else match atT t p with
    | .error c => .error c
    | .ok x => if x.kind = 2 then .error 5 else .ok x) else .error 16
/-- tree.filled. -/
def filledT (s : ByteArray) (n : Nat) : ByteArray := B (s.data.toList.take n ++ List.replicate (n - s.size) 0)
/-- The data that comes of writing. -/
def writtenT (d : ByteArray) (k : Nat) (s : ByteArray) : ByteArray := B ((filledT d k).data.toList ++ s.data.toList ++ d.data.toList.drop (k + s.size))
/-- tree.Write. -/
def writeT (t : List Ent) (p : ByteArray) (k : Int) (s : ByteArray) : Except Int (List Ent) := match fileT t p with
  | .error c => .error c
  | .ok e => if k < 0 ∨ 256 < k ∨ 256 - k < (s.size : Int) then .error 15 else withT t { e with data := writtenT e.data k.toNat s }
/-- tree.Cut. -/
def cutT (t : List Ent) (p : ByteArray) (n : Int) : Except Int (List Ent) := match fileT t p with
  | .error c => .error c
  | .ok e => if n < 0 ∨ 256 < n then .error 15 else withT t { e with data := filledT e.data n.toNat }
/-- tree.Unlink. -/
def unlinkT (t : List Ent) (p : ByteArray) : Except Int (List Ent) := match fileT t p with
  | .error c => .error c
  | .ok _ => .ok (delT t p)
/-- The names in a directory of a tree, as they stand. -/
def inT (t : List Ent) (p : ByteArray) : List ByteArray := t.filterMap (inP p)
/-- tree.Rmdir. -/
def rmdirT (t : List Ent) (p : ByteArray) : Except Int (List Ent) := match fileT t p with
  | .ok _ => .error 6
  | .error c => if c = 5 then (if inT t p = [] then .ok (delT t p) else .error 7) else .error c
/-- tree.Rename. -/
def renameT (t : List Ent) (a b : ByteArray) : Except Int (List Ent) := match fileT t a with
  | .error c => .error c
  | .ok e => if placeT t b = 0 then withT (delT t a) { e with path := b } else .error (placeT t b)

/-! ### What comes is a tree -/

theorem names_dir {p : ByteArray} {ys : List ByteArray} {z : ByteArray} (h : names p = some (ys ++ [z])) : dirOf p = pathOf ys := by
  rw [dirOf, h]
  simp

theorem atT_root (t : List Ent) : atT t ⟨#[47]⟩ = .ok ⟨⟨#[47]⟩, 2, ⟨#[]⟩⟩ := by rw [atT, names_root]; rfl
theorem atT_deep {t : List Ent} {p : ByteArray} {ys : List ByteArray} (h : names p = some ys) (h0 : ys ≠ []) : atT t p = (match findT t p with | none => .error 3 | some x => .ok x) := by
  rw [atT, h]
  exact if_neg h0
theorem names_ne_root {p : ByteArray} {ys : List ByteArray} (h : names p = some ys) (h0 : ys ≠ []) : p ≠ ⟨#[47]⟩ := by
  rintro rfl
  rw [names_root] at h
  exact h0 (Option.some.inj h).symm
theorem atT_mem {t : List Ent} {p : ByteArray} {x : Ent} (hp : p ≠ ⟨#[47]⟩) (h : atT t p = .ok x) : x ∈ t ∧ x.path = p := by
  rw [atT] at h
  split at h
  · cases h
  · rename_i ys hy
    split at h
    · rename_i h0
      subst h0
      exact absurd (names_some hy).2.2.symm hp
    · split at h
      · cases h
      · rename_i y hy2
        cases h
        exact findT_some hy2

theorem mem_deep {t : List Ent} (h : treeOk t = true) {x : Ent} (hx : x ∈ t) : ∃ ys, names x.path = some ys ∧ ys ≠ [] ∧ x.path ≠ ⟨#[47]⟩ := by
  obtain ⟨ys, z, h1, _⟩ := ent_names ((treeOk_iff.1 h).2.2 x hx).1
  exact ⟨_, h1, by simp, names_ne_root h1 (by simp)⟩
theorem atT_of {t : List Ent} (h : treeOk t = true) {x : Ent} (hx : x ∈ t) : atT t x.path = .ok x := by
  obtain ⟨ys, h1, h2, _⟩ := mem_deep h hx
  rw [atT_deep h1 h2, findT_of (treeOk_rising h) hx]

/-- What a place asks. -/
theorem place_zero {t : List Ent} {p : ByteArray} (h : placeT t p = 0) (ht : treeOk t = true) : (∃ ys z, names p = some (ys ++ [z])) ∧ DirIn t p ∧ findT t p = none ∧ p ≠ ⟨#[47]⟩ := by
  rw [placeT] at h
  split at h
  · cases h
  · rename_i ys hy
    split at h
    · cases h
    · rename_i h0
      have hne := names_ne_root hy h0
      have hlast : names p = some (ys.dropLast ++ [ys.getLast h0]) := by rw [hy, List.dropLast_concat_getLast]
      split at h
      · rename_i c hc
        subst h
        rw [atT] at hc
        split at hc
        · cases hc
        · split at hc
          · cases hc
          · split at hc <;> cases hc
      · rename_i d hd
        split at h
        · cases h
        · rename_i hk
          split at h
          · cases h
          · rename_i c hc
            refine ⟨⟨_, _, hlast⟩, ?_, ?_, hne⟩
            · by_cases hr : dirOf p = ⟨#[47]⟩
              · exact .inl hr
              · obtain ⟨h1, h2⟩ := atT_mem hr hd
                have h3 := (treeOk_iff.1 ht).2.2 d h1
                have h4 := entOk_kind h3.1
                exact .inr ⟨d, h1, h2, by omega⟩
            · rw [atT_deep hy h0] at hc
              split at hc
              · rename_i hf
                exact hf
              · cases hc

/-- A new entry in its place. -/
theorem tree_ins {t : List Ent} {e : Ent} (ht : treeOk t = true) (hp : DirIn t e.path) (hn : findT t e.path = none) (he : entOk e = true) (hk : e.kind ≤ 2) (hl : t.length + 1 ≤ 1024) : treeOk (insT t e) = true := by
  obtain ⟨h1, h2, h3⟩ := treeOk_iff.1 ht
  refine treeOk_iff.2 ⟨?_, rising_insT h2 e, fun x hx => ?_⟩
  · rw [insT_len, delT_none (findT_none hn)]
    exact hl
  · have hdir : ∀ q, DirIn t q → DirIn (insT t e) q := fun q hq => hq.elim .inl fun ⟨y, hy, h4, h5⟩ => .inr ⟨y, mem_insT.2 (.inr ⟨hy, findT_none hn y hy⟩), h4, h5⟩
    rcases mem_insT.1 hx with rfl | ⟨hx, _⟩
    · exact ⟨he, hk, hdir _ hp⟩
    · exact ⟨(h3 x hx).1, (h3 x hx).2.1, hdir _ (h3 x hx).2.2⟩

theorem delT_mem_len {t : List Ent} (hr : Rising t) {x : Ent} (hx : x ∈ t) : (delT t x.path).length + 1 = t.length := by
  have : insT t x = t := rising_ext (rising_insT hr x) hr fun y => by
    rw [mem_insT]
    constructor
    · rintro (rfl | ⟨h, _⟩)
      · exact hx
      · exact h
    · intro hy
      by_cases e : y.path = x.path
      · exact .inl (rising_one hr hy hx e)
      · exact .inr ⟨hy, e⟩
  rw [← insT_len, this]
theorem insT_same {t : List Ent} (hr : Rising t) {x : Ent} (hx : x ∈ t) : insT t x = t := rising_ext (rising_insT hr x) hr fun y => by
  rw [mem_insT]
  constructor
  · rintro (rfl | ⟨h, _⟩)
    · exact hx
    · exact h
  · intro hy
    by_cases e : y.path = x.path
    · exact .inl (rising_one hr hy hx e)
    · exact .inr ⟨hy, e⟩

/-- Another entry of the same path and kind. -/
theorem tree_set {t : List Ent} {x e : Ent} (ht : treeOk t = true) (hx : x ∈ t) (hp : e.path = x.path) (hk : e.kind = x.kind) (he : entOk e = true) : treeOk (insT t e) = true ∧ (insT t e).length = t.length := by
  obtain ⟨h1, h2, h3⟩ := treeOk_iff.1 ht
  have hlen : (insT t e).length = t.length := by rw [insT_len, hp, delT_mem_len h2 hx]
  have hdir : ∀ q, DirIn t q → DirIn (insT t e) q := fun q hq => hq.elim .inl fun ⟨y, hy, h4, h5⟩ => by
    by_cases ey : y.path = e.path
    · have := rising_one h2 hy hx (by rw [ey, hp])
      subst this
      exact .inr ⟨e, mem_insT.2 (.inl rfl), by rw [hp, h4], by rw [hk, h5]⟩
    · exact .inr ⟨y, mem_insT.2 (.inr ⟨hy, ey⟩), h4, h5⟩
  refine ⟨treeOk_iff.2 ⟨by omega, rising_insT h2 e, fun y hy => ?_⟩, hlen⟩
  rcases mem_insT.1 hy with rfl | ⟨hy, _⟩
  · refine ⟨he, by rw [hk]; exact (h3 x hx).2.1, ?_⟩
    rw [hp]
    exact hdir _ (h3 x hx).2.2
  · exact ⟨(h3 y hy).1, (h3 y hy).2.1, hdir _ (h3 y hy).2.2⟩

/-- Without an entry in which none lies. -/
theorem tree_del {t : List Ent} {p : ByteArray} (ht : treeOk t = true) (h : ∀ y ∈ t, dirOf y.path ≠ p ∨ p = ⟨#[47]⟩) : treeOk (delT t p) = true := by
  obtain ⟨h1, h2, h3⟩ := treeOk_iff.1 ht
  refine treeOk_iff.2 ⟨Nat.le_trans (delT_len t p) h1, rising_delT h2 p, fun y hy => ?_⟩
  obtain ⟨hy, _⟩ := mem_delT.1 hy
  refine ⟨(h3 y hy).1, (h3 y hy).2.1, ?_⟩
  rcases (h3 y hy).2.2 with hr | ⟨d, hd, h4, h5⟩
  · exact .inl hr
  · rcases h y hy with h6 | h6
    · exact .inr ⟨d, mem_delT.2 ⟨hd, by rw [h4]; exact h6⟩, h4, h5⟩
    · by_cases e : d.path = p
      · left
        rw [← h4, e, h6]
      · exact .inr ⟨d, mem_delT.2 ⟨hd, e⟩, h4, h5⟩

/-- In a file none lies. -/
theorem file_leaf {t : List Ent} {x : Ent} (ht : treeOk t = true) (hx : x ∈ t) (hk : x.kind ≠ 2) : ∀ y ∈ t, dirOf y.path ≠ x.path := by
  obtain ⟨h1, h2, h3⟩ := treeOk_iff.1 ht
  intro y hy e
  obtain ⟨_, _, _, hne⟩ := mem_deep ht hx
  rcases (h3 y hy).2.2 with hr | ⟨d, hd, h4, h5⟩
  · exact hne (by rw [← e, hr])
  · have := rising_one h2 hd hx (by rw [h4, e])
    subst this
    exact hk h5

theorem fileT_ok {t : List Ent} {p : ByteArray} {e : Ent} (h : fileT t p = .ok e) : treeOk t = true ∧ e ∈ t ∧ e.path = p ∧ e.kind = 1 ∧ p ≠ ⟨#[47]⟩ := by
  rw [fileT] at h
  split at h
  · rename_i ht
    split at h
    · cases h
    · rename_i hp
      split at h
      · cases h
      · rename_i x hx
        split at h
        · cases h
        · rename_i hk
          cases h
          obtain ⟨h1, h2⟩ := atT_mem hp hx
          have h3 := (treeOk_iff.1 ht).2.2 e h1
          have h4 := entOk_kind h3.1
          exact ⟨ht, h1, h2, by omega, hp⟩
  · cases h

theorem fileT_of {t : List Ent} {e : Ent} (ht : treeOk t = true) (he : e ∈ t) (hk : e.kind = 1) : fileT t e.path = .ok e := by
  obtain ⟨_, _, _, hne⟩ := mem_deep ht he
  rw [fileT, if_pos ht, if_neg hne, atT_of ht he]
  exact if_neg (by omega)

theorem readT_of {t : List Ent} {e : Ent} (ht : treeOk t = true) (he : e ∈ t) (hk : e.kind = 1) : readT t e.path = .ok e.data := by
  rw [readT, kindT, if_pos ht, atT_of ht he]
  exact if_neg (by omega)

theorem readT_ok {t : List Ent} {p s : ByteArray} (h : readT t p = .ok s) : ∃ e, fileT t p = .ok e ∧ e.data = s := by
  rw [readT, kindT] at h
  split at h
  · cases h
  · rename_i k hk
    split at hk
    · rename_i ht
      split at hk
      · cases hk
      · rename_i x hx
        cases hk
        split at h
        · cases h
        · rename_i hk2
          rw [hx] at h
          cases h
          have hp : p ≠ ⟨#[47]⟩ := by
            rintro rfl
            rw [atT_root] at hx
            cases hx
            exact hk2 rfl
          refine ⟨x, ?_, rfl⟩
          rw [fileT, if_pos ht, if_neg hp, hx]
          exact if_neg hk2
    · cases hk

/-- A file's data is another. -/
def setD (e : Ent) (d : ByteArray) : Ent := { e with data := d }
theorem entOk_set {e : Ent} (h : entOk e = true) (hk : e.kind = 1) {d : ByteArray} (hd : d.size ≤ 256) : entOk (setD e d) = true := by
  rw [entOk, Bool.and_eq_true] at h ⊢
  refine ⟨h.1, ?_⟩
  rw [if_pos (show (setD e d).kind = 1 from hk)]
  exact decide_eq_true hd
theorem entOk_data {e : Ent} (h : entOk e = true) (hk : e.kind = 1) : e.data.size ≤ 256 := by
  rw [entOk, Bool.and_eq_true] at h
  have := h.2
  rw [if_pos hk] at this
  simpa using this

theorem withT_set {t : List Ent} {e : Ent} (ht : treeOk t = true) (he : e ∈ t) (hk : e.kind = 1) {d : ByteArray} (hd : d.size ≤ 256) : withT t (setD e d) = .ok (insT t (setD e d)) ∧ treeOk (insT t (setD e d)) = true := by
  obtain ⟨h1, h2⟩ := tree_set (e := setD e d) ht he rfl rfl (entOk_set ((treeOk_iff.1 ht).2.2 e he).1 hk hd)
  rw [withT, if_pos (by rw [h2]; exact treeOk_len ht)]
  exact ⟨rfl, h1⟩

theorem filledT_size (s : ByteArray) (n : Nat) : (filledT s n).size = n := by
  have : s.data.toList.length = s.size := Array.length_toList
  rw [filledT, size_B, List.length_append, List.length_take, List.length_replicate]
  omega
theorem filledT_self (s : ByteArray) : filledT s s.size = s := by
  have : s.data.toList.length = s.size := Array.length_toList
  rw [filledT, List.take_of_length_le (by omega), Nat.sub_self]
  simp [B_toList]
end Go.Proofs.YthadldnojdjlnaaGreatDoor

/-! Shw -/
namespace Go.Proofs.YthadldnojdjlnaaGreatDoor
open Go Go.RowKit

/-- Whether a path lies below another. -/
def underB (p q : ByteArray) : Bool := match names p, names q with
  | some xs, some ys => decide (ys.length < xs.length) && decide (xs.take ys.length = ys)
  | _, _ => false

/-- Names that make a path. -/
def ValN (xs : List ByteArray) : Prop := xs.all nameB = true ∧ xs.length ≤ 6
theorem ValN.names {xs : List ByteArray} (h : ValN xs) : names (pathOf xs) = some xs := names_pathOf h.1 h.2
theorem ValN.left {xs ys : List ByteArray} (h : ValN (xs ++ ys)) : ValN xs := by
  obtain ⟨h1, h2⟩ := h
  rw [List.all_append, Bool.and_eq_true] at h1
  rw [List.length_append] at h2
  exact ⟨h1.1, by omega⟩
theorem ValN.take {xs : List ByteArray} (h : ValN xs) (n : Nat) : ValN (xs.take n) := by
  rw [← List.take_append_drop n xs] at h
  exact h.left
theorem ValN.of {p : ByteArray} {xs : List ByteArray} (h : Proofs.YthadldnojdjlnaaGreatDoor.names p = some xs) : ValN xs ∧ pathOf xs = p := ⟨⟨(names_some h).1, (names_some h).2.1⟩, (names_some h).2.2⟩
theorem ValN.inj {xs ys : List ByteArray} (h : ValN xs) (h' : ValN ys) (e : pathOf xs = pathOf ys) : xs = ys := pathOf_inj h.1 h.2 h'.1 h'.2 e
theorem ValN.root {xs : List ByteArray} (h : ValN xs) : pathOf xs = ⟨#[47]⟩ ↔ xs = [] := pathOf_root h.1 h.2

theorem under_app {xs rest : List ByteArray} (hv : ValN (xs ++ rest)) (h0 : rest ≠ []) : underB (pathOf (xs ++ rest)) (pathOf xs) = true := by
  have := List.length_pos_iff.2 h0
  rw [underB, hv.names, hv.left.names]
  simp
  omega
theorem under_names {p q : ByteArray} (h : underB p q = true) : ∃ ys rest, rest ≠ [] ∧ q = pathOf ys ∧ p = pathOf (ys ++ rest) ∧ ValN (ys ++ rest) := by
  rw [underB] at h
  split at h
  · rename_i xs ys hx hy
    rw [Bool.and_eq_true, decide_eq_true_eq, decide_eq_true_eq] at h
    obtain ⟨vx, ex⟩ := ValN.of hx
    obtain ⟨vy, ey⟩ := ValN.of hy
    have e : ys ++ xs.drop ys.length = xs := by
      have := List.take_append_drop ys.length xs
      rwa [h.2] at this
    refine ⟨ys, xs.drop ys.length, ?_, ey.symm, by rw [e, ex], by rw [e]; exact vx⟩
    intro h1
    have := congrArg List.length h1
    rw [List.length_drop] at this
    simp at this
    omega
  · cases h
theorem under_lt {p q : ByteArray} (h : underB p q = true) (hq : q ≠ ⟨#[47]⟩) : lt q p = true := by
  obtain ⟨ys, rest, h0, rfl, rfl, hv⟩ := under_names h
  have hy : ys ≠ [] := fun e => hq (by rw [e]; rfl)
  clear h hq
  induction rest generalizing ys with
  | nil => exact absurd rfl h0
  | cons z r ih =>
    have h1 := path_lt hy z
    rw [show ys ++ z :: r = (ys ++ [z]) ++ r by simp] at hv ⊢
    by_cases hr : r = []
    · subst hr
      rw [List.append_nil]
      exact h1
    · exact lt_trans h1 (ih (ys ++ [z]) hr hv (by simp))

theorem findE_T {l : List Ent} (h : layerOk l = true) (p : ByteArray) : findE l p = findT l p := by rw [findE, if_pos h, findT]

/-- What an entry of a layer makes of its path. -/
def resE (e : Ent) : Option Ent := if e.kind = 3 then none else if e.kind = 1 then some e else some ⟨e.path, 2, ⟨#[]⟩⟩
/-- Whether a layer hides what lay at a path, by what stands over it. -/
def cutL (l : List Ent) (p : ByteArray) : Bool := l.any fun e => !decide (e.kind = 2) && underB p e.path
/-- What a layer makes of what was shown at a path. -/
def stepL (l : List Ent) (p : ByteArray) (x : Option Ent) : Option Ent := match findT l p with
  | some e => resE e
  | none => if cutL l p = true then none else x
/-- What a stack shows at a path. -/
def showL (s : List (List Ent)) (p : ByteArray) : Option Ent := s.foldl (fun x l => stepL l p x) none

theorem showL_nil (p : ByteArray) : showL [] p = none := rfl
theorem showL_snoc (s : List (List Ent)) (l : List Ent) (p : ByteArray) : showL (s ++ [l]) p = stepL l p (showL s p) := by simp [showL, List.foldl_append]
theorem showL_take {s : List (List Ent)} {k : Nat} (h : k < s.length) (p : ByteArray) : showL (s.take (k + 1)) p = stepL s[k] p (showL (s.take k) p) := by rw [← List.take_append_getElem h, showL_snoc]

theorem stepL_some {l : List Ent} {p : ByteArray} {e : Ent} (h : findT l p = some e) (x : Option Ent) : stepL l p x = resE e := by rw [stepL, h]
theorem stepL_none {l : List Ent} {p : ByteArray} (h : findT l p = none) (x : Option Ent) : stepL l p x = if cutL l p = true then none else x := by rw [stepL, h]

theorem mem_root {l : List Ent} (h : layerOk l = true) {e : Ent} (he : e ∈ l) {ys : List ByteArray} (hv : ValN ys) (hp : e.path = pathOf ys) : ys ≠ [] := by
  rintro rfl
  obtain ⟨zs, z, h1, _⟩ := ent_names ((layerOk_iff.1 h).2.2 e he).1
  rw [hp, hv.names] at h1
  have := Option.some.inj h1
  simp at this

/-- What stands in a layer lies in a directory of it. -/
theorem findT_dir {l : List Ent} (h : layerOk l = true) {xs : List ByteArray} {z : ByteArray} (h0 : xs ≠ []) (hv : ValN (xs ++ [z])) {e : Ent} (he : findT l (pathOf (xs ++ [z])) = some e) : ∃ u, findT l (pathOf xs) = some u ∧ holds u = true := by
  obtain ⟨_, hr, hall⟩ := layerOk_iff.1 h
  obtain ⟨hm, hp⟩ := findT_some he
  have hd : dirOf e.path = pathOf xs := by rw [hp]; exact names_dir hv.names
  rcases (hall e hm).2 with h1 | ⟨y, hy, h2, h3⟩
  · rw [hd] at h1
    exact absurd (hv.left.root.1 h1) h0
  · refine ⟨y, ?_, h3⟩
    rw [← hd, ← h2]
    exact findT_of hr hy

theorem findT_up {l : List Ent} (h : layerOk l = true) {xs : List ByteArray} (h0 : xs ≠ []) : ∀ (n : Nat) (rest : List ByteArray), rest.length = n + 1 → ValN (xs ++ rest) → ∀ e, findT l (pathOf (xs ++ rest)) = some e → ∃ u, findT l (pathOf xs) = some u ∧ holds u = true := by
  intro n
  induction n with
  | zero =>
    intro rest hl hv e he
    obtain ⟨z, rfl⟩ := List.length_eq_one_iff.1 hl
    exact findT_dir h h0 hv he
  | succ n ih =>
    intro rest hl hv e he
    have hne : rest ≠ [] := List.ne_nil_of_length_pos (by omega)
    rw [← List.dropLast_concat_getLast hne, ← List.append_assoc] at hv he
    obtain ⟨u, hu, _⟩ := findT_dir h (by simp [h0]) hv he
    exact ih rest.dropLast (by rw [List.length_dropLast]; omega) hv.left u hu

/-- Where no directory stands, none lies under it. -/
theorem findT_below {l : List Ent} (h : layerOk l = true) {xs rest : List ByteArray} (h0 : xs ≠ []) (h1 : rest ≠ []) (hv : ValN (xs ++ rest)) (hn : ∀ u, findT l (pathOf xs) = some u → holds u = false) : findT l (pathOf (xs ++ rest)) = none := by
  rcases he : findT l (pathOf (xs ++ rest)) with _ | e
  · rfl
  · have := List.length_pos_iff.2 h1
    obtain ⟨u, hu, h2⟩ := findT_up h h0 (rest.length - 1) rest (by omega) hv e he
    rw [hn u hu] at h2
    cases h2

theorem cut_of {l : List Ent} {xs rest : List ByteArray} (h1 : rest ≠ []) (hv : ValN (xs ++ rest)) {u : Ent} (hu : findT l (pathOf xs) = some u) (hk : u.kind ≠ 2) : cutL l (pathOf (xs ++ rest)) = true := by
  obtain ⟨hm, hp⟩ := findT_some hu
  rw [cutL, List.any_eq_true]
  refine ⟨u, hm, ?_⟩
  rw [hp, under_app hv h1]
  simp [hk]

/-- From a floor on a directory was there without a break; what lies under it in the layers below is hidden. -/
structure Reset (s : List (List Ent)) (xs : List ByteArray) (f : Nat) : Prop where
  up : ∀ k l, f < k → s[k]? = some l → ∀ j, 1 ≤ j → j ≤ xs.length → ∀ u, findT l (pathOf (xs.take j)) = some u → u.kind = 2
  low : ∀ rest, rest ≠ [] → ValN (xs ++ rest) → (∃ l, s[f]? = some l ∧ cutL l (pathOf (xs ++ rest)) = true) ∨ showL (s.take f) (pathOf (xs ++ rest)) = none

theorem reset_cut {s : List (List Ent)} {xs : List ByteArray} {f k : Nat} {l : List Ent} {z : ByteArray} (hR : Reset s xs f) (hk : f < k) (hl : s[k]? = some l) (ho : layerOk l = true) (hv : ValN (xs ++ [z])) : cutL l (pathOf (xs ++ [z])) = false := by
  rw [cutL, List.any_eq_false]
  intro e he hc
  rw [Bool.and_eq_true] at hc
  obtain ⟨ys, rest, h0, h1, h2, hv2⟩ := under_names hc.2
  have e1 := hv.inj hv2 h2
  have hy := mem_root ho he hv2.left h1
  have hl1 := congrArg List.length e1
  simp only [List.length_append, List.length_singleton] at hl1
  have := List.length_pos_iff.2 h0
  have := List.length_pos_iff.2 hy
  have e2 : xs.take ys.length = ys := by
    have h3 := congrArg (List.take ys.length) e1
    rw [List.take_append_of_le_length (by omega), List.take_append_of_le_length (Nat.le_refl _), List.take_length] at h3
    exact h3
  have h4 := hR.up k l hk hl ys.length (by omega) (by omega) e (by rw [e2, ← h1]; exact findT_of (layerOk_iff.1 ho).2.1 he)
  simp [h4] at hc

/-- The last layer below k, down to a floor, that has an entry at a path tells. -/
def lastR (s : List (List Ent)) (p : ByteArray) (f : Nat) : Nat → Option Ent
  | 0 => none
  | k + 1 => if k < f then none else match findT (s[k]?.getD []) p with
    | some e => resE e
    | none => lastR s p f k

theorem lastR_low (s : List (List Ent)) (p : ByteArray) {f k : Nat} (h : k ≤ f) : lastR s p f k = none := by
  rcases k with _ | k
  · rfl
  · rw [lastR, if_pos (by omega)]

variable {s : List (List Ent)} {xs : List ByteArray} {z : ByteArray} {f : Nat}

theorem show_last (hs : ∀ l ∈ s, layerOk l = true) (hR : Reset s xs f) (hv : ValN (xs ++ [z])) : ∀ k, f < k → k ≤ s.length → showL (s.take k) (pathOf (xs ++ [z])) = lastR s (pathOf (xs ++ [z])) f k
  | 0, h, _ => by omega
  | k + 1, hf, hk => by
    have hks : k < s.length := by omega
    have hg : s[k]? = some s[k] := List.getElem?_eq_getElem hks
    rw [showL_take hks, lastR, if_neg (by omega), hg, Option.getD_some]
    rcases he : findT s[k] (pathOf (xs ++ [z])) with _ | e
    · rw [stepL_none he]
      by_cases e : f = k
      · subst e
        simp only [lastR_low s _ (Nat.le_refl f)]
        rcases hR.low [z] (by simp) hv with ⟨l, h1, h2⟩ | h1
        · rw [hg] at h1
          cases h1
          rw [if_pos h2]
        · rw [h1]
          split <;> rfl
      · rw [if_neg (by rw [reset_cut hR (by omega) hg (hs _ (List.getElem_mem hks)) hv]; simp)]
        exact show_last hs hR hv k (by omega) (by omega)
    · rw [stepL_some he]

theorem show_ask (hs : ∀ l ∈ s, layerOk l = true) (hR : Reset s xs f) (hv : ValN (xs ++ [z])) : showL s (pathOf (xs ++ [z])) = lastR s (pathOf (xs ++ [z])) f s.length := by
  by_cases hf : f < s.length
  · have := show_last hs hR hv s.length hf (Nat.le_refl _)
    rwa [List.take_length] at this
  · rw [lastR_low s _ (by omega)]
    rcases hR.low [z] (by simp) hv with ⟨l, h1, _⟩ | h1
    · rw [List.getElem?_eq_none (by omega)] at h1
      cases h1
    · rwa [List.take_of_length_le (by omega)] at h1

/-- What is hidden stays so where its directory isn't. -/
theorem show_quiet (hs : ∀ l ∈ s, layerOk l = true) {ds rest : List ByteArray} (hd : ds ≠ []) (h1 : rest ≠ []) (hv : ValN (ds ++ rest)) {b : Nat} (hb : showL (s.take b) (pathOf (ds ++ rest)) = none) : ∀ g, b ≤ g → g ≤ s.length → (∀ j l, b ≤ j → j < g → s[j]? = some l → findT l (pathOf ds) = none) → showL (s.take g) (pathOf (ds ++ rest)) = none
  | 0, hg, _, _ => by
    have : b = 0 := by omega
    subst this
    exact hb
  | g + 1, hg, hl, hq => by
    by_cases e : b = g + 1
    · rw [← e]; exact hb
    · have hgs : g < s.length := by omega
      have ih := show_quiet hs hd h1 hv hb g (by omega) (by omega) fun j l h2 h3 h4 => hq j l h2 (by omega) h4
      rw [showL_take hgs, ih, stepL_none (findT_below (hs _ (List.getElem_mem hgs)) hd h1 hv (by
        intro u hu
        rw [hq g _ (by omega) (by omega) (List.getElem?_eq_getElem hgs)] at hu
        cases hu))]
      split <;> rfl

theorem reset_up (hR : Reset s xs f) {g : Nat} (hg : f ≤ g) (hup : ∀ j l, g < j → s[j]? = some l → ∀ u, findT l (pathOf (xs ++ [z])) = some u → u.kind = 2) : ∀ k l, g < k → s[k]? = some l → ∀ j, 1 ≤ j → j ≤ (xs ++ [z]).length → ∀ u, findT l (pathOf ((xs ++ [z]).take j)) = some u → u.kind = 2 := by
  intro k l hk hl j h1 h2 u hu
  rw [List.length_append, List.length_singleton] at h2
  by_cases e : j = xs.length + 1
  · subst e
    rw [List.take_of_length_le (by simp)] at hu
    exact hup k l hk hl u hu
  · rw [List.take_append_of_le_length (by omega)] at hu
    exact hR.up k l (by omega) hl j h1 (by omega) u hu

/-- A directory that stands at a floor, below which no other stands down to its directory's. -/
theorem reset_bottom (hs : ∀ l ∈ s, layerOk l = true) (hR : Reset s xs f) {g : Nat} (hfg : f ≤ g) (hg : g < s.length) (hq : ∀ j l, f ≤ j → j < g → s[j]? = some l → findT l (pathOf (xs ++ [z])) = none)
    (hup : ∀ j l, g < j → s[j]? = some l → ∀ u, findT l (pathOf (xs ++ [z])) = some u → u.kind = 2) : Reset s (xs ++ [z]) g := by
  refine ⟨reset_up hR hfg hup, fun rest h0 hv => ?_⟩
  have hlow := hR.low ([z] ++ rest) (by simp) (by rw [← List.append_assoc]; exact hv)
  rw [← List.append_assoc] at hlow
  by_cases e : f = g
  · subst e
    exact hlow
  · right
    have hfs : f < s.length := by omega
    refine show_quiet hs (by simp) h0 hv (b := f + 1) ?_ g (by omega) (by omega) fun j l h1 h2 h3 => hq j l (by omega) h2 h3
    rw [showL_take hfs, stepL_none (findT_below (hs _ (List.getElem_mem hfs)) (by simp) h0 hv (by
      intro u hu
      rw [hq f _ (Nat.le_refl _) (by omega) (List.getElem?_eq_getElem hfs)] at hu
      cases hu))]
    rcases hlow with ⟨l, h1, h2⟩ | h1
    · rw [List.getElem?_eq_getElem hfs] at h1
      cases h1
      rw [if_pos h2]
    · rw [h1]
      split <;> rfl

/-- A directory that stands at a floor, over something that is none. -/
theorem reset_over (hs : ∀ l ∈ s, layerOk l = true) (hR : Reset s xs f) {g k : Nat} (hfg : f ≤ g) (hkg : k < g) (hg : g < s.length) {e : Ent} (he : ∀ l, s[k]? = some l → findT l (pathOf (xs ++ [z])) = some e) (hk2 : e.kind ≠ 2) (hh : holds e = false)
    (hq : ∀ j l, k < j → j < g → s[j]? = some l → findT l (pathOf (xs ++ [z])) = none) (hup : ∀ j l, g < j → s[j]? = some l → ∀ u, findT l (pathOf (xs ++ [z])) = some u → u.kind = 2) : Reset s (xs ++ [z]) g := by
  refine ⟨reset_up hR hfg hup, fun rest h0 hv => .inr ?_⟩
  have hks : k < s.length := by omega
  have hek := he _ (List.getElem?_eq_getElem hks)
  refine show_quiet hs (by simp) h0 hv (b := k + 1) ?_ g (by omega) (by omega) fun j l h1 h2 h3 => hq j l (by omega) h2 h3
  rw [showL_take hks, stepL_none (findT_below (hs _ (List.getElem_mem hks)) (by simp) h0 hv (by
    intro u hu
    rw [hek] at hu
    cases hu
    exact hh)), if_pos (cut_of h0 hv hek hk2)]

/-- A directory that stands at a floor as one that hides. -/
theorem reset_opaque (hR : Reset s xs f) {g : Nat} (hfg : f ≤ g) (hg : g < s.length) {e : Ent} (he : ∀ l, s[g]? = some l → findT l (pathOf (xs ++ [z])) = some e) (hk2 : e.kind ≠ 2)
    (hup : ∀ j l, g < j → s[j]? = some l → ∀ u, findT l (pathOf (xs ++ [z])) = some u → u.kind = 2) : Reset s (xs ++ [z]) g := by
  refine ⟨reset_up hR hfg hup, fun rest h0 hv => .inl ⟨_, List.getElem?_eq_getElem hg, ?_⟩⟩
  exact cut_of h0 hv (he _ (List.getElem?_eq_getElem hg)) hk2

theorem ask_low (hs : ∀ l ∈ s, layerOk l = true) (hR : Reset s xs f) : ∀ k g, f ≤ k → k ≤ g → g < s.length →
    (∀ j l, k ≤ j → j < g → s[j]? = some l → findT l (pathOf (xs ++ [z])) = none) → (∀ j l, g ≤ j → s[j]? = some l → ∀ u, findT l (pathOf (xs ++ [z])) = some u → u.kind = 2) →
    ∃ h, askR s (pathOf (xs ++ [z])) f k g true = ((⟨pathOf (xs ++ [z]), 2, ⟨#[]⟩⟩, h), true) ∧ Reset s (xs ++ [z]) h
  | 0, g, hf, hk, hg, hq, hup => ⟨g, rfl, reset_bottom hs hR (by omega) hg (fun j l h1 h2 h3 => hq j l (by omega) h2 h3) fun j l h1 h2 => hup j l (by omega) h2⟩
  | k + 1, g, hf, hk, hg, hq, hup => by
    rw [askR]
    split
    · rename_i h1
      exact ⟨g, rfl, reset_bottom hs hR (by omega) hg (fun j l h1 h2 h3 => hq j l (by omega) h2 h3) fun j l h1 h2 => hup j l (by omega) h2⟩
    · rename_i h1
      have hks : k < s.length := by omega
      have ho := hs _ (List.getElem_mem hks)
      have hg' : s[k]? = some s[k] := List.getElem?_eq_getElem hks
      rw [hg', Option.getD_some, findE_T ho]
      rcases he : findT s[k] (pathOf (xs ++ [z])) with _ | e
      · exact ask_low hs hR k g (by omega) (by omega) hg (fun j l h2 h3 h4 => by
          by_cases e : j = k
          · subst e
            rw [hg'] at h4
            cases h4
            exact he
          · exact hq j l (by omega) h3 h4) hup
      · have hke := entOk_kind ((layerOk_iff.1 ho).2.2 e (findT_some he).1).1
        have heq : ∀ l, s[k]? = some l → findT l (pathOf (xs ++ [z])) = some e := fun l h => by
          rw [hg'] at h
          cases h
          exact he
        have hup2 : ∀ j l, k < j → s[j]? = some l → ∀ u, findT l (pathOf (xs ++ [z])) = some u → u.kind = 2 := fun j l h2 h3 u hu => by
          rcases Nat.lt_or_ge j g with h4 | h4
          · rw [hq j l (by omega) h4 h3] at hu
            cases hu
          · exact hup j l h4 h3 u hu
        dsimp only
        split
        · rename_i h2
          have h3 : e.kind = 3 ∨ e.kind = 1 := h2.elim .inl fun h => .inr h.1
          exact ⟨g, rfl, reset_over hs hR (by omega) (by omega) hg heq (by omega) (by
            simp only [holds, Bool.or_eq_false_iff, beq_eq_false_iff_ne]
            omega) (fun j l h4 h5 h6 => hq j l (by omega) h5 h6) fun j l h4 h5 => hup j l (by omega) h5⟩
        · rename_i h2
          have h2a : e.kind ≠ 3 := fun h => h2 (.inl h)
          have h2b : e.kind ≠ 1 := fun h => h2 (.inr ⟨h, rfl⟩)
          rw [if_neg h2b]
          split
          · rename_i h4
            exact ⟨k, rfl, reset_opaque (g := k) hR (by omega) hks heq (by omega) hup2⟩
          · rename_i h4
            refine ask_low hs hR k k (by omega) (Nat.le_refl _) hks (fun j l h5 h6 => by omega) fun j l h5 h6 u hu => ?_
            by_cases e1 : j = k
            · subst e1
              rw [heq l h6] at hu
              cases hu
              omega
            · exact hup2 j l (by omega) h6 u hu

/-- What a stack's ask says: what the last layer tells. -/
def AskIs (s : List (List Ent)) (ds : List ByteArray) (r : (Ent × Nat) × Bool) : Option Ent → Prop
  | none => r.2 = false
  | some e => r.2 = true ∧ r.1.1 = e ∧ (e.kind ≠ 1 → Reset s ds r.1.2)

theorem ask_top (hs : ∀ l ∈ s, layerOk l = true) (hR : Reset s xs f) : ∀ k g, k ≤ s.length → (∀ j l, k ≤ j → s[j]? = some l → findT l (pathOf (xs ++ [z])) = none) →
    AskIs s (xs ++ [z]) (askR s (pathOf (xs ++ [z])) f k g false) (lastR s (pathOf (xs ++ [z])) f k)
  | 0, g, _, _ => rfl
  | k + 1, g, hk, hq => by
    rw [askR, lastR]
    by_cases h1 : k < f
    · rw [if_pos h1, if_pos h1]
      exact rfl
    · rw [if_neg h1, if_neg h1]
      have hks : k < s.length := by omega
      have ho := hs _ (List.getElem_mem hks)
      have hg' : s[k]? = some s[k] := List.getElem?_eq_getElem hks
      rw [hg', Option.getD_some, findE_T ho]
      rcases he : findT s[k] (pathOf (xs ++ [z])) with _ | e
      · exact ask_top hs hR k g (by omega) fun j l h2 h3 => by
          by_cases e : j = k
          · subst e
            rw [hg'] at h3
            cases h3
            exact he
          · exact hq j l (by omega) h3
      · have hke := entOk_kind ((layerOk_iff.1 ho).2.2 e (findT_some he).1).1
        have hep := (findT_some he).2
        have heq : ∀ l, s[k]? = some l → findT l (pathOf (xs ++ [z])) = some e := fun l h => by
          rw [hg'] at h
          cases h
          exact he
        have hup2 : ∀ j l, k < j → s[j]? = some l → ∀ u, findT l (pathOf (xs ++ [z])) = some u → u.kind = 2 := fun j l h2 h3 u hu => by
          rw [hq j l (by omega) h3] at hu
          cases hu
        dsimp only
        rw [resE]
        by_cases h3 : e.kind = 3
        · rw [if_pos (.inl h3), if_pos h3]
          exact rfl
        · rw [if_neg (by simp [h3]), if_neg h3]
          by_cases h4 : e.kind = 1
          · rw [if_pos h4, if_pos h4]
            exact ⟨rfl, rfl, fun h => absurd h4 h⟩
          · rw [if_neg h4, if_neg h4]
            by_cases h5 : e.kind = 4
            · rw [if_pos h5, hep]
              exact ⟨rfl, rfl, fun _ => reset_opaque (g := k) hR (by omega) hks heq (by omega) hup2⟩
            · rw [if_neg h5, hep]
              obtain ⟨h, h6, h7⟩ := ask_low (z := z) hs hR k k (by omega) (Nat.le_refl _) hks (fun j l h5 h6 => by omega) fun j l h5 h6 u hu => by
                by_cases e1 : j = k
                · subst e1
                  rw [heq l h6] at hu
                  cases hu
                  omega
                · exact hup2 j l (by omega) h6 u hu
              rw [h6]
              exact ⟨rfl, rfl, fun _ => h7⟩

/-- What is found behind some names, by what a stack shows. -/
def lookS (s : List (List Ent)) (ys : List ByteArray) : Nat → Except Int Ent
  | 0 => .ok ⟨⟨#[47]⟩, 2, ⟨#[]⟩⟩
  | i + 1 => match lookS s ys i with
    | .error c => .error c
    | .ok x => if x.kind = 1 then .error 6 else match showL s (pathOf (ys.take (i + 1))) with
      | none => .error 3
      | some e => .ok e

def LookIs (s : List (List Ent)) (ys : List ByteArray) (i : Nat) : Except Int (Ent × Nat) → Prop
  | .error c => lookS s ys i = .error c
  | .ok x => lookS s ys i = .ok x.1 ∧ (x.1.kind ≠ 1 → Reset s (ys.take i) x.2)

theorem look_show {ys : List ByteArray} (hs : ∀ l ∈ s, layerOk l = true) (hv : ValN ys) : ∀ i, i ≤ ys.length → LookIs s ys i (lookN s ys i)
  | 0, _ => ⟨rfl, fun _ => ⟨fun k l _ _ j h1 h2 => by simp at h2; omega, fun rest _ _ => .inr rfl⟩⟩
  | i + 1, hi => by
    have ih := look_show hs hv i (by omega)
    have et : ys.take (i + 1) = ys.take i ++ [ys[i]] := (List.take_append_getElem (by omega)).symm
    rw [lookN]
    rcases hl : lookN s ys i with c | x
    · rw [hl] at ih
      have ih : lookS s ys i = .error c := ih
      show lookS s ys (i + 1) = .error c
      rw [lookS, ih]
    · rw [hl] at ih
      obtain ⟨h1, h2⟩ := ih
      dsimp only
      by_cases hk : x.1.kind = 1
      · rw [if_pos hk]
        show lookS s ys (i + 1) = .error 6
        rw [lookS, h1]
        exact if_pos hk
      · rw [if_neg hk]
        have hR := h2 hk
        have hvt := hv.take (i + 1)
        have hls : lookS s ys (i + 1) = match showL s (pathOf (ys.take (i + 1))) with | none => .error 3 | some e => .ok e := by
          rw [lookS, h1]
          exact if_neg hk
        rw [et] at hvt hls ⊢
        have ha := ask_top (z := ys[i]) hs hR s.length 0 (Nat.le_refl _) fun j l h3 h4 => by
          rw [List.getElem?_eq_none h3] at h4
          cases h4
        rw [show_ask hs hR hvt] at hls
        rw [askE]
        rcases hq : lastR s (pathOf (ys.take i ++ [ys[i]])) x.2 s.length with _ | e
        · rw [hq] at ha hls
          have ha : (askR s (pathOf (ys.take i ++ [ys[i]])) x.2 s.length 0 false).2 = false := ha
          rw [if_neg (by rw [ha]; simp)]
          exact hls
        · rw [hq] at ha hls
          obtain ⟨a1, a2, a3⟩ := ha
          rw [if_pos a1]
          refine ⟨by rw [hls, a2], fun h => ?_⟩
          rw [et]
          exact a3 (by rw [← a2]; exact h)

/-- What is shown lies in a directory that is shown. -/
def TreeF (g : ByteArray → Option Ent) : Prop := ∀ xs z e, xs ≠ [] → ValN (xs ++ [z]) → g (pathOf (xs ++ [z])) = some e → ∃ d, g (pathOf xs) = some d ∧ d.kind = 2

theorem step_tree {l : List Ent} (hl : layerOk l = true) {g : ByteArray → Option Ent} (hg : TreeF g) : TreeF fun p => stepL l p (g p) := by
  intro xs z e h0 hv he
  have he : stepL l (pathOf (xs ++ [z])) (g (pathOf (xs ++ [z]))) = some e := he
  show ∃ d, stepL l (pathOf xs) (g (pathOf xs)) = some d ∧ d.kind = 2
  rcases hf : findT l (pathOf (xs ++ [z])) with _ | u
  · rw [stepL_none hf] at he
    split at he
    · cases he
    · rename_i hc
      obtain ⟨d, hd, hk⟩ := hg xs z e h0 hv he
      rcases hx : findT l (pathOf xs) with _ | v
      · rw [stepL_none hx, if_neg, hd]
        · exact ⟨d, rfl, hk⟩
        · intro h
          apply hc
          rw [cutL, List.any_eq_true] at h ⊢
          obtain ⟨w, hw, h1⟩ := h
          rw [Bool.and_eq_true] at h1
          refine ⟨w, hw, ?_⟩
          obtain ⟨ys, rest, r0, r1, r2, r3⟩ := under_names h1.2
          have := hv.left.inj r3 r2
          subst this
          rw [h1.1, r1, List.append_assoc, under_app (by rw [← List.append_assoc]; exact hv) (by simp)]
          rfl
      · rw [stepL_some hx]
        have hk2 : v.kind = 2 := Classical.byContradiction fun h => hc (cut_of (by simp) hv hx h)
        rw [resE, if_neg (by omega), if_neg (by omega)]
        exact ⟨_, rfl, rfl⟩
  · obtain ⟨v, hv1, hv2⟩ := findT_dir hl h0 hv hf
    rw [stepL_some hv1]
    simp only [holds, Bool.or_eq_true, beq_iff_eq] at hv2
    rw [resE, if_neg (by omega), if_neg (by omega)]
    exact ⟨_, rfl, rfl⟩

theorem show_tree (hs : ∀ l ∈ s, layerOk l = true) : TreeF (showL s) := by
  have key : ∀ k, k ≤ s.length → TreeF (showL (s.take k)) := by
    intro k
    induction k with
    | zero =>
      intro _ xs z e _ _ he
      cases he
    | succ k ih =>
      intro hk
      have := step_tree (hs _ (List.getElem_mem (show k < s.length by omega))) (ih (by omega))
      intro xs z e h0 hv he
      rw [showL_take (show k < s.length by omega)] at he ⊢
      exact this xs z e h0 hv he
  have := key s.length (Nat.le_refl _)
  rwa [List.take_length] at this

theorem lookS_of (hs : ∀ l ∈ s, layerOk l = true) {ys : List ByteArray} (hv : ValN ys) (i : Nat) : i + 1 ≤ ys.length → ∀ e, showL s (pathOf (ys.take (i + 1))) = some e → lookS s ys (i + 1) = .ok e := by
  induction i with
  | zero =>
    intro _ e he
    rw [lookS, lookS]
    simp only [he]
    rfl
  | succ i ih =>
    intro hi e he
    have et : ys.take (i + 1 + 1) = ys.take (i + 1) ++ [ys[i + 1]] := (List.take_append_getElem (by omega)).symm
    rw [lookS]
    have hvt := hv.take (i + 1 + 1)
    have he' := he
    rw [et] at hvt he'
    have hne : ys.take (i + 1) ≠ [] := by
      intro h
      have h1 := congrArg List.length h
      rw [List.length_take, List.length_nil] at h1
      omega
    obtain ⟨d, hd, hk⟩ := show_tree hs (ys.take (i + 1)) ys[i + 1] e hne hvt he'
    rw [ih (by omega) d hd]
    dsimp only
    rw [if_neg (by omega), he]
theorem lookS_ok {ys : List ByteArray} {i : Nat} {e : Ent} (h1 : 1 ≤ i) (h : lookS s ys i = .ok e) : showL s (pathOf (ys.take i)) = some e := by
  rcases i with _ | i
  · omega
  · rw [lookS] at h
    split at h
    · cases h
    · split at h
      · cases h
      · split at h
        · cases h
        · rename_i e2 he2
          cases h
          exact he2

/-- What look.At finds is what the stack shows. -/
theorem lookE_some {p : ByteArray} {ys : List ByteArray} (hs : stackOk s = true) (hn : names p = some ys) (h0 : ys ≠ []) {e : Ent} (he : showL s p = some e) : ∃ f, lookE s p = .ok (e, f) := by
  obtain ⟨_, hl⟩ := stackOk_layers hs
  obtain ⟨hv, hp⟩ := ValN.of hn
  have h1 := look_show hl hv ys.length (Nat.le_refl _)
  have h2 : lookS s ys ys.length = .ok e := by
    obtain ⟨n, hn'⟩ : ∃ n, ys.length = n + 1 := ⟨ys.length - 1, by have := List.length_pos_iff.2 h0; omega⟩
    have := lookS_of hl hv n (by omega) e (by rw [← hn', List.take_length, hp]; exact he)
    rwa [← hn'] at this
  rw [lookE, if_pos hs, hn]
  dsimp only
  rcases hq : lookN s ys ys.length with c | x
  · rw [hq] at h1
    have h1 : lookS s ys ys.length = .error c := h1
    rw [h1] at h2
    cases h2
  · rw [hq] at h1
    obtain ⟨h1, _⟩ := h1
    rw [h1] at h2
    cases h2
    exact ⟨x.2, rfl⟩
theorem lookE_show {p : ByteArray} {ys : List ByteArray} (hn : names p = some ys) (h0 : ys ≠ []) {x : Ent × Nat} (h : lookE s p = .ok x) : showL s p = some x.1 := by
  obtain ⟨zs, hs, hz, hl, _⟩ := lookE_ok h
  rw [hn] at hz
  cases hz
  obtain ⟨_, hla⟩ := stackOk_layers hs
  obtain ⟨hv, hp⟩ := ValN.of hn
  have h1 := look_show hla hv ys.length (Nat.le_refl _)
  rw [hl] at h1
  have := lookS_ok (List.length_pos_iff.2 h0) h1.1
  rwa [List.take_length, hp] at this
theorem shows_show {p : ByteArray} {ys : List ByteArray} (hs : stackOk s = true) (hn : names p = some ys) (h0 : ys ≠ []) : showsE s p = (showL s p).isSome := by
  rw [showsE]
  rcases hl : lookE s p with c | x
  · rcases hq : showL s p with _ | e
    · rfl
    · obtain ⟨f, hf⟩ := lookE_some hs hn h0 hq
      rw [hf] at hl
      cases hl
  · rw [lookE_show hn h0 hl]
    rfl
end Go.Proofs.YthadldnojdjlnaaGreatDoor

/-! ShF -/
namespace Go.Proofs.YthadldnojdjlnaaGreatDoor
open Go Go.RowKit

theorem findT_filter {t : List Ent} (hr : Rising t) (g : Ent → Bool) (p : ByteArray) : findT (t.filter g) p = match findT t p with | some x => if g x = true then some x else none | none => none := by
  rcases hf : findT t p with _ | x
  · exact findT_not fun y hy => findT_none hf y (List.mem_filter.1 hy).1
  · obtain ⟨h1, h2⟩ := findT_some hf
    dsimp only
    split
    · rename_i hg
      rw [← h2]
      exact findT_of (List.Pairwise.filter _ hr) (List.mem_filter.2 ⟨h1, hg⟩)
    · rename_i hg
      refine findT_not fun y hy e => hg ?_
      have := rising_one hr (List.mem_filter.1 hy).1 h1 (by rw [e, h2])
      rw [← this]
      exact (List.mem_filter.1 hy).2

/-- Whether an entry of a tree goes, where one is laid over it. -/
def goesB (e x : Ent) : Bool := if e.kind = 2 then decide (x.path = e.path) && decide (x.kind = 1) else decide (x.path = e.path) || underB x.path e.path
/-- fold.one. -/
def oneT (t : List Ent) (e : Ent) : List Ent := if e.kind = 3 then t.filter fun x => !goesB e x else insT (t.filter fun x => !goesB e x) (if e.kind = 4 then ⟨e.path, 2, e.data⟩ else e)
/-- A layer over a tree. -/
def overT (t l : List Ent) : List Ent := l.foldl oneT t
/-- A stack, folded. -/
def foldT (s : List (List Ent)) : List Ent := s.foldl overT []

theorem overT_snoc (t l : List Ent) (e : Ent) : overT t (l ++ [e]) = oneT (overT t l) e := by simp [overT]
theorem foldT_snoc (s : List (List Ent)) (l : List Ent) : foldT (s ++ [l]) = overT (foldT s) l := by simp [foldT]
theorem overT_take (t : List Ent) {l : List Ent} {k : Nat} (h : k < l.length) : overT t (l.take (k + 1)) = oneT (overT t (l.take k)) l[k] := by rw [← List.take_append_getElem h, overT_snoc]
theorem foldT_take {s : List (List Ent)} {k : Nat} (h : k < s.length) : foldT (s.take (k + 1)) = overT (foldT (s.take k)) s[k] := by rw [← List.take_append_getElem h, foldT_snoc]

theorem rising_one_ (t : List Ent) (hr : Rising t) (e : Ent) : Rising (oneT t e) := by
  rw [oneT]
  split
  · exact List.Pairwise.filter _ hr
  · exact rising_insT (List.Pairwise.filter _ hr) _
theorem one_len (t : List Ent) (e : Ent) : (oneT t e).length ≤ t.length + 1 := by
  have := List.length_filter_le (fun x => !goesB e x) t
  rw [oneT]
  split
  · omega
  · rw [insT_len]
    have := delT_len (t.filter fun x => !goesB e x) (if e.kind = 4 then (⟨e.path, 2, e.data⟩ : Ent) else e).path
    omega
theorem over_len (t : List Ent) : ∀ l : List Ent, (overT t l).length ≤ t.length + l.length := by
  intro l
  induction l generalizing t with
  | nil => exact Nat.le_refl _
  | cons e l ih =>
    have h1 := ih (oneT t e)
    have h2 := one_len t e
    show (overT (oneT t e) l).length ≤ _
    rw [List.length_cons]
    omega

theorem resE_dir {e : Ent} (he : entOk e = true) (h3 : e.kind ≠ 3) (h1 : e.kind ≠ 1) : resE e = some ⟨e.path, 2, e.data⟩ ∧ e.data = ⟨#[]⟩ := by
  have hd : e.data = ⟨#[]⟩ := by
    rw [entOk, Bool.and_eq_true] at he
    have h := he.2
    rw [if_neg h1] at h
    rw [Bool.and_eq_true, List.isEmpty_iff] at h
    exact data_inj h.2
  refine ⟨?_, hd⟩
  rw [resE, if_neg h3, if_neg h1, hd]

theorem lay_find {t : List Ent} (hr : Rising t) {e : Ent} (he : entOk e = true) (p : ByteArray) : findT (oneT t e) p = if p = e.path then resE e else if e.kind ≠ 2 ∧ underB p e.path = true then none else findT t p := by
  have hk := entOk_kind he
  have hff := findT_filter hr (fun x => !goesB e x) p
  have hin : ∀ u : Ent, u.path = e.path → findT (insT (t.filter fun x => !goesB e x) u) p = if p = e.path then some u else findT (t.filter fun x => !goesB e x) p := fun u hu => by rw [findT_ins (List.Pairwise.filter _ hr), hu]
  have hother : p ≠ e.path → findT (t.filter fun x => !goesB e x) p = if e.kind ≠ 2 ∧ underB p e.path = true then none else findT t p := fun hp => by
    rw [hff]
    rcases hf : findT t p with _ | x
    · simp
    · obtain ⟨_, hx⟩ := findT_some hf
      dsimp only
      rw [goesB]
      by_cases h2 : e.kind = 2
      · simp [h2, hx, hp]
      · rcases hu : underB p e.path with _ | _
        · simp [h2, hx, hp, hu]
        · simp [h2, hx, hp, hu]
  rw [oneT]
  by_cases h3 : e.kind = 3
  · rw [if_pos h3]
    by_cases hp : p = e.path
    · rw [if_pos hp, hff, resE, if_pos h3]
      rcases hf : findT t p with _ | x
      · rfl
      · obtain ⟨_, hx⟩ := findT_some hf
        dsimp only
        rw [if_neg]
        rw [goesB, if_neg (by omega), hx, hp]
        simp
    · rw [if_neg hp, hother hp]
  · rw [if_neg h3]
    by_cases h1 : e.kind = 1
    · rw [if_neg (show ¬ e.kind = 4 by omega), hin e rfl]
      by_cases hp : p = e.path
      · rw [if_pos hp, if_pos hp, resE, if_neg h3, if_pos h1]
      · rw [if_neg hp, if_neg hp, hother hp]
    · obtain ⟨hres, hd⟩ := resE_dir he h3 h1
      have hu : (if e.kind = 4 then (⟨e.path, 2, e.data⟩ : Ent) else e) = ⟨e.path, 2, e.data⟩ := by
        split
        · rfl
        · have : e.kind = 2 := by omega
          cases e
          simp at this ⊢
          exact this
      rw [hu, hin ⟨e.path, 2, e.data⟩ rfl]
      by_cases hp : p = e.path
      · rw [if_pos hp, if_pos hp, hres]
      · rw [if_neg hp, if_neg hp, hother hp]

theorem findT_snoc (l : List Ent) (e : Ent) (p : ByteArray) : findT (l ++ [e]) p = match findT l p with | some u => some u | none => if e.path = p then some e else none := by
  rw [findT, List.find?_append, ← findT]
  rcases findT l p with _ | u
  · by_cases h : e.path = p <;> simp [h]
  · rfl
theorem cutL_snoc (l : List Ent) (e : Ent) (p : ByteArray) : cutL (l ++ [e]) p = (cutL l p || (!decide (e.kind = 2) && underB p e.path)) := by simp [cutL]

/-- What a layer makes of a tree, path by path. -/
theorem over_find {t l : List Ent} (hr : Rising t) (hl : layerOk l = true) (p : ByteArray) : Rising (overT t l) ∧ findT (overT t l) p = stepL l p (findT t p) := by
  obtain ⟨_, hrl, hall⟩ := layerOk_iff.1 hl
  have key : ∀ k, k ≤ l.length → Rising (overT t (l.take k)) ∧ findT (overT t (l.take k)) p = stepL (l.take k) p (findT t p) := by
    intro k
    induction k with
    | zero =>
      intro _
      refine ⟨hr, ?_⟩
      rw [List.take_zero]
      show findT t p = _
      rw [stepL_none (by rfl)]
      exact (if_neg (by simp [cutL])).symm
    | succ k ih =>
      intro hk
      obtain ⟨h1, h2⟩ := ih (by omega)
      have hkl : k < l.length := by omega
      obtain ⟨e, hek⟩ : ∃ e, l[k] = e := ⟨_, rfl⟩
      have he := (hall l[k] (List.getElem_mem hkl)).1
      have hlow : ∀ u ∈ l.take k, lt u.path e.path = true := fun u hu => by
        obtain ⟨j, hj, rfl⟩ := List.getElem_of_mem hu
        rw [List.length_take] at hj
        rw [List.getElem_take, ← hek]
        exact hrl.at_ (by omega) hkl
      rw [overT_take t hkl]
      refine ⟨rising_one_ _ h1 _, ?_⟩
      rw [lay_find h1 he, h2, ← List.take_append_getElem hkl, stepL, stepL, findT_snoc, cutL_snoc]
      rw [hek] at he ⊢
      by_cases hp : p = e.path
      · have hn : findT (l.take k) p = none := findT_not fun u hu e2 => by
          have := hlow u hu
          rw [e2, hp, lt_irrefl] at this
          cases this
        rw [if_pos hp, hn]
        simp [hp]
      · rw [if_neg hp]
        rcases hf : findT (l.take k) p with _ | u
        · have hne : (if e.path = p then some e else none) = (none : Option Ent) := if_neg fun h => hp h.symm
          simp only [hne]
          by_cases h3 : e.kind ≠ 2 ∧ underB p e.path = true
          · rw [if_pos h3]
            simp [h3.1, h3.2]
          · rw [if_neg h3]
            have : (!decide (e.kind = 2) && underB p e.path) = false := by
              rw [Bool.and_eq_false_iff]
              by_cases h4 : e.kind = 2
              · left; simp [h4]
              · right
                rcases h5 : underB p e.path with _ | _
                · rfl
                · exact absurd ⟨h4, h5⟩ h3
            rw [this, Bool.or_false]
        · dsimp only
          rw [if_neg]
          rintro ⟨_, h4⟩
          obtain ⟨hu1, hu2⟩ := findT_some hf
          have h5 := hlow u hu1
          have hroot : e.path ≠ ⟨#[47]⟩ := by
            obtain ⟨ys, z, h6, _⟩ := ent_names he
            exact names_ne_root h6 (by simp)
          have h6 := under_lt h4 hroot
          rw [hu2] at h5
          rw [lt_asymm h5] at h6
          cases h6
  have := key l.length (Nat.le_refl _)
  rwa [List.take_length] at this

/-- The entries of a folded stack are right. -/
def MemT (t : List Ent) : Prop := ∀ x ∈ t, entOk x = true ∧ x.kind ≤ 2
theorem mem_one {t : List Ent} (ht : MemT t) {e : Ent} (he : entOk e = true) : MemT (oneT t e) := by
  intro x hx
  have hk := entOk_kind he
  rw [oneT] at hx
  split at hx
  · exact ht x (List.mem_filter.1 hx).1
  · rename_i h3
    rcases mem_insT.1 hx with rfl | ⟨h, _⟩
    · split
      · rename_i h4
        refine ⟨?_, by simp⟩
        rw [entOk, Bool.and_eq_true] at he ⊢
        refine ⟨he.1, ?_⟩
        have h5 := he.2
        rw [if_neg (by omega)] at h5
        rw [if_neg (by simp)]
        simp only [Bool.and_eq_true, decide_eq_true_eq] at h5 ⊢
        refine ⟨by simp, ?_⟩
        exact h5.2
      · exact ⟨he, by omega⟩
    · exact ht x (List.mem_filter.1 h).1
theorem mem_over {l : List Ent} (hl : ∀ e ∈ l, entOk e = true) : ∀ {t : List Ent}, MemT t → MemT (overT t l) := by
  induction l with
  | nil => intro t h; exact h
  | cons e l ih =>
    intro t h
    exact ih (fun x hx => hl x (by simp [hx])) (mem_one h (hl e (by simp)))

theorem treeF_of {t : List Ent} (h : treeOk t = true) : TreeF (findT t) := by
  obtain ⟨_, hr, hall⟩ := treeOk_iff.1 h
  intro xs z e h0 hv he
  obtain ⟨hm, hp⟩ := findT_some he
  have hd : dirOf e.path = pathOf xs := by rw [hp]; exact names_dir hv.names
  rcases (hall e hm).2.2 with h1 | ⟨y, hy, h2, h3⟩
  · rw [hd] at h1
    exact absurd (hv.left.root.1 h1) h0
  · refine ⟨y, ?_, h3⟩
    rw [← hd, ← h2]
    exact findT_of hr hy
theorem tree_of {t : List Ent} (hlen : t.length ≤ 1024) (hr : Rising t) (hm : MemT t) (hf : TreeF (findT t)) : treeOk t = true := by
  refine treeOk_iff.2 ⟨hlen, hr, fun x hx => ⟨(hm x hx).1, (hm x hx).2, ?_⟩⟩
  obtain ⟨ys, z, h1, h2, _, _, _, h6⟩ := ent_names (hm x hx).1
  obtain ⟨hv, hp⟩ := ValN.of h1
  by_cases h0 : ys = []
  · left
    rw [h2, h0]
    rfl
  · right
    obtain ⟨d, hd, hk⟩ := hf ys z x h0 hv (by rw [hp]; exact findT_of hr hx)
    obtain ⟨d1, d2⟩ := findT_some hd
    exact ⟨d, d1, by rw [d2, h2], hk⟩

/-- A layer over a tree makes a tree. -/
theorem over_tree {t l : List Ent} (ht : treeOk t = true) (hl : layerOk l = true) (hlen : t.length + l.length ≤ 1024) : treeOk (overT t l) = true := by
  obtain ⟨_, hr, hall⟩ := treeOk_iff.1 ht
  obtain ⟨_, _, hlall⟩ := layerOk_iff.1 hl
  have hle := over_len t l
  refine tree_of (by omega) (over_find hr hl ⟨#[]⟩).1 (mem_over (fun e he => (hlall e he).1) fun x hx => ⟨(hall x hx).1, (hall x hx).2.1⟩) ?_
  have h1 := step_tree hl (treeF_of ht)
  intro xs z e h0 hv he
  rw [(over_find hr hl _).2] at he ⊢
  exact h1 xs z e h0 hv he

/-- A stack's beginning, folded. -/
theorem fold_take {s : List (List Ent)} (hs : ∀ l ∈ s, layerOk l = true) (h9 : s.length ≤ 9) : ∀ k, k ≤ s.length → treeOk (foldT (s.take k)) = true ∧ (foldT (s.take k)).length ≤ 64 * k ∧ ∀ p, findT (foldT (s.take k)) p = showL (s.take k) p
  | 0, _ => ⟨by rfl, Nat.le_refl _, fun p => rfl⟩
  | k + 1, hk => by
    obtain ⟨h1, h2, h3⟩ := fold_take hs h9 k (by omega)
    have hks : k < s.length := by omega
    have ho := hs _ (List.getElem_mem hks)
    have h4 := layerOk_len ho
    have h5 := over_len (foldT (s.take k)) s[k]
    rw [foldT_take hks]
    refine ⟨over_tree h1 ho (by omega), by omega, fun p => ?_⟩
    rw [(over_find (treeOk_rising h1) ho p).2, h3, showL_take hks]
theorem fold_show {s : List (List Ent)} (hs : stackOk s = true) : treeOk (foldT s) = true ∧ (foldT s).length ≤ 576 ∧ ∀ p, findT (foldT s) p = showL s p := by
  obtain ⟨h9, hl⟩ := stackOk_layers hs
  obtain ⟨h1, h2, h3⟩ := fold_take hl h9 s.length (Nat.le_refl _)
  rw [List.take_length] at h1 h2 h3
  exact ⟨h1, by omega, h3⟩

/-! ### The names of a directory -/

theorem str_ext : ∀ {a b : List ByteArray}, (a.Pairwise fun x y => lt x y = true) → (b.Pairwise fun x y => lt x y = true) → (∀ x, x ∈ a ↔ x ∈ b) → a = b
  | [], [], _, _, _ => rfl
  | [], y :: b, _, _, h => by have := (h y).2 (by simp); simp at this
  | x :: a, [], _, _, h => by have := (h x).1 (by simp); simp at this
  | x :: a, y :: b, ha, hb, h => by
    have ha' := List.pairwise_cons.1 ha
    have hb' := List.pairwise_cons.1 hb
    have hxy : x = y := by
      rcases List.mem_cons.1 ((h x).1 (by simp)) with e | hx
      · exact e
      · rcases List.mem_cons.1 ((h y).2 (by simp)) with e | hy
        · exact e.symm
        · have h1 := ha'.1 y hy
          have h2 := hb'.1 x hx
          rw [lt_asymm h1] at h2
          cases h2
    subst hxy
    congr 1
    refine str_ext ha'.2 hb'.2 fun z => ?_
    constructor
    · intro hz
      rcases List.mem_cons.1 ((h z).1 (List.mem_cons_of_mem _ hz)) with rfl | hz'
      · have := ha'.1 z hz
        rw [lt_irrefl] at this
        cases this
      · exact hz'
    · intro hz
      rcases List.mem_cons.1 ((h z).2 (List.mem_cons_of_mem _ hz)) with rfl | hz'
      · have := hb'.1 z hz
        rw [lt_irrefl] at this
        cases this
      · exact hz'

theorem lt_app : ∀ (l : List UInt8) {a b : List UInt8}, l ++ a < l ++ b ↔ a < b
  | [], _, _ => Iff.rfl
  | c :: l, a, b => by
    rw [List.cons_append, List.cons_append, List.cons_lt_cons_iff]
    constructor
    · rintro (h | ⟨_, h⟩)
      · exact absurd h (UInt8.lt_irrefl _)
      · exact (lt_app l).1 h
    · intro h
      exact .inr ⟨rfl, (lt_app l).2 h⟩
theorem lt_child (p a b : ByteArray) : lt (childP p a) (childP p b) = lt a b := by
  rw [Bool.eq_iff_iff, lt, lt, decide_eq_true_eq, decide_eq_true_eq, childP, childP]
  split
  · rw [toList_B, toList_B]
    exact lt_app [47]
  · rw [toList_B, toList_B]
    have h := lt_app (p.data.toList ++ [47]) (a := a.data.toList) (b := b.data.toList)
    rw [List.append_assoc, List.append_assoc] at h
    exact h

theorem inP_child {p z : ByteArray} {x : Ent} (h : inP p x = some z) : x.path = childP p z ∧ nameB z = true := by
  obtain ⟨ys, hy, hp⟩ := inP_iff.1 h
  obtain ⟨hv, he⟩ := ValN.of hy
  refine ⟨?_, ?_⟩
  · rw [← he, ← hp, child_path hv.left.1 hv.left.2]
  · have := hv.1
    rw [List.all_append, Bool.and_eq_true] at this
    simpa using this.2

theorem inT_mem {t : List Ent} (ht : treeOk t = true) {p z : ByteArray} {ys : List ByteArray} (hn : names p = some ys) (hz : nameB z = true) : z ∈ inT t p ↔ (findT t (childP p z)).isSome = true := by
  obtain ⟨hv, hp⟩ := ValN.of hn
  rw [inT, List.mem_filterMap]
  constructor
  · rintro ⟨x, hx, h⟩
    rw [← (inP_child h).1, findT_of (treeOk_rising ht) hx]
    rfl
  · intro h
    rw [Option.isSome_iff_exists] at h
    obtain ⟨x, hx⟩ := h
    obtain ⟨h1, h2⟩ := findT_some hx
    refine ⟨x, h1, ?_⟩
    obtain ⟨ws, w, h3, _⟩ := ent_names ((treeOk_iff.1 ht).2.2 x h1).1
    have h4 := h3
    rw [h2, ← hp, child_path hv.1 hv.2] at h4
    rcases names_child hv.1 (nameOk_no hz) h4 with h5 | h5
    · simp at h5
    · rw [inP_iff]
      exact ⟨ys, by rw [h3, h5], hp⟩

theorem inT_sorted {t : List Ent} (hr : Rising t) (p : ByteArray) : (inT t p).Pairwise fun x y => lt x y = true := by
  rw [inT, List.pairwise_filterMap]
  refine hr.imp fun {a b} h x hx y hy => ?_
  have h1 := (inP_child hx).1
  have h2 := (inP_child hy).1
  rw [h1, h2, lt_child] at h
  exact h

theorem metP_name {s : List (List Ent)} {p z : ByteArray} {f : Nat} (h : z ∈ metP s p f) : nameB z = true := met_name h

/-- The names that list tells are those of the folded stack. -/
theorem names_fold {s : List (List Ent)} {p : ByteArray} {f : Nat} {l : List ByteArray} (hs : stackOk s = true) (hd : dirE s p = .ok f) (hl : NamesIs s p f l) : l = inT (foldT s) p := by
  obtain ⟨h1, _, h3⟩ := fold_show hs
  obtain ⟨x, hx, _, _⟩ := dirE_ok hd
  obtain ⟨ys, _, hn, _, _⟩ := lookE_ok hx
  obtain ⟨hv, hp⟩ := ValN.of hn
  have key : ∀ z, nameB z = true → showsE s (childP p z) = (findT (foldT s) (childP p z)).isSome := fun z hz => by
    rcases hq : names (childP p z) with _ | ws
    · have e1 : showsE s (childP p z) = false := by
        rw [showsE, lookE, if_pos hs, hq]
      rw [e1]
      rcases hf : findT (foldT s) (childP p z) with _ | e
      · rfl
      · obtain ⟨g1, g2⟩ := findT_some hf
        obtain ⟨vs, v, g3, _⟩ := ent_names ((treeOk_iff.1 h1).2.2 e g1).1
        rw [g2, hq] at g3
        cases g3
    · rw [h3]
      refine shows_show hs hq ?_
      rintro rfl
      have e1 := (ValN.of hq).2
      have h5 := childP_size p z
      rw [← e1] at h5
      have h6 : (pathOf []).size = 1 := rfl
      rw [nameB, nameOk, Bool.and_eq_true, Bool.and_eq_true, decide_eq_true_eq] at hz
      have h7 := hz.1.1
      rw [Array.length_toList] at h7
      have h8 : 1 ≤ z.size := h7
      omega
  refine str_ext hl.1 (inT_sorted (treeOk_rising h1) p) fun z => ?_
  constructor
  · intro hz
    have hzn := metP_name ((hl.2 z).1 hz).1
    rw [inT_mem h1 hn hzn, ← key z hzn]
    exact ((hl.2 z).1 hz).2
  · intro hz
    have hzn : nameB z = true := by
      rw [inT, List.mem_filterMap] at hz
      obtain ⟨x, _, h⟩ := hz
      exact (inP_child h).2
    have h5 := (inT_mem h1 hn hzn).1 hz
    rw [← key z hzn] at h5
    rw [hl.2]
    refine ⟨shows_met hd (nameOk_no hzn) ?_ h5, h5⟩
    rw [nameB, nameOk, Bool.and_eq_true, Bool.and_eq_true, decide_eq_true_eq, Array.length_toList] at hzn
    have h8 : 1 ≤ z.size := hzn.1.1
    omega
end Go.Proofs.YthadldnojdjlnaaGreatDoor

/-! RNames -/
namespace Go.Proofs.YthadldnojdjlnaaGreatDoor
open Go Go.RowKit Go.Shelf Go.Proofs

theorem sign_iff (b : UInt8) : sign b = true ↔ (97 ≤ b.toNat ∧ b.toNat ≤ 122) ∨ (48 ≤ b.toNat ∧ b.toNat ≤ 57) ∨ b.toNat = 45 ∨ b.toNat = 95 := by
  have h : ∀ n : Fin 256, (sign (UInt8.ofNat n.val) = true ↔ (97 ≤ n.val ∧ n.val ≤ 122) ∨ (48 ≤ n.val ∧ n.val ≤ 57) ∨ n.val = 45 ∨ n.val = 95) := by decide +kernel
  have := h ⟨b.toNat, b.toNat_lt⟩
  simpa using this

theorem all_step (l : List UInt8) (k : Nat) (c : UInt8) (h : l[k]? = some c) : (l.take (k + 1)).all sign = ((l.take k).all sign && sign c) := by
  have hk := (List.getElem?_eq_some_iff.1 h).1
  rw [← List.take_append_getElem hk, List.all_append]
  have := (List.getElem?_eq_some_iff.1 h).2
  simp [this]

def NmRel (s : ByteArray) (i : Value) : Prop := ∃ k : Nat, i = .int .i64 k ∧ k ≤ s.size ∧ Hid ((s.data.toList.take k).all sign = true)

theorem nm_next {s : ByteArray} {k : Nat} (hlt : k < s.size) (h : Hid ((s.data.toList.take (k + 1)).all sign = true)) :
    NmRel s (.int .i64 ((k : Int) + 1)) ∧ s.size - (intOf (.int .i64 ((k : Int) + 1))).toNat < s.size - (intOf (.int .i64 (k : Int))).toNat :=
  ⟨⟨k + 1, by simp, by omega, h⟩, by simp [intOf]; omega⟩

set_option maxHeartbeats 8000000 in
set_option maxRecDepth 20000 in
theorem RName_any (s : ByteArray) (hs : s.size ≤ 140737488355328) (w : World) :
    Calls Tryz.prog 42 #[.string s] w fun e w' => e = .returned (.bool (nameB s)) ∧ w' = w := by
  have hlen : s.data.toList.length = s.size := Array.length_toList
  have hnb : nameB s = (decide (1 ≤ s.size) && decide (s.size ≤ 8) && s.data.toList.all sign) := by rw [nameB, nameOk, hlen]
  have HW := Lib.hid hnb
  have Hlen := Lib.hid hlen
  clear hnb hlen
  go_enter Tryz.func42, Tryz.ntmps42
  go_wp2
  go_loop [3] (fun i => NmRel s i) (fun i => s.size - (intOf i).toNat)
  case atStart => exact ⟨0, rfl, Nat.zero_le _, Lib.hid (by simp)⟩
  case round =>
    obtain ⟨k, rfl, hks, hall⟩ := hrel
    by_cases hlt : k < s.size
    · have hlt' : (k : Int) < (s.size : Int) := by omega
      have hb : s.data.toList[k]? = some (s[k]'hlt) := by
        rw [Array.getElem?_toList]
        exact Array.getElem?_eq_getElem hlt
      have hnext := all_step s.data.toList k _ hb
      rw [hall.out, Bool.true_and] at hnext
      have hmem := List.mem_of_getElem? hb
      have hsi := sign_iff (s[k]'hlt)
      have hbad : Hid (¬ sign (s[k]'hlt) = true → nameB s = false) := Lib.hid fun h => by
        rw [HW.out, List.all_eq_false.2 ⟨_, hmem, h⟩, Bool.and_false]
      have Hgood : Hid (sign (s[k]'hlt) = true → (s.data.toList.take (k + 1)).all sign = true) := Lib.hid fun h => hnext.trans h
      obtain ⟨c, hc⟩ : ∃ c : Nat, (s[k]'hlt).toNat = c := ⟨_, rfl⟩
      rw [hc] at hsi
      have Hsi := Lib.hid hsi
      have hcells : ((s[k]'hlt).toNat : Int) = (c : Int) := by rw [hc]
      clear hb hnext hmem hsi hc
      by_cases h1 : 97 ≤ c
      · have h1' : (97 : Int) ≤ (c : Int) := by omega
        by_cases h2 : c ≤ 122
        · have h2' : (c : Int) ≤ 122 := by omega
          have Hn := Lib.hid (Hgood.out (Hsi.out.2 (.inl ⟨h1, h2⟩)))
          clear h1 h2
          go_wp2
          exact nm_next hlt Hn
        · have h2' : ¬ (c : Int) ≤ 122 := by omega
          have h3' : (48 : Int) ≤ (c : Int) := by omega
          have h4' : ¬ (c : Int) ≤ 57 := by omega
          have h5' : ((c : Int) == 45) = false := by rw [beq_eq_false_iff_ne]; omega
          have h6' : ((c : Int) == 95) = false := by rw [beq_eq_false_iff_ne]; omega
          have Hf := Lib.hid (hbad.out fun h => by have := Hsi.out.1 h; omega)
          clear h1 h2
          go_wp2
          go_ret
          exact ⟨by rw [Hf.out]; rfl, rfl⟩
      · have h1' : ¬ (97 : Int) ≤ (c : Int) := by omega
        by_cases h3 : 48 ≤ c
        · have h3' : (48 : Int) ≤ (c : Int) := by omega
          by_cases h4 : c ≤ 57
          · have h4' : (c : Int) ≤ 57 := by omega
            have Hn := Lib.hid (Hgood.out (Hsi.out.2 (.inr (.inl ⟨h3, h4⟩))))
            clear h1 h3 h4
            go_wp2
            exact nm_next hlt Hn
          · have h4' : ¬ (c : Int) ≤ 57 := by omega
            have h5' : ((c : Int) == 45) = false := by rw [beq_eq_false_iff_ne]; omega
            by_cases h6 : c = 95
            · have h6' : ((c : Int) == 95) = true := by rw [beq_iff_eq]; omega
              have Hn := Lib.hid (Hgood.out (Hsi.out.2 (.inr (.inr (.inr h6)))))
              clear h1 h3 h4 h6
              go_wp2
              exact nm_next hlt Hn
            · have h6' : ((c : Int) == 95) = false := by rw [beq_eq_false_iff_ne]; omega
              have Hf := Lib.hid (hbad.out fun h => by have := Hsi.out.1 h; omega)
              clear h1 h3 h4 h6
              go_wp2
              go_ret
              exact ⟨by rw [Hf.out]; rfl, rfl⟩
        · have h3' : ¬ (48 : Int) ≤ (c : Int) := by omega
          by_cases h5 : c = 45
          · have h5' : ((c : Int) == 45) = true := by rw [beq_iff_eq]; omega
            have Hn := Lib.hid (Hgood.out (Hsi.out.2 (.inr (.inr (.inl h5)))))
            clear h1 h3 h5
            go_wp2
            exact nm_next hlt Hn
          · have h5' : ((c : Int) == 45) = false := by rw [beq_eq_false_iff_ne]; omega
            have h6' : ((c : Int) == 95) = false := by rw [beq_eq_false_iff_ne]; omega
            have Hf := Lib.hid (hbad.out fun h => by have := Hsi.out.1 h; omega)
            clear h1 h3 h5
            go_wp2
            go_ret
            exact ⟨by rw [Hf.out]; rfl, rfl⟩
    · have hlt' : ¬ (k : Int) < (s.size : Int) := by omega
      have hall2 : s.data.toList.all sign = true := by
        have h := hall.out
        rwa [List.take_of_length_le (by rw [Hlen.out]; omega)] at h
      have hw : Hid (nameB s = (decide (1 ≤ s.size) && decide (s.size ≤ 8))) := Lib.hid (by rw [HW.out, hall2, Bool.and_true])
      clear hall2
      by_cases h1 : 1 ≤ s.size
      · have h1' : (1 : Int) ≤ (s.size : Int) := by omega
        by_cases h2 : s.size ≤ 8
        · have h2' : (s.size : Int) ≤ 8 := by omega
          go_wp2
          go_ret
          exact ⟨by rw [hw.out]; simp [h1, h2], rfl⟩
        · have h2' : ¬ (s.size : Int) ≤ 8 := by omega
          go_wp2
          go_ret
          exact ⟨by rw [hw.out]; simp [h1, h2], rfl⟩
      · have h1' : ¬ (1 : Int) ≤ (s.size : Int) := by omega
        go_wp2
        go_ret
        exact ⟨by rw [hw.out]; simp [h1], rfl⟩

/-! ### Split -/

/-- A path's text. -/
theorem names_slash {p : ByteArray} {r : List UInt8} (h : p.data.toList = 47 :: r) (h0 : r ≠ []) : names p = if (segs 47 r).all nameOk = true ∧ (segs 47 r).length ≤ 6 then some (pieces 47 (B r)) else none := by
  rw [names, h, splitP, if_neg (by simpa using h0)]
  rw [pieces, toList_B]
  by_cases hc : (segs 47 r).all nameOk = true ∧ (segs 47 r).length ≤ 6
  · rw [if_pos hc, if_pos ⟨rfl, hc.1, hc.2⟩]
    rfl
  · rw [if_neg hc, if_neg (fun h => hc h.2)]
    rfl

theorem sp_bad {p : ByteArray} {r : List UInt8} (h : p.data.toList = 47 :: r) (h0 : r ≠ []) {done : List ByteArray} {piece : ByteArray} {rest : List (List UInt8)} (hs : segs 47 r = done.map (·.data.toList) ++ piece.data.toList :: rest) (hb : nameB piece = false ∨ done.length = 6) : names p = none := by
  rw [names_slash h h0, if_neg]
  rintro ⟨h1, h2⟩
  rw [hs] at h1 h2
  rw [List.all_append, Bool.and_eq_true, List.all_cons, Bool.and_eq_true] at h1
  rw [List.length_append, List.length_map, List.length_cons] at h2
  rcases hb with hb | hb
  · have h3 : nameB piece = true := h1.2.1
    rw [h3] at hb
    cases hb
  · omega
theorem sp_end {p : ByteArray} {r : List UInt8} (h : p.data.toList = 47 :: r) (h0 : r ≠ []) {done : List ByteArray} (hs : segs 47 r = done.map (·.data.toList)) (ha : done.all nameB = true) (hl : done.length ≤ 6) : names p = some done := by
  rw [names_slash h h0, if_pos, pieces, toList_B, hs, map_B_toList]
  rw [hs, List.length_map]
  refine ⟨?_, hl⟩
  rw [List.all_map]
  exact ha

def SplitRAns (p : ByteArray) (w : World) (e : Ending) (w' : World) : Prop :=
  (∃ xs v, names p = some xs ∧ e = .returned (.tuple #[v, .bool true]) ∧ RdS w' v xs ∧ Ext w w') ∨ (names p = none ∧ e = .returned (.tuple #[.slice none 0 0, .bool false]) ∧ Ext w w')

/-- What is known between the rounds. -/
def SpIs (L r : List UInt8) (from_ i : Nat) (done : List ByteArray) : Prop :=
  done.all nameB = true ∧ ((i ≤ L.length ∧ from_ ≤ i ∧ segs 47 r = done.map (·.data.toList) ++ segs 47 (L.drop from_) ∧ ∀ t, from_ ≤ t → t < i → L[t]? ≠ some 47) ∨ (i = L.length + 1 ∧ segs 47 r = done.map (·.data.toList)))

def SpRel (L r : List UInt8) (n : Nat) (w : World) (v4 v5 v6 : Value) (wr : World) : Prop :=
  ∃ (f i : Nat) (done : List ByteArray), v5 = .int .i64 f ∧ v6 = .int .i64 i ∧ f ≤ i ∧ i ≤ n + 1 ∧ done.length ≤ 6 ∧ Hid (SpIs L r f i done) ∧ wr.ownsRow w.heap.size 9 1 v4 done.length (done.map Value.string) ∧ Ext w wr

theorem sp_go {L r : List UInt8} {n f i : Nat} {done : List ByteArray} {w W : World} {v4 : Value} (hn : L.length = n) (hin : i < n) (hfi : f ≤ i) (hd : done.length ≤ 6) (h : SpIs L r f i done) (hc : L[i]? ≠ some 47) (hrow : W.ownsRow w.heap.size 9 1 v4 done.length (done.map Value.string)) (hE : Ext w W) :
    SpRel L r n w v4 (.int .i64 f) (.int .i64 ((i : Int) + 1)) W ∧ n + 1 - (intOf (.int .i64 ((i : Int) + 1))).toNat < n + 1 - (intOf (.int .i64 (i : Int))).toNat := by
  obtain ⟨h1, h2⟩ := h
  rcases h2 with ⟨h2, h3, h4, h5⟩ | ⟨h2, _⟩
  · refine ⟨⟨f, i + 1, done, rfl, by simp, by omega, by omega, hd, Lib.hid ⟨h1, .inl ⟨by omega, by omega, h4, fun t h6 h7 => ?_⟩⟩, hrow, hE⟩, by simp [intOf]; omega⟩
    by_cases e : t = i
    · rw [e]; exact hc
    · exact h5 t h6 (by omega)
  · omega

theorem sp_piece {L r : List UInt8} {n f i : Nat} {done : List ByteArray} (hn : L.length = n) (hin : i ≤ n) (h : SpIs L r f i done) (hc : i = n ∨ L[i]? = some 47) :
    ∃ rest, segs 47 r = done.map (·.data.toList) ++ ((L.drop f).take (i - f)) :: rest ∧ ((i = n ∧ rest = []) ∨ (i < n ∧ rest = segs 47 (L.drop (i + 1)))) := by
  obtain ⟨h1, h2⟩ := h
  rcases h2 with ⟨h2, h3, h4, h5⟩ | ⟨h2, _⟩
  · by_cases hi : i = n
    · refine ⟨[], ?_, .inl ⟨hi, rfl⟩⟩
      rw [h4, segs_none 47 (L.drop f) fun k hk => ?_, List.take_of_length_le (by rw [List.length_drop]; omega)]
      rw [List.getElem?_drop] at hk
      have hkl := (List.getElem?_eq_some_iff.1 hk).1
      exact h5 (f + k) (by omega) (by omega) hk
    · have h6 : L[i]? = some 47 := hc.resolve_left hi
      refine ⟨segs 47 (L.drop (i + 1)), ?_, .inr ⟨by omega, rfl⟩⟩
      rw [h4, segs_some 47 (i - f) (L.drop f) (by rw [List.getElem?_drop, show f + (i - f) = i by omega]; exact h6) (fun k hk hk2 => by
        rw [List.getElem?_drop] at hk2
        exact h5 (f + k) (by omega) (by omega) hk2), List.drop_drop, show f + (i - f + 1) = i + 1 by omega]
  · omega

theorem sp_next {L r : List UInt8} {n f i : Nat} {done : List ByteArray} {piece : ByteArray} {rest : List (List UInt8)} {w W : World} {v4 : Value} (hn : L.length = n) (hin : i ≤ n) (hd : done.length ≤ 6) (hd6 : done.length ≠ 6) (h : SpIs L r f i done) (hp : piece.data.toList = (L.drop f).take (i - f)) (hb : nameB piece = true)
    (hs : segs 47 r = done.map (·.data.toList) ++ ((L.drop f).take (i - f)) :: rest) (hrest : (i = n ∧ rest = []) ∨ (i < n ∧ rest = segs 47 (L.drop (i + 1)))) (hrow : W.ownsRow w.heap.size 9 1 v4 (done.length + 1) (done.map Value.string ++ [.string piece])) (hE : Ext w W) :
    SpRel L r n w v4 (.int .i64 ((i : Int) + 1)) (.int .i64 ((i : Int) + 1)) W ∧ n + 1 - (intOf (.int .i64 ((i : Int) + 1))).toNat < n + 1 - (intOf (.int .i64 (i : Int))).toNat := by
  refine ⟨⟨i + 1, i + 1, done ++ [piece], by simp, by simp, Nat.le_refl _, by omega, by rw [List.length_append, List.length_singleton]; omega, Lib.hid ⟨by rw [List.all_append, h.1]; simpa using hb, ?_⟩, by rw [List.length_append, List.length_singleton, List.map_append]; exact hrow, hE⟩, by simp [intOf]; omega⟩
  have e : (done ++ [piece]).map (·.data.toList) = done.map (·.data.toList) ++ [(L.drop f).take (i - f)] := by rw [List.map_append, List.map_singleton, hp]
  rw [e]
  rcases hrest with ⟨h1, h2⟩ | ⟨h1, h2⟩
  · exact .inr ⟨by omega, by rw [hs, h2]⟩
  · exact .inl ⟨by omega, Nat.le_refl _, by rw [hs, h2]; simp, fun t h3 h4 => by omega⟩

theorem info_strR : (Tryz.prog.info? 9).map (fun i => (i.zero, i.size, i.bytes)) = some (some (.string ⟨#[]⟩), 1, 16) := by kernel_rfl

theorem slash_eq (p : ByteArray) : (p.toList == [47]) = decide (p.data.toList = [47]) := by
  rw [toList_eq, Bool.eq_iff_iff, beq_iff_eq, decide_eq_true_eq]

set_option maxHeartbeats 8000000 in
set_option maxRecDepth 20000 in
theorem RSplit_any (p : ByteArray) (hp : p.size ≤ 140737488355328) (w : World) :
    Calls Tryz.prog 24 #[.string p] w (SplitRAns p w) := by
  have hlen : p.data.toList.length = p.size := Array.length_toList
  have hse := slash_eq p
  by_cases hroot : p.data.toList = [47]
  · rw [decide_eq_true hroot] at hse
    have hn : names p = some [] := by simp [names, splitP, hroot]
    have Hn := Lib.hid hn
    clear hroot hlen hn
    go_enter Tryz.func24, Tryz.ntmps24
    go_wp2
    go_ret2
    exact .inl ⟨[], _, Hn.out, rfl, Rd.nil _ _ _, Ext.refl _⟩
  · rw [decide_eq_false hroot] at hse
    by_cases h0 : p.size = 0
    · have h0' : ((p.size : Int) == 0) = true := by rw [beq_iff_eq]; omega
      have hn : names p = none := by
        have : p.data.toList = [] := List.eq_nil_of_length_eq_zero (by omega)
        simp [names, splitP, this]
      have Hn := Lib.hid hn
      clear hroot hlen hn h0
      go_enter Tryz.func24, Tryz.ntmps24
      go_wp2
      go_ret2
      exact .inr ⟨Hn.out, rfl, Ext.refl _⟩
    · have h0' : ((p.size : Int) == 0) = false := by rw [beq_eq_false_iff_ne]; omega
      have h0'' : (0 : Int) < (p.size : Int) := by omega
      have hpos : 0 < p.size := by omega
      obtain ⟨c, hc⟩ : ∃ c, p[0]'hpos = c := ⟨_, rfl⟩
      have hcl : p.data.toList[0]? = some c := by
        rw [Array.getElem?_toList, ← hc]
        exact Array.getElem?_eq_getElem hpos
      obtain ⟨L, hL⟩ : ∃ L, p.data.toList = L := ⟨_, rfl⟩
      by_cases h47 : c = 47
      · have h47' : ((c.toNat : Int) != 47) = false := by rw [h47]; rfl
        obtain ⟨r, hr⟩ : ∃ r, L = 47 :: r := by
          rw [hL] at hcl
          rcases L with _ | ⟨d, r⟩
          · simp at hcl
          · simp at hcl
            exact ⟨r, by rw [hcl, h47]⟩
        have hr0 : r ≠ [] := by
          rintro rfl
          exact hroot (hL.trans hr)
        have hLp : p.data.toList = 47 :: r := hL.trans hr
        obtain ⟨n, hn⟩ : ∃ n, p.size = n := ⟨_, rfl⟩
        have hLn : L.length = n := by rw [← hL, hlen, hn]
        have Hgood : Hid (∀ done : List ByteArray, segs 47 r = done.map (·.data.toList) → done.all nameB = true → done.length ≤ 6 → names p = some done) := Lib.hid fun done h1 h2 h3 => sp_end hLp hr0 h1 h2 h3
        have Hbad : Hid (∀ (done : List ByteArray) (piece : ByteArray) (rest : List (List UInt8)), segs 47 r = done.map (·.data.toList) ++ piece.data.toList :: rest → nameB piece = false ∨ done.length = 6 → names p = none) := Lib.hid fun done piece rest h1 h2 => sp_bad hLp hr0 h1 h2
        have hstart : SpIs L r 1 1 [] := ⟨rfl, .inl ⟨by rw [hr]; simp, Nat.le_refl _, by rw [hr]; rfl, fun t h1 h2 => by omega⟩⟩
        have Hstart := Lib.hid hstart
        have HLn := Lib.hid hLn
        have HpL := Lib.hid hL
        have HN := Lib.hid hn
        have hn2 : (p.size : Int) = (n : Int) := by rw [hn]
        have hn1 : 1 ≤ n := by omega
        obtain ⟨i0, hi, hz0, hz1, hz2⟩ := info_parts info_strR
        have hpn : n ≤ 140737488355328 := by omega
        clear hroot hlen h0 h47 hcl hr hr0 hLp hLn hstart hL hn
        go_enter Tryz.func24, Tryz.ntmps24
        go_upto_region 8 with (fail)
        have h0n : ((n : Int) == 0) = false := by rw [beq_eq_false_iff_ne]; omega
        simp only [h0n]
        go_loopw [4, 5, 6] (fun v4 v5 v6 wr => SpRel L r n w v4 v5 v6 wr) (fun _ _ v6 _ => n + 1 - (intOf v6).toNat)
        case atStart => exact ⟨1, 1, [], rfl, rfl, Nat.le_refl _, by omega, by simp, Hstart, World.ownsRow_nil _ _ _ _, Ext.refl _⟩
        case round =>
          obtain ⟨f, i, done, rfl, rfl, hfi, hin1, hd6, hsp, hrow, hE⟩ := hrel
          by_cases hlt : i ≤ n
          · have hlt' : (i : Int) ≤ (n : Int) := by omega
            by_cases hin : i = n
            · have hin' : ((i : Int) == (n : Int)) = true := by rw [beq_iff_eq]; omega
              have hsep : i = n ∨ L[i]? = some 47 := .inl hin
              have hfi' : (f : Int) ≤ (i : Int) := by omega
              clear hin
              have hpsz : (p.extract f i).size ≤ 140737488355328 := by
                simp only [ByteArray.size_extract]
                omega
              have HNm := fun W => RName_any (p.extract f i) hpsz W
              obtain ⟨rest, hrs, hrest⟩ := sp_piece HLn.out hlt hsp.out hsep
              have hpd : (p.extract f i).data.toList = (L.drop f).take (i - f) := by rw [Lib.extract_data, HpL.out]
              have hbadp := Hbad.out done (p.extract f i) rest (by rw [hpd]; exact hrs)
              obtain ⟨piece, hpc⟩ : ∃ piece, p.extract f i = piece := ⟨_, rfl⟩
              rw [hpc] at HNm hpd hbadp
              have Hrow := Lib.hid hrow
              have Hbp := Lib.hid hbadp
              have Hlt := Lib.hid hlt
              obtain ⟨A4, c4, rfl⟩ := own_form hrow
              obtain ⟨m, hm⟩ : ∃ m, done.length = m := ⟨_, rfl⟩
              rw [hm] at Hrow hd6
              rw [hm]
              have Hm := Lib.hid hm
              have Hsep := Lib.hid (And.intro hrs (And.intro hrest hpd))
              clear hrs hrest hpd hbadp hrow hsep hm
              rcases hnb : nameB piece with _ | _
              · rw [hnb] at HNm
                have Hnone := Lib.hid (Hbp.out (.inl hnb))
                clear hnb
                go_wp2_with (go_at_call 42; refine (HNm _).mono ?_; rintro e w2 ⟨rfl, rfl⟩)
                go_ret2
                exact .inr ⟨Hnone.out, rfl, hE⟩
              · rw [hnb] at HNm
                have Hnb := Lib.hid hnb
                clear hnb
                by_cases h6 : m = 6
                · have h6' : ((m : Int) == 6) = true := by rw [beq_iff_eq]; omega
                  have Hnone := Lib.hid (Hbp.out (.inr (by rw [Hm.out]; exact h6)))
                  clear h6
                  go_wp2_with (go_at_call 42; refine (HNm _).mono ?_; rintro e w2 ⟨rfl, rfl⟩)
                  go_ret2
                  exact .inr ⟨Hnone.out, rfl, hE⟩
                · have h6' : ((m : Int) == 6) = false := by rw [beq_eq_false_iff_ne]; omega
                  have H6 := Lib.hid h6
                  have hEs := hE.size
                  clear h6
                  go_wp2_with (first | (go_at_call 42; refine (HNm _).mono ?_; rintro e w2 ⟨rfl, rfl⟩) | (at_builtin; (refine wpList_append_own _ rfl _ _ 29 rfl w.heap.size 9 i0 (.string ⟨#[]⟩) 1 16 Tryz.underlying29 hi hz0 hz1 hz2 rfl (by decide) _ _ _ rfl (Hrow.out.alloc _) ⟨w2.heap.size, 0, none⟩ 1 1 [.string piece] rfl rfl (World.news_of_block (cs := #[.string piece]) (t := 9) (fr := (0, 0)) (Blk.new w2 _ _)) (by simp [Value.oneCell']) (by unfold maxLen; omega) (by omega) (by rw [World.size_alloc]; omega) ?_; intro v9 w9 hown9 hgrow9 hnil9)))
                  exact sp_next HLn.out Hlt.out (by rw [Hm.out]; exact hd6) (by rw [Hm.out]; exact H6.out) hsp.out Hsep.out.2.2 Hnb.out Hsep.out.1 Hsep.out.2.1 (by rw [Hm.out]; exact hown9) (Ext.grown (hE.alloc _) hgrow9 (fun j hj => (Hrow.out.lt j hj).1))
            · have hin' : ((i : Int) == (n : Int)) = false := by rw [beq_eq_false_iff_ne]; omega
              have hil : i < p.size := by have := HN.out; omega
              have hil2 : (i : Int) < (n : Int) := by omega
              obtain ⟨d, hd⟩ : ∃ d, p[i]'hil = d := ⟨_, rfl⟩
              have hdl : L[i]? = some d := by
                rw [← HpL.out, Array.getElem?_toList, ← hd]
                exact Array.getElem?_eq_getElem hil
              have hfi' : (f : Int) ≤ (i : Int) := by omega
              by_cases h47 : d = 47
              · have h47' : ((d.toNat : Int) == 47) = true := by rw [h47]; rfl
                have hsep : i = n ∨ L[i]? = some 47 := .inr (by rw [hdl, h47])
                clear hin hdl h47
                have hpsz : (p.extract f i).size ≤ 140737488355328 := by
                  simp only [ByteArray.size_extract]
                  omega
                have HNm := fun W => RName_any (p.extract f i) hpsz W
                obtain ⟨rest, hrs, hrest⟩ := sp_piece HLn.out hlt hsp.out hsep
                have hpd : (p.extract f i).data.toList = (L.drop f).take (i - f) := by rw [Lib.extract_data, HpL.out]
                have hbadp := Hbad.out done (p.extract f i) rest (by rw [hpd]; exact hrs)
                obtain ⟨piece, hpc⟩ : ∃ piece, p.extract f i = piece := ⟨_, rfl⟩
                rw [hpc] at HNm hpd hbadp
                have Hrow := Lib.hid hrow
                have Hbp := Lib.hid hbadp
                have Hlt := Lib.hid hlt
                obtain ⟨A4, c4, rfl⟩ := own_form hrow
                obtain ⟨m, hm⟩ : ∃ m, done.length = m := ⟨_, rfl⟩
                rw [hm] at Hrow hd6
                rw [hm]
                have Hm := Lib.hid hm
                have Hsep := Lib.hid (And.intro hrs (And.intro hrest hpd))
                clear hrs hrest hpd hbadp hrow hsep hm
                rcases hnb : nameB piece with _ | _
                · rw [hnb] at HNm
                  have Hnone := Lib.hid (Hbp.out (.inl hnb))
                  clear hnb
                  go_wp2_with (go_at_call 42; refine (HNm _).mono ?_; rintro e w2 ⟨rfl, rfl⟩)
                  go_ret2
                  exact .inr ⟨Hnone.out, rfl, hE⟩
                · rw [hnb] at HNm
                  have Hnb := Lib.hid hnb
                  clear hnb
                  by_cases h6 : m = 6
                  · have h6' : ((m : Int) == 6) = true := by rw [beq_iff_eq]; omega
                    have Hnone := Lib.hid (Hbp.out (.inr (by rw [Hm.out]; exact h6)))
                    clear h6
                    go_wp2_with (go_at_call 42; refine (HNm _).mono ?_; rintro e w2 ⟨rfl, rfl⟩)
                    go_ret2
                    exact .inr ⟨Hnone.out, rfl, hE⟩
                  · have h6' : ((m : Int) == 6) = false := by rw [beq_eq_false_iff_ne]; omega
                    have H6 := Lib.hid h6
                    have hEs := hE.size
                    clear h6
                    go_wp2_with (first | (go_at_call 42; refine (HNm _).mono ?_; rintro e w2 ⟨rfl, rfl⟩) | (at_builtin; (refine wpList_append_own _ rfl _ _ 29 rfl w.heap.size 9 i0 (.string ⟨#[]⟩) 1 16 Tryz.underlying29 hi hz0 hz1 hz2 rfl (by decide) _ _ _ rfl (Hrow.out.alloc _) ⟨w2.heap.size, 0, none⟩ 1 1 [.string piece] rfl rfl (World.news_of_block (cs := #[.string piece]) (t := 9) (fr := (0, 0)) (Blk.new w2 _ _)) (by simp [Value.oneCell']) (by unfold maxLen; omega) (by omega) (by rw [World.size_alloc]; omega) ?_; intro v9 w9 hown9 hgrow9 hnil9)))
                    exact sp_next HLn.out Hlt.out (by rw [Hm.out]; exact hd6) (by rw [Hm.out]; exact H6.out) hsp.out Hsep.out.2.2 Hnb.out Hsep.out.1 Hsep.out.2.1 (by rw [Hm.out]; exact hown9) (Ext.grown (hE.alloc _) hgrow9 (fun j hj => (Hrow.out.lt j hj).1))
              · have h47' : ((d.toNat : Int) == 47) = false := by
                  rw [beq_eq_false_iff_ne]
                  intro e
                  exact h47 (UInt8.toNat_inj.1 (by show d.toNat = 47; omega))
                have hne : L[i]? ≠ some 47 := fun e => by
                  rw [hdl] at e
                  exact h47 (Option.some.inj e)
                have Hgo := Lib.hid (sp_go (w := w) (W := wr) HLn.out (by omega : i < n) hfi hd6 hsp.out hne hrow hE)
                clear hin hdl h47 hne hrow
                go_wp2
                exact Hgo.out
          · have hin : i = n + 1 := by omega
            have hlt' : ¬ (i : Int) ≤ (n : Int) := by omega
            have hns : names p = some done := by
              obtain ⟨h1, h2⟩ := hsp.out
              have hl := HLn.out
              rcases h2 with ⟨h2, _⟩ | ⟨_, h2⟩
              · omega
              · exact Hgood.out done h2 h1 hd6
            have hrd : RdS wr u4 done := RdS.of_own hrow (by omega)
            have Hns := Lib.hid (And.intro hns hrd)
            clear hns hrd hrow hin
            go_wp2
            go_ret2
            exact .inl ⟨done, _, Hns.out.1, rfl, Hns.out.2, hE⟩
      · have h47' : ((c.toNat : Int) != 47) = true := by
          rw [bne_iff_ne]
          intro e
          exact h47 (UInt8.toNat_inj.1 (by show c.toNat = 47; omega))
        have hn : names p = none := by
          rw [hL] at hcl
          rcases L with _ | ⟨d, r⟩
          · simp [names, splitP, hL]
          · simp at hcl
            have hd : ¬ d = 47 := fun e => h47 (by rw [← hcl, e])
            simp [names, splitP, hL, hd]
        have Hn := Lib.hid hn
        clear hroot hlen hn h0 h47 hcl hL
        go_enter Tryz.func24, Tryz.ntmps24
        go_wp2
        go_ret2
        exact .inr ⟨Hn.out, rfl, Ext.refl _⟩
end Go.Proofs.YthadldnojdjlnaaGreatDoor
