/- What a directory of a stack has, in plain Lean; no program. -/
import Derived.Test.YtknfaabhlcdeoaaGreatDoorLAt
namespace Go.Proofs.YtknfaabhlcdeoaaGreatDoor
open Go Go.RowKit

/-- The path of a name in a directory. -/
def childP (d x : ByteArray) : ByteArray := if d = ⟨#[47]⟩ then B (47 :: x.data.toList) else B (d.data.toList ++ 47 :: x.data.toList)

/-- The name of an entry that lies in a directory. -/
def inP (p : ByteArray) (x : Ent) : Option ByteArray := match names x.path with
  | none => none
  | some ys => match ys.getLast? with
    | none => none
    | some z => if pathOf ys.dropLast = p then some z else none

/-- The names that the layers from a floor on have in a directory. -/
def metP (s : List (List Ent)) (p : ByteArray) (f : Nat) : List ByteArray := (s.drop f).flatten.filterMap (inP p)

/-- A directory's floor. -/
def dirE (s : List (List Ent)) (p : ByteArray) : Except Int Nat := match lookE s p with
  | .error c => .error c
  | .ok x => if x.1.kind = 1 then .error 6 else .ok x.2

def showsE (s : List (List Ent)) (q : ByteArray) : Bool := match lookE s q with
  | .ok _ => true
  | .error _ => false

/-- These are the names that a directory has: sorted, each once. -/
def NamesIs (s : List (List Ent)) (p : ByteArray) (f : Nat) (l : List ByteArray) : Prop :=
  (l.Pairwise fun a b => lt a b = true) ∧ ∀ x, x ∈ l ↔ x ∈ metP s p f ∧ showsE s (childP p x) = true

theorem inP_iff {p z : ByteArray} {x : Ent} : inP p x = some z ↔ ∃ ys, names x.path = some (ys ++ [z]) ∧ pathOf ys = p := by
  unfold inP
  constructor
  · intro h
    split at h
    · cases h
    · rename_i ys hy
      split at h
      · cases h
      · rename_i y hl
        split at h
        · rename_i hp
          cases h
          have hne : ys ≠ [] := by rintro rfl; simp at hl
          rw [List.getLast?_eq_some_getLast hne] at hl
          have e := Option.some.inj hl
          exact ⟨ys.dropLast, by rw [hy, ← e, List.dropLast_concat_getLast], hp⟩
        · cases h
  · rintro ⟨ys, h, rfl⟩
    rw [h]
    simp

theorem mem_metP {s : List (List Ent)} {p z : ByteArray} {f : Nat} : z ∈ metP s p f ↔ ∃ i l x, f ≤ i ∧ s[i]? = some l ∧ x ∈ l ∧ inP p x = some z := by
  simp only [metP, List.mem_filterMap, List.mem_flatten]
  constructor
  · rintro ⟨x, ⟨l, hl, hx⟩, h⟩
    obtain ⟨j, hj, rfl⟩ := List.getElem_of_mem hl
    refine ⟨f + j, _, x, by omega, ?_, hx, h⟩
    rw [← List.getElem?_drop]
    exact List.getElem?_eq_getElem hj
  · rintro ⟨i, l, x, hi, hl, hx, h⟩
    refine ⟨x, ⟨l, ?_, hx⟩, h⟩
    refine List.mem_of_getElem? (i := i - f) ?_
    rw [List.getElem?_drop, show f + (i - f) = i by omega]
    exact hl

theorem lookN_app (s : List (List Ent)) (xs ys : List ByteArray) : ∀ i, i ≤ xs.length → lookN s (xs ++ ys) i = lookN s xs i
  | 0, _ => rfl
  | i + 1, h => by
    rw [lookN, lookN, lookN_app s xs ys i (by omega), List.take_append_of_le_length h]

theorem join_snoc (x : List UInt8) : ∀ (y : List UInt8) (ys : List (List UInt8)), Lib.join ((y :: ys) ++ [x]) [47] = Lib.join (y :: ys) [47] ++ 47 :: x
  | y, [] => by
    show Lib.join (y :: x :: []) [47] = _
    rw [join_cons2, Lib.join_one, Lib.join_one]
  | y, z :: r => by
    show Lib.join (y :: z :: (r ++ [x])) [47] = _
    rw [join_cons2, join_cons2, ← List.cons_append, join_snoc x z r]
    simp

theorem child_path {xs : List ByteArray} (h : xs.all nameB = true) (hl : xs.length ≤ 6) (x : ByteArray) : childP (pathOf xs) x = pathOf (xs ++ [x]) := by
  rcases xs with _ | ⟨y, ys⟩
  · have e : pathOf [] = ⟨#[47]⟩ := rfl
    rw [childP, if_pos e, pathOf, if_neg (by simp)]
    simp [Lib.join_one]
  · have hne : pathOf (y :: ys) ≠ ⟨#[47]⟩ := fun e => by
      have h1 := pathOf_inj h hl (ys := []) rfl (by simp) (by rw [e]; rfl)
      cases h1
    rw [childP, if_neg hne, pathOf, if_neg (by simp), pathOf, if_neg (by simp), toList_B, List.map_append, List.map_cons, List.map_singleton, join_snoc]
    rfl

/-- Whether a text is one piece. -/
def bare (z : ByteArray) : Prop := ∀ b ∈ z.data.toList, b ≠ 47

theorem names_child {xs ys : List ByteArray} {z : ByteArray} (h : xs.all nameB = true) (hz : bare z) (hn : names (pathOf (xs ++ [z])) = some ys) : ys = [] ∨ ys = xs ++ [z] := by
  have hno : ∀ x ∈ (xs ++ [z]).map (·.data.toList), ∀ b ∈ x, b ≠ 47 := by
    intro x hx
    obtain ⟨y, hy, rfl⟩ := List.mem_map.1 hx
    rcases List.mem_append.1 hy with hy | hy
    · exact nameOk_no (List.all_eq_true.1 h y hy)
    · rw [List.mem_singleton] at hy
      subst hy
      exact hz
  have hs := segs_join ((xs ++ [z]).map (·.data.toList)) (by simp) hno
  rw [pathOf, if_neg (by simp), names, toList_B, splitP] at hn
  split at hn
  · left
    simpa using hn.symm
  · right
    simp only [hs] at hn
    split at hn
    · rw [Option.map_some, map_B_toList] at hn
      exact (Option.some.inj hn).symm
    · cases hn

theorem askR_path (s : List (List Ent)) (q : ByteArray) (f : Nat) : ∀ (k fl : Nat) (met : Bool), (askR s q f k fl met).1.1.path = q
  | 0, fl, met => rfl
  | k + 1, fl, met => by
    rw [askR]
    split
    · rfl
    · split
      · exact askR_path s q f k fl met
      · rename_i x hx
        split
        · rfl
        · split
          · exact (findE_mem hx).2.1
          · split
            · rfl
            · exact askR_path s q f k k true

theorem lookN_path {s : List (List Ent)} {xs : List ByteArray} {i : Nat} {x : Ent × Nat} (h : lookN s xs i = .ok x) : x.1.path = pathOf (xs.take i) := by
  rcases i with _ | i
  · rw [lookN] at h
    cases h
    rfl
  · rw [lookN] at h
    split at h
    · cases h
    · split at h
      · cases h
      · split at h
        · cases h
          exact askR_path s _ _ _ _ _
        · cases h

theorem lookE_ok {s : List (List Ent)} {q : ByteArray} {x : Ent × Nat} (h : lookE s q = .ok x) : ∃ ys, stackOk s = true ∧ names q = some ys ∧ lookN s ys ys.length = .ok x ∧ x.1.path = q := by
  rw [lookE] at h
  split at h
  · rename_i hs
    split at h
    · cases h
    · rename_i ys hy
      refine ⟨ys, hs, hy, h, ?_⟩
      rw [lookN_path h, List.take_length]
      exact (names_some hy).2.2
  · cases h

/-- What is asked and met lies in a layer from the floor on. -/
theorem ask_met (s : List (List Ent)) (q : ByteArray) (f : Nat) : ∀ (k fl : Nat), (askR s q f k fl false).2 = true → ∃ i x, f ≤ i ∧ i < k ∧ findE (s[i]?.getD []) q = some x
  | 0, fl, h => by simp [askR] at h
  | k + 1, fl, h => by
    rw [askR] at h
    split at h
    · simp at h
    · rename_i hf
      split at h
      · obtain ⟨i, x, h1, h2, h3⟩ := ask_met s q f k fl h
        exact ⟨i, x, h1, by omega, h3⟩
      · rename_i x hx
        exact ⟨k, x, by omega, by omega, hx⟩

theorem dirE_ok {s : List (List Ent)} {p : ByteArray} {f : Nat} (h : dirE s p = .ok f) : ∃ x, lookE s p = .ok x ∧ x.1.kind ≠ 1 ∧ x.2 = f := by
  rw [dirE] at h
  split at h
  · cases h
  · rename_i x hx
    split at h
    · cases h
    · rename_i hk
      exact ⟨x, hx, hk, by cases h; rfl⟩

theorem childP_size (p z : ByteArray) : 1 + z.size ≤ (childP p z).size := by
  rw [childP]
  have hz : z.data.toList.length = z.size := Array.length_toList
  split <;> rw [size_B] <;> simp only [List.length_append, List.length_cons] <;> omega

/-- What shows at a name's path has been met. -/
theorem shows_met {s : List (List Ent)} {p z : ByteArray} {f : Nat} (hd : dirE s p = .ok f) (hz : bare z) (h0 : z.size ≠ 0) (hs : showsE s (childP p z) = true) : z ∈ metP s p f := by
  obtain ⟨x, hx, hk, rfl⟩ := dirE_ok hd
  obtain ⟨xs, hst, hn, hlx, _⟩ := lookE_ok hx
  obtain ⟨hall, hl6, hp⟩ := names_some hn
  rw [showsE] at hs
  split at hs
  · rename_i y hy
    obtain ⟨ys, _, hny, hly, _⟩ := lookE_ok hy
    rw [← hp, child_path hall hl6] at hny
    rcases names_child hall hz hny with rfl | rfl
    · have h1 := (names_some hny).2.2
      have h2 := childP_size p z
      rw [← hp, child_path hall hl6, ← h1] at h2
      have h3 : (pathOf []).size = 1 := rfl
      omega
    · rw [List.length_append, List.length_singleton, lookN, lookN_app s xs [z] xs.length (Nat.le_refl _), hlx] at hly
      simp only [if_neg hk] at hly
      split at hly
      · rename_i hm
        rw [List.take_of_length_le (by simp), askE] at hm
        obtain ⟨i, u, h1, h2, h3⟩ := ask_met s _ _ _ _ hm
        obtain ⟨hu, hup, _⟩ := findE_mem h3
        rw [mem_metP]
        refine ⟨i, s[i]?.getD [], u, h1, ?_, hu, ?_⟩
        · rw [List.getElem?_eq_getElem h2]; rfl
        · rw [inP_iff]
          exact ⟨xs, by rw [hup]; exact hny, hp⟩
      · cases hly
  · cases hs

/-- A name is in the list just if something shows at its path. -/
theorem names_shows {s : List (List Ent)} {p z : ByteArray} {f : Nat} {l : List ByteArray} (hd : dirE s p = .ok f) (hl : NamesIs s p f l) (hz : bare z) (h0 : z.size ≠ 0) : z ∈ l ↔ showsE s (childP p z) = true := by
  rw [hl.2]
  exact ⟨fun h => h.2, fun h => ⟨shows_met hd hz h0 h, h⟩⟩

theorem shows_path {s : List (List Ent)} {q : ByteArray} (h : showsE s q = true) : ∃ x, lookE s q = .ok x ∧ x.1.path = q := by
  rw [showsE] at h
  split at h
  · rename_i x hx
    obtain ⟨_, _, _, _, h⟩ := lookE_ok hx
    exact ⟨x, hx, h⟩
  · cases h
end Go.Proofs.YtknfaabhlcdeoaaGreatDoor
