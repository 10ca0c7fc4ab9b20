/- Paths and names, back and forth; no program. -/
import Derived.Test.YtknfaabhlcdeoaaGreatDoorWords
import Derived.Lib.Join
namespace Go.Proofs.YtknfaabhlcdeoaaGreatDoor

def pieces (b : UInt8) (s : ByteArray) : List ByteArray := (segs b s.data.toList).map B
def names (p : ByteArray) : Option (List ByteArray) := (splitP p.data.toList).map (·.map B)
def nameB (s : ByteArray) : Bool := nameOk s.data.toList

/-- The path of names. -/
def pathOf (xs : List ByteArray) : ByteArray := if xs = [] then ⟨#[47]⟩ else B (47 :: Lib.join (xs.map (·.data.toList)) [47])

theorem nameOk_no {l : List UInt8} (h : nameOk l = true) : ∀ b ∈ l, b ≠ 47 := by
  simp only [nameOk, Bool.and_eq_true, List.all_eq_true] at h
  intro b hb e
  have := h.2 b hb
  subst e
  revert this
  decide

theorem segs_bare {b : UInt8} {l : List UInt8} (h : ∀ c ∈ l, c ≠ b) : segs b l = [l] :=
  segs_none b l fun _ e => h b (List.mem_of_getElem? e) rfl

theorem segs_append (b : UInt8) : ∀ l m : List UInt8, segs b (l ++ b :: m) = segs b l ++ segs b m
  | [], m => by simp [segs]
  | c :: l, m => by
    by_cases hc : c = b
    · simp [segs, hc, segs_append b l m]
    · have ih := segs_append b l m
      rcases hs : segs b l with _ | ⟨h, t⟩
      · exact absurd hs (segs_ne b l)
      · rw [hs] at ih
        simp only [List.cons_append, segs, if_neg hc, ih, hs]

theorem join_cons2 (x y : List UInt8) (r : List (List UInt8)) : Lib.join (x :: y :: r) [47] = x ++ 47 :: Lib.join (y :: r) [47] := by
  rw [Lib.join_cons, Lib.join_cons]
  simp [Lib.joinTail]

theorem segs_join : ∀ xs : List (List UInt8), xs ≠ [] → (∀ x ∈ xs, ∀ b ∈ x, b ≠ 47) → segs 47 (Lib.join xs [47]) = xs
  | [], h, _ => absurd rfl h
  | [x], _, h => by rw [Lib.join_one]; exact segs_bare (h x (by simp))
  | x :: y :: xs, _, h => by
    rw [join_cons2, segs_append, segs_bare (h x (by simp)), segs_join (y :: xs) (by simp) (fun z hz => h z (by simp at hz ⊢; exact .inr hz))]
    rfl

theorem join_segs : ∀ l : List UInt8, Lib.join (segs 47 l) [47] = l
  | [] => by simp [segs, Lib.join_one]
  | c :: l => by
    have ih := join_segs l
    by_cases hc : c = 47
    · rcases hs : segs 47 l with _ | ⟨h, t⟩
      · exact absurd hs (segs_ne 47 l)
      · rw [hs] at ih
        simp only [segs, if_pos hc, hs]
        rw [join_cons2, ih, hc]
        rfl
    · rcases hs : segs 47 l with _ | ⟨h, t⟩
      · exact absurd hs (segs_ne 47 l)
      · rw [hs] at ih
        simp only [segs, if_neg hc, hs]
        rw [Lib.join_cons] at ih ⊢
        rw [List.cons_append, ih]

theorem toList_eq (s : ByteArray) : s.toList = s.data.toList := ByteArray.toList_eq s

theorem map_B_toList (xs : List ByteArray) : (xs.map (·.data.toList)).map B = xs := by
  rw [List.map_map]
  exact (List.map_congr_left (fun x _ => B_toList x)).trans (List.map_id xs)
theorem map_toList_B (xs : List (List UInt8)) : (xs.map B).map (·.data.toList) = xs := by
  rw [List.map_map]
  exact (List.map_congr_left (fun x _ => toList_B x)).trans (List.map_id xs)

theorem names_root : names ⟨#[47]⟩ = some [] := by simp [names, splitP]

theorem names_pathOf {xs : List ByteArray} (h : xs.all nameB = true) (hl : xs.length ≤ 6) : names (pathOf xs) = some xs := by
  by_cases h0 : xs = []
  · subst h0
    rw [pathOf, if_pos rfl]
    exact names_root
  · have hall : (xs.map (·.data.toList)).all nameOk = true := by
      rw [List.all_map]
      exact h
    have hs : segs 47 (Lib.join (xs.map (·.data.toList)) [47]) = xs.map (·.data.toList) :=
      segs_join _ (by simpa using h0) (fun x hx => nameOk_no (List.all_eq_true.1 hall x hx))
    have hne : ¬ (47 :: Lib.join (xs.map (·.data.toList)) [47] = [47]) := fun e => by
      have e2 : Lib.join (xs.map (·.data.toList)) [47] = [] := by simpa using e
      rw [e2] at hs
      rcases xs with _ | ⟨x, xs⟩
      · exact h0 rfl
      · have e3 : x.data.toList = [] := by
          have := congrArg List.head? hs
          simpa [segs] using this.symm
        have h4 : nameOk x.data.toList = true := by
          have := List.all_eq_true.1 h x (by simp)
          exact this
        rw [e3] at h4
        revert h4
        decide
    rw [pathOf, if_neg h0, names, toList_B, splitP, if_neg hne]
    simp only [hs, hall, List.length_map, true_and]
    rw [if_pos hl]
    simp only [Option.map_some]
    rw [map_B_toList]

theorem names_some {p : ByteArray} {xs : List ByteArray} (h : names p = some xs) : xs.all nameB = true ∧ xs.length ≤ 6 ∧ pathOf xs = p := by
  unfold names at h
  rw [Option.map_eq_some_iff] at h
  obtain ⟨ys, h, rfl⟩ := h
  unfold splitP at h
  split at h
  · rename_i e
    cases h
    refine ⟨rfl, by simp, ?_⟩
    rw [List.map_nil, pathOf, if_pos rfl, ← B_toList p, e]
    rfl
  · rename_i hne
    split at h
    · rename_i c r e
      split at h
      · rename_i hc
        cases h
        obtain ⟨rfl, h1, h2⟩ := hc
        refine ⟨?_, by simpa using h2, ?_⟩
        · rw [List.all_map]
          refine Eq.trans (congrArg (List.all _) (funext fun x => ?_)) h1
          simp [nameB, toList_B]
        · rw [pathOf, if_neg (by simpa using segs_ne 47 r), map_toList_B, join_segs, ← e]
          rfl
      · cases h
    · cases h

theorem pathOf_inj {xs ys : List ByteArray} (h : xs.all nameB = true) (hl : xs.length ≤ 6) (h' : ys.all nameB = true) (hl' : ys.length ≤ 6) (e : pathOf xs = pathOf ys) : xs = ys := by
  have h1 := names_pathOf h hl
  rw [e, names_pathOf h' hl'] at h1
  exact (Option.some.inj h1).symm

theorem nameB_size {x : ByteArray} (h : nameB x = true) : x.size ≤ 8 := by
  simp only [nameB, nameOk, Bool.and_eq_true, decide_eq_true_eq] at h
  have := h.1.2
  rw [Array.length_toList] at this
  exact this

theorem joinTail_length (xs : List (List UInt8)) (h : ∀ x ∈ xs, x.length ≤ 8) : (Lib.joinTail [47] xs).length ≤ 9 * xs.length := by
  induction xs with
  | nil => simp [Lib.joinTail]
  | cons x xs ih =>
    have h1 := h x (by simp)
    have h2 := ih (fun y hy => h y (by simp [hy]))
    simp only [Lib.joinTail, List.map_cons, List.flatten_cons, List.length_append, List.length_cons] at *
    simp only [List.length_nil]
    omega

theorem join_length (xs : List (List UInt8)) (h : ∀ x ∈ xs, x.length ≤ 8) : (Lib.join xs [47]).length ≤ 9 * xs.length := by
  rcases xs with _ | ⟨x, xs⟩
  · simp [Lib.join_nil]
  · rw [Lib.join_cons]
    have h1 := h x (by simp)
    have h2 := joinTail_length xs (fun y hy => h y (by simp [hy]))
    simp only [List.length_append, List.length_cons]
    omega

theorem names_join_length {xs : List ByteArray} (h : xs.all nameB = true) : (Lib.join (xs.map (·.data.toList)) [47]).length ≤ 9 * xs.length := by
  have := join_length (xs.map (·.data.toList)) (fun x hx => by
    obtain ⟨y, hy, rfl⟩ := List.mem_map.1 hx
    have := nameB_size (List.all_eq_true.1 h y hy)
    rw [Array.length_toList]
    exact this)
  rwa [List.length_map] at this

theorem pathOf_size {xs : List ByteArray} (h : xs.all nameB = true) (hl : xs.length ≤ 6) : (pathOf xs).size ≤ 55 := by
  unfold pathOf
  split
  · decide
  · rw [size_B, List.length_cons]
    have := names_join_length h
    omega
end Go.Proofs.YtknfaabhlcdeoaaGreatDoor
