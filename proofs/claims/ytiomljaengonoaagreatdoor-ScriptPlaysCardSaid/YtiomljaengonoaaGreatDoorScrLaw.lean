/- What a right act is, kind by kind; no program. -/
import Derived.Test.YtiomljaengonoaaGreatDoorScrW
namespace Go.Proofs.YtiomljaengonoaaGreatDoor
open Go.Lib

theorem numP_of (n : Int) : numP (itoa n) = if 0 ≤ n ∧ n ≤ 9999 then some n else none := by
  by_cases h : 0 ≤ n ∧ n ≤ 9999
  · rw [if_pos h, numP_itoa h.1 h.2]
  · rw [if_neg h]
    cases hn : numP (itoa n) with
    | none => rfl
    | some v =>
      have h1 := numP_of_itoa hn
      obtain ⟨h2, h3, _⟩ := numP_some hn
      subst h1
      exact absurd ⟨h2, h3⟩ h

def rightP (w : List UInt8) (a : ActP) : Prop :=
  (if (112 : UInt8) ∈ w then wordP a.p = true else a.p = []) ∧ (if (113 : UInt8) ∈ w then wordP a.q = true else a.q = []) ∧
  (if (110 : UInt8) ∈ w then 0 ≤ a.n ∧ a.n ≤ 9999 else a.n = 0) ∧ (if (109 : UInt8) ∈ w then 0 ≤ a.m ∧ a.m ≤ 9999 else a.m = 0)

theorem parts_some_iff {a : ActP} {w : List UInt8} (h : needsOf a.name = some w) : (partsP a).isSome = true ↔ ofGo w (textsP a w) ⟨a.name, [], [], 0, 0⟩ = some a := by
  have e : ofP (a.name :: textsP a w) = ofGo w (textsP a w) ⟨a.name, [], [], 0, 0⟩ := by
    simp only [ofP, h]
    rw [if_pos (by simp [textsP])]
  simp only [partsP, h]
  rw [e]
  constructor
  · intro h2
    by_cases h3 : ofGo w (textsP a w) ⟨a.name, [], [], 0, 0⟩ = some a
    · exact h3
    · rw [if_neg h3] at h2; cases h2
  · intro h2
    rw [if_pos h2]
    rfl

theorem right_iff {a : ActP} {w : List UInt8} (h : needsOf a.name = some w) : (partsP a).isSome = true ↔ rightP w a := by
  rw [parts_some_iff h]
  obtain ⟨nm, p, q, n, m⟩ := a
  rcases needs_kinds h with rfl | rfl | rfl | rfl | rfl | rfl | rfl
  · simp [ofGo, rightP, eq_comm]
  · simp only [textsP, List.map_cons, List.map_nil, textP, ofGo, if_true]
    by_cases h1 : wordP p = true <;> simp [rightP, h1, eq_comm]
  · simp only [textsP, List.map_cons, List.map_nil, textP, ofGo, if_true]
    by_cases h1 : wordP p = true <;> by_cases h2 : wordP q = true <;> simp [rightP, h1, h2, eq_comm]
  · simp only [textsP, List.map_cons, List.map_nil, textP, ofGo, if_true]
    by_cases h1 : wordP p = true <;> by_cases h2 : wordP q = true <;> by_cases h3 : 0 ≤ n ∧ n ≤ 9999 <;> simp [rightP, h1, h2, h3, numP_of, eq_comm]
  · simp only [textsP, List.map_cons, List.map_nil, textP, ofGo, if_true]
    by_cases h1 : wordP p = true <;> by_cases h3 : 0 ≤ n ∧ n ≤ 9999 <;> simp [rightP, h1, h3, numP_of, eq_comm]
  · simp only [textsP, List.map_cons, List.map_nil, textP, ofGo, if_true]
    by_cases h1 : 0 ≤ m ∧ m ≤ 9999 <;> by_cases h3 : 0 ≤ n ∧ n ≤ 9999 <;> simp [rightP, h1, h3, numP_of, eq_comm]
  · simp only [textsP, List.map_cons, List.map_nil, textP, ofGo, if_true]
    by_cases h3 : 0 ≤ n ∧ n ≤ 9999 <;> simp [rightP, h3, numP_of, eq_comm]

/-- A path with a blank behind it is no word. -/
theorem blank_no (p : List UInt8) : wordP (p ++ [32]) = false := by
  rw [wordP]
  have : (p ++ [32]).all plainB = false := by
    rw [List.all_append]
    simp [plainB]
  rw [this, Bool.and_false]

theorem right_blank {a : ActP} {w : List UInt8} (h : needsOf a.name = some w) : (partsP { a with p := a.p ++ [32] }).isSome = false := by
  by_cases hs : (partsP { a with p := a.p ++ [32] }).isSome = true
  · exfalso
    have h1 := ((right_iff (a := { a with p := a.p ++ [32] }) h).1 hs).1
    split at h1
    · rw [show ({ a with p := a.p ++ [32] } : ActP).p = a.p ++ [32] from rfl, blank_no] at h1
      cases h1
    · simp at h1
  · simpa using hs

theorem name_x {nm w : List UInt8} (h : needsOf nm = some w) : needsOf (nm ++ [120]) = none := by
  have : ∀ y ∈ needsT.map (·.1), needsOf (y ++ [120]) = none := by decide +kernel
  exact this nm (needs_name h)
theorem right_x {a : ActP} {w : List UInt8} (h : needsOf a.name = some w) : (partsP { a with name := a.name ++ [120] }).isSome = false := by
  simp only [partsP, name_x h]
  rfl

theorem last_m {nm w : List UInt8} (h : needsOf nm = some w) : (109 : UInt8) ∈ w ↔ w.getLast? = some 109 := by
  rcases needs_kinds h with rfl | rfl | rfl | rfl | rfl | rfl | rfl <;> decide

theorem right_m {a : ActP} {w : List UInt8} (h : needsOf a.name = some w) (hr : (partsP a).isSome = true) (n : Int) :
    (partsP { a with m := n }).isSome = decide (n = 0 ∨ (w.getLast? = some 109 ∧ 0 ≤ n ∧ n ≤ 9999)) := by
  rw [Bool.eq_iff_iff, right_iff (a := { a with m := n }) h, decide_eq_true_eq]
  obtain ⟨h1, h2, h3, _⟩ := (right_iff h).1 hr
  rw [rightP, ← last_m h]
  by_cases hm : (109 : UInt8) ∈ w
  · simp only [hm, if_true, true_and]
    constructor
    · intro h4
      exact .inr h4.2.2.2
    · intro h4
      exact ⟨h1, h2, h3, by rcases h4 with h4 | h4 <;> omega⟩
  · simp only [hm, if_false, false_and, or_false]
    exact ⟨fun h4 => h4.2.2.2, fun h4 => ⟨h1, h2, h3, h4⟩⟩

theorem parts_needs {a : ActP} (h : (partsP a).isSome = true) : ∃ w, needsOf a.name = some w := by
  rw [partsP] at h
  cases hn : needsOf a.name with
  | none => rw [hn] at h; cases h
  | some w => exact ⟨w, rfl⟩
end Go.Proofs.YtiomljaengonoaaGreatDoor
