/- Texts of acts: how long, read behind one another, spoilt; no program. -/
import Derived.Test.YtiomljaengonoaaGreatDoorScrLaw
namespace Go.Proofs.YtiomljaengonoaaGreatDoor
open Go.Lib

theorem parts_right {a : ActP} {ps : List (List UInt8)} (h : partsP a = some ps) : ∃ w, needsOf a.name = some w ∧ ps = a.name :: textsP a w ∧ rightP w a := by
  have hs : (partsP a).isSome = true := by rw [h]; rfl
  obtain ⟨w, hw⟩ := parts_needs hs
  refine ⟨w, hw, ?_, (right_iff hw).1 hs⟩
  simp only [partsP, hw] at h
  split at h
  · exact (Option.some.inj h).symm
  · cases h

theorem word_len {s : List UInt8} (h : wordP s = true) : s.length ≤ 64 := by
  simp only [wordP, Bool.and_eq_true, decide_eq_true_eq] at h
  exact h.1.2

theorem line_len2 {a : ActP} {l : List UInt8} (h : lineP a = some l) : l.length ≤ 142 := by
  obtain ⟨ps, hp, rfl⟩ := Option.map_eq_some_iff.1 h
  obtain ⟨w, hw, rfl, hr⟩ := parts_right hp
  have hn := (needs_plain hw).1
  obtain ⟨h1, h2, h3, h4⟩ := hr
  rcases needs_kinds hw with rfl | rfl | rfl | rfl | rfl | rfl | rfl
  · simp [textsP, joinP]; omega
  · have := word_len (by simpa using h1)
    simp [textsP, textP, joinP]; omega
  · have := word_len (by simpa using h1)
    have := word_len (by simpa using h2)
    simp [textsP, textP, joinP]; omega
  · have := word_len (by simpa using h1)
    have := word_len (by simpa using h2)
    have h3' : 0 ≤ a.n ∧ a.n ≤ 9999 := by simpa using h3
    have := (itoa_plain h3'.1 h3'.2).2
    simp [textsP, textP, joinP]; omega
  · have := word_len (by simpa using h1)
    have h3' : 0 ≤ a.n ∧ a.n ≤ 9999 := by simpa using h3
    have := (itoa_plain h3'.1 h3'.2).2
    simp [textsP, textP, joinP]; omega
  · have h3' : 0 ≤ a.n ∧ a.n ≤ 9999 := by simpa using h3
    have h4' : 0 ≤ a.m ∧ a.m ≤ 9999 := by simpa using h4
    have := (itoa_plain h3'.1 h3'.2).2
    have := (itoa_plain h4'.1 h4'.2).2
    simp [textsP, textP, joinP]; omega
  · have h3' : 0 ≤ a.n ∧ a.n ≤ 9999 := by simpa using h3
    have := (itoa_plain h3'.1 h3'.2).2
    simp [textsP, textP, joinP]; omega

theorem lay_len2 : ∀ (l : List ActP) (s : List UInt8), layP l = some s → s.length ≤ 142 * l.length
  | [], s, h => by
    simp only [layP, Option.some.injEq] at h
    subst h
    simp
  | a :: l, s, h => by
    simp only [layP] at h
    split at h
    · rename_i x y hx hy
      cases h
      have h1 := line_len2 hx
      have h2 := lay_len2 l y hy
      simp
      omega
    · cases h

theorem read_app {l : List ActP} {s r : List UInt8} (h : layP l = some s) (hl : l.length ≤ 200) :
    actsGo 0 (linesP (s ++ r)) = match actsGo l.length (linesP r) with | .error n => .error n | .ok q => .ok (l ++ q) := by
  obtain ⟨xs, h1, h2, h3⟩ := lay_lines l s r h
  have := acts_app 0 xs (linesP r) l h2 (by omega)
  rw [Nat.zero_add] at this
  rw [h1, this]
  rcases actsGo l.length (linesP r) with _ | _ <;> rfl

/-- What is laid is read as it was. -/
theorem back_plain {l : List ActP} {s : List UInt8} (h : layP l = some s) (hl : l.length ≤ 200) : actsGo 0 (linesP s) = .ok l := by
  have := read_app (r := []) h hl
  rw [List.append_nil] at this
  rw [this]
  simp [linesP, actsGo]

theorem acts_shift : ∀ (xs : List (List UInt8)) (l : List ActP) (k : Nat), xs.map actP = l.map some → k + l.length ≤ 200 → actsGo k xs = .ok l
  | [], [], k, _, _ => rfl
  | [], a :: l, k, h, _ => by simp at h
  | x :: xs, [], k, h, _ => by simp at h
  | x :: xs, a :: l, k, h, hk => by
    simp only [List.map_cons, List.cons.injEq] at h
    simp only [List.length_cons] at hk
    simp only [actsGo, h.1, acts_shift xs l (k + 1) h.2 (by omega)]
    rw [if_neg (by omega)]

/-- Texts behind one another are read as the acts of both. -/
theorem lines_plain {a b : List ActP} {s t : List UInt8} (ha : layP a = some s) (hb : layP b = some t) (h1 : a.length ≤ 60) (h2 : b.length ≤ 60) : actsGo 0 (linesP (s ++ t)) = .ok (a ++ b) := by
  rw [read_app ha (by omega)]
  obtain ⟨xs, e1, e2, e3⟩ := lay_lines b t [] hb
  rw [List.append_nil] at e1
  rw [e1, show linesP [] = [] from rfl, List.append_nil, acts_shift xs b a.length e2 (by omega)]

theorem lines_head (c : UInt8) (r : List UInt8) (hc : c ≠ 10) : ∃ h t, linesP (c :: r) = (c :: h) :: t := by
  simp only [linesP, if_neg hc]
  rcases linesP r with _ | ⟨h, t⟩
  · exact ⟨[], [], rfl⟩
  · exact ⟨h, t, rfl⟩
theorem segs_head (b c : UInt8) (r : List UInt8) (hc : c ≠ b) : ∃ h t, segs b (c :: r) = (c :: h) :: t := by
  simp only [segs, if_neg hc]
  rcases segs b r with _ | ⟨h, t⟩
  · exact ⟨[], [], rfl⟩
  · exact ⟨h, t, rfl⟩
theorem needs_q (y : List UInt8) : needsOf (63 :: y) = none := by
  cases hn : needsOf (63 :: y) with
  | none => rfl
  | some w =>
    have : ∀ z ∈ needsT.map (·.1), z.head? ≠ some 63 := by decide +kernel
    exact absurd rfl (this _ (needs_name hn))
theorem act_q (h : List UInt8) : actP (63 :: h) = none := by
  unfold actP
  split
  · rename_i hl
    rcases h with _ | ⟨d, h⟩
    · simp at hl
    · obtain ⟨x, t, e⟩ := segs_head 32 63 ((d :: h).dropLast) (by decide)
      rw [List.dropLast_cons_of_ne_nil (by simp), e]
      simp only [ofP, needs_q]
  · rfl

/-- Behind right acts the first line that is none is told. -/
theorem bad_plain {l : List ActP} {s r : List UInt8} (h : layP l = some s) (hl : l.length ≤ 60) : actsGo 0 (linesP (s ++ 63 :: r)) = .error (l.length + 1) := by
  rw [read_app h (by omega)]
  obtain ⟨x, t, e⟩ := lines_head 63 r (by decide)
  rw [e]
  simp only [actsGo, act_q]

theorem lay_right : ∀ (l : List ActP), (layP l).isSome = l.all fun a => (partsP a).isSome
  | [] => rfl
  | a :: l => by
    have ih := lay_right l
    rw [List.all_cons, ← ih]
    simp only [layP, lineP]
    rcases partsP a with _ | ps
    · simp
    · rcases layP l with _ | y <;> simp
end Go.Proofs.YtiomljaengonoaaGreatDoor
