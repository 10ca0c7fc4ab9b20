/- Acts as texts, as lists of bytes: words, numbers, an act's parts, lines; no program. -/
import Derived.Test.YtiomljaengonoaaGreatDoorWords
import Derived.Lib.AtoiAllCases
import Derived.Lib.ItoaMem
namespace Go.Proofs.YtiomljaengonoaaGreatDoor
open Go.Lib

/-- An act. -/
structure ActP where
  name : List UInt8
  p : List UInt8
  q : List UInt8
  n : Int
  m : Int
  deriving DecidableEq

def needsT : List (List UInt8 × List UInt8) := [
  ([99, 108, 111, 115, 101], [110]),
  ([99, 111, 109, 109, 105, 116], []),
  ([99, 114, 101, 97, 116, 101], [112]),
  ([99, 117, 116], [112, 110]),
  ([104, 111, 108, 100], [112]),
  ([108, 105, 115, 116], [112]),
  ([109, 107, 100, 105, 114], [112]),
  ([112, 97, 114, 116], [110, 109]),
  ([114, 101, 97, 100], [112]),
  ([114, 101, 110, 97, 109, 101], [112, 113]),
  ([114, 109, 100, 105, 114], [112]),
  ([115, 110, 97, 112], []),
  ([115, 116, 101, 112], []),
  ([115, 121, 110, 99], []),
  ([116, 114, 101, 101], []),
  ([117, 110, 108, 105, 110, 107], [112]),
  ([119, 114, 105, 116, 101], [112, 110, 113])]

def needsOf (name : List UInt8) : Option (List UInt8) := (needsT.find? fun x => decide (x.1 = name)).map (·.2)

/-- The seven kinds of needs. -/
theorem needs_kinds {nm w : List UInt8} (h : needsOf nm = some w) : w = [] ∨ w = [112] ∨ w = [112, 113] ∨ w = [112, 110, 113] ∨ w = [112, 110] ∨ w = [110, 109] ∨ w = [110] := by
  unfold needsOf at h
  obtain ⟨x, hx, rfl⟩ := Option.map_eq_some_iff.1 h
  have hm := List.mem_of_find?_eq_some hx
  have : ∀ x ∈ needsT, x.2 = [] ∨ x.2 = [112] ∨ x.2 = [112, 113] ∨ x.2 = [112, 110, 113] ∨ x.2 = [112, 110] ∨ x.2 = [110, 109] ∨ x.2 = [110] := by decide +kernel
  exact this x hm

theorem needs_name {nm w : List UInt8} (h : needsOf nm = some w) : nm ∈ needsT.map (·.1) := by
  unfold needsOf at h
  obtain ⟨x, hx, rfl⟩ := Option.map_eq_some_iff.1 h
  have hm := List.mem_of_find?_eq_some hx
  have he : x.1 = nm := by simpa using List.find?_some hx
  exact List.mem_map.2 ⟨x, hm, he⟩

def plainB (b : UInt8) : Bool := decide (33 ≤ b.toNat) && decide (b.toNat ≤ 126)

/-- Names are short and plain. -/
theorem needs_plain {nm w : List UInt8} (h : needsOf nm = some w) : nm.length ≤ 6 ∧ nm.all plainB = true := by
  have : ∀ y ∈ needsT.map (·.1), y.length ≤ 6 ∧ y.all plainB = true := by decide +kernel
  exact this nm (needs_name h)

def wordP (s : List UInt8) : Bool := decide (1 ≤ s.length) && decide (s.length ≤ 64) && s.all plainB

def numP (s : List UInt8) : Option Int := match atoiAll s with
  | .ok v => if 0 ≤ v ∧ v ≤ 9999 ∧ itoa v = s then some v else none
  | _ => none

theorem numP_some {s : List UInt8} {v : Int} (h : numP s = some v) : 0 ≤ v ∧ v ≤ 9999 ∧ itoa v = s := by
  unfold numP at h
  split at h
  · split at h
    · rename_i h2
      cases h
      exact h2
    · cases h
  · cases h

theorem dig_ok : ∀ u : Fin 10, (UInt8.ofNat (48 + u.val)).toNat = 48 + u.val := by decide

theorem parse_dec (u : Nat) : ∀ (acc : Nat) (r : List UInt8), acc * 10 ^ nDigits u + u < 1000000000000000000 → parseUint10 acc (decDigits u ++ r) = parseUint10 (acc * 10 ^ nDigits u + u) r := by
  induction u using Nat.strongRecOn with
  | _ u ih =>
    intro acc r hb
    by_cases h : u < 10
    · rw [decDigits, dif_pos h]
      rw [nDigits_small h] at hb ⊢
      have hd := dig_ok ⟨u, h⟩
      simp only at hd
      rw [List.singleton_append, parseUint10, hd, if_pos (by omega), if_neg (by omega), if_neg (by omega)]
      congr 1
      omega
    · rw [decDigits, dif_neg h, List.append_assoc]
      rw [nDigits_big h, Nat.pow_succ, ← Nat.mul_assoc] at hb ⊢
      rw [ih (u / 10) (by omega) acc _ (by omega)]
      have hd := dig_ok ⟨u % 10, by omega⟩
      simp only at hd
      rw [List.singleton_append, parseUint10, hd, if_pos (by omega), if_neg (by omega), if_neg (by omega)]
      congr 1
      omega

theorem decDigits_digits (u : Nat) : ∀ b ∈ decDigits u, 48 ≤ b.toNat ∧ b.toNat ≤ 57 := by
  induction u using Nat.strongRecOn with
  | _ u ih =>
    intro b hb
    by_cases h : u < 10
    · rw [decDigits, dif_pos h] at hb
      have hd := dig_ok ⟨u, h⟩
      simp only at hd
      have : b = UInt8.ofNat (48 + u) := by simpa using hb
      subst this
      rw [hd]
      omega
    · rw [decDigits, dif_neg h] at hb
      rcases List.mem_append.1 hb with hb | hb
      · exact ih (u / 10) (by omega) b hb
      · have hd := dig_ok ⟨u % 10, by omega⟩
        simp only at hd
        have : b = UInt8.ofNat (48 + u % 10) := by simpa using hb
        subst this
        rw [hd]
        omega

theorem decDigits_ne (u : Nat) : decDigits u ≠ [] := fun h => by
  have h1 := decDigits_length u
  have h2 := nDigits_pos u
  rw [h] at h1
  simp at h1
  omega

theorem parseMag_dec (u : Nat) (hu : u < 1000000000000000000) : parseMag (decDigits u) = .ok u := by
  rw [parseMag, if_neg (decDigits_ne u)]
  have := parse_dec u 0 [] (by omega)
  rw [List.append_nil, Nat.zero_mul, Nat.zero_add] at this
  rw [this, parseUint10]

theorem atoi_dec (u : Nat) (hu : u < 1000000000000000000) : atoiAll (decDigits u) = .ok (u : Int) := by
  rcases e : decDigits u with _ | ⟨c, r⟩
  · exact absurd e (decDigits_ne u)
  · have hc := decDigits_digits u c (by rw [e]; exact .head _)
    rw [atoiAll_plain c r (by omega) (by omega), ← e, parseMag_dec u hu]
    simp only [signless]
    rw [if_neg (by omega)]

theorem itoa_of_nat (u : Nat) : itoa (u : Int) = decDigits u := itoa_nonneg u

/-- A number from 0 to 9999, written, is read. -/
theorem numP_itoa {v : Int} (h0 : 0 ≤ v) (h1 : v ≤ 9999) : numP (itoa v) = some v := by
  obtain ⟨u, rfl⟩ : ∃ u : Nat, v = u := ⟨v.toNat, by omega⟩
  rw [numP, itoa_of_nat, atoi_dec u (by omega)]
  simp only
  rw [if_pos ⟨h0, h1, itoa_of_nat u⟩]

theorem decDigits_inj {u v : Nat} (hv : v ≤ 9999) (h : decDigits u = decDigits v) : u = v := by
  have h1 : nDigits u = nDigits v := by rw [← decDigits_length, ← decDigits_length, h]
  have h2 : nDigits v ≤ 4 := by
    rcases Nat.lt_or_ge v 10 with a | a
    · rw [nDigits_small a]; omega
    · rw [nDigits_big (by omega)]
      rcases Nat.lt_or_ge (v / 10) 10 with b | b
      · rw [nDigits_small b]; omega
      · rw [nDigits_big (by omega)]
        rcases Nat.lt_or_ge (v / 10 / 10) 10 with c | c
        · rw [nDigits_small c]; omega
        · rw [nDigits_big (by omega), nDigits_small (by omega)]
          omega
  have h3 := lt_pow_nDigits u
  rw [h1] at h3
  have h4 : 10 ^ nDigits v ≤ 10 ^ 4 := Nat.pow_le_pow_right (by decide) h2
  have e1 := parseMag_dec u (by omega)
  rw [h, parseMag_dec v (by omega)] at e1
  cases e1
  rfl

/-- What a number's writing is read as is that number. -/
theorem numP_of_itoa {n v : Int} (h : numP (itoa n) = some v) : v = n := by
  obtain ⟨h0, h1, h2⟩ := numP_some h
  obtain ⟨u, rfl⟩ : ∃ u : Nat, v = u := ⟨v.toNat, by omega⟩
  rw [itoa_of_nat] at h2
  by_cases hn : n < 0
  · exfalso
    rw [itoa, if_pos hn] at h2
    have := decDigits_digits u 45 (by rw [h2]; exact .head _)
    revert this
    decide
  · obtain ⟨k, rfl⟩ : ∃ k : Nat, n = k := ⟨n.toNat, by omega⟩
    rw [itoa_of_nat] at h2
    rw [decDigits_inj (by omega) h2.symm]

theorem itoa_plain {v : Int} (h0 : 0 ≤ v) (h1 : v ≤ 9999) : (itoa v).all plainB = true ∧ (itoa v).length ≤ 4 := by
  obtain ⟨u, rfl⟩ : ∃ u : Nat, v = u := ⟨v.toNat, by omega⟩
  rw [itoa_of_nat]
  refine ⟨List.all_eq_true.2 fun b hb => ?_, ?_⟩
  · have := decDigits_digits u b hb
    simp [plainB]
    omega
  · rw [decDigits_length]
    have hv : u ≤ 9999 := by omega
    rcases Nat.lt_or_ge u 10 with a | a
    · rw [nDigits_small a]; omega
    · rw [nDigits_big (by omega)]
      rcases Nat.lt_or_ge (u / 10) 10 with b | b
      · rw [nDigits_small b]; omega
      · rw [nDigits_big (by omega)]
        rcases Nat.lt_or_ge (u / 10 / 10) 10 with c | c
        · rw [nDigits_small c]; omega
        · rw [nDigits_big (by omega), nDigits_small (by omega)]
          omega

/-! ### An act's parts -/

def ofGo : List UInt8 → List (List UInt8) → ActP → Option ActP
  | [], _, a => some a
  | c :: cs, s :: ss, a =>
    if c = 112 then (if wordP s = true then ofGo cs ss { a with p := s } else none)
    else if c = 113 then (if wordP s = true then ofGo cs ss { a with q := s } else none)
    else match numP s with
      | none => none
      | some v => if c = 110 then ofGo cs ss { a with n := v } else ofGo cs ss { a with m := v }
  | _ :: _, [], _ => none

def ofP : List (List UInt8) → Option ActP
  | [] => none
  | nm :: ps => match needsOf nm with
    | none => none
    | some w => if ps.length = w.length then ofGo w ps ⟨nm, [], [], 0, 0⟩ else none

def textP (a : ActP) (c : UInt8) : List UInt8 := if c = 112 then a.p else if c = 113 then a.q else if c = 110 then itoa a.n else itoa a.m
def textsP (a : ActP) (w : List UInt8) : List (List UInt8) := w.map (textP a)

/-- An act's parts, where it is right. -/
def partsP (a : ActP) : Option (List (List UInt8)) := match needsOf a.name with
  | none => none
  | some w => if ofP (a.name :: textsP a w) = some a then some (a.name :: textsP a w) else none

theorem ofP_some {nm : List UInt8} {ps : List (List UInt8)} {a : ActP} (h : ofP (nm :: ps) = some a) : ∃ w, needsOf nm = some w ∧ ps.length = w.length ∧ ofGo w ps ⟨nm, [], [], 0, 0⟩ = some a := by
  simp only [ofP] at h
  split at h
  · cases h
  · rename_i w hw
    split at h
    · rename_i hl
      exact ⟨w, hw, hl, h⟩
    · cases h

/-- What parts make an act: they are that act's parts. -/
theorem ofP_parts {ps : List (List UInt8)} {a : ActP} (h : ofP ps = some a) : partsP a = some ps ∧ ps.all (fun s => decide (s.length ≤ 64) && s.all plainB) = true ∧ ps ≠ [] := by
  rcases ps with _ | ⟨nm, ps⟩
  · simp [ofP] at h
  have hof := h
  obtain ⟨w, hw, hl, hg⟩ := ofP_some h
  obtain ⟨hnl, hnp⟩ := needs_plain hw
  have key : a.name = nm ∧ textsP a w = ps ∧ ps.all (fun s => decide (s.length ≤ 64) && s.all plainB) = true := by
    clear h hof
    have num : ∀ {s : List UInt8} {v : Int}, numP s = some v → itoa v = s ∧ s.all plainB = true ∧ s.length ≤ 64 := fun hv => by
      obtain ⟨h0, h1, rfl⟩ := numP_some hv
      obtain ⟨h2, h3⟩ := itoa_plain h0 h1
      exact ⟨rfl, h2, by omega⟩
    have word : ∀ {s : List UInt8}, wordP s = true → s.all plainB = true ∧ s.length ≤ 64 := fun hv => by
      simp only [wordP, Bool.and_eq_true, decide_eq_true_eq] at hv
      exact ⟨hv.2, hv.1.2⟩
    rcases needs_kinds hw with rfl | rfl | rfl | rfl | rfl | rfl | rfl
    · rcases ps with _ | ⟨x, ps⟩
      · simp only [ofGo, Option.some.injEq] at hg
        subst hg
        exact ⟨rfl, rfl, rfl⟩
      · simp at hl
    · rcases ps with _ | ⟨x, _ | ⟨y, ps⟩⟩ <;> simp at hl
      simp only [ofGo, if_true] at hg
      split at hg
      · rename_i hx
        obtain ⟨e1, e2⟩ := word hx
        cases hg
        exact ⟨rfl, by simp [textsP, textP], by simp [e1, e2]⟩
      · cases hg
    · rcases ps with _ | ⟨x, _ | ⟨y, _ | ⟨z, ps⟩⟩⟩ <;> simp at hl
      simp only [ofGo, if_true] at hg
      split at hg
      · rename_i hx
        obtain ⟨e1, e2⟩ := word hx
        rw [if_neg (by decide)] at hg
        split at hg
        · rename_i hy
          obtain ⟨e3, e4⟩ := word hy
          cases hg
          exact ⟨rfl, by simp [textsP, textP], by simp only [List.all_cons, List.all_nil, e1, e2, e3, e4]; rfl⟩
        · cases hg
      · cases hg
    · rcases ps with _ | ⟨x, _ | ⟨y, _ | ⟨z, _ | ⟨u, ps⟩⟩⟩⟩ <;> simp at hl
      simp only [ofGo, if_true] at hg
      split at hg
      · rename_i hx
        obtain ⟨e1, e2⟩ := word hx
        rw [if_neg (by decide), if_neg (by decide)] at hg
        split at hg
        · cases hg
        · rename_i v hv
          obtain ⟨rfl, e5, e6⟩ := num hv
          rw [if_neg (by decide)] at hg
          split at hg
          · rename_i hz
            obtain ⟨e3, e4⟩ := word hz
            cases hg
            exact ⟨rfl, by simp [textsP, textP], by simp only [List.all_cons, List.all_nil, e1, e2, e3, e4, e5, e6]; rfl⟩
          · cases hg
      · cases hg
    · rcases ps with _ | ⟨x, _ | ⟨y, _ | ⟨z, ps⟩⟩⟩ <;> simp at hl
      simp only [ofGo, if_true] at hg
      split at hg
      · rename_i hx
        obtain ⟨e1, e2⟩ := word hx
        rw [if_neg (by decide), if_neg (by decide)] at hg
        split at hg
        · cases hg
        · rename_i v hv
          obtain ⟨rfl, e5, e6⟩ := num hv
          cases hg
          exact ⟨rfl, by simp [textsP, textP], by simp only [List.all_cons, List.all_nil, e1, e2, e5, e6]; rfl⟩
      · cases hg
    · rcases ps with _ | ⟨x, _ | ⟨y, _ | ⟨z, ps⟩⟩⟩ <;> simp at hl
      simp only [ofGo, if_true] at hg
      rw [if_neg (by decide), if_neg (by decide)] at hg
      split at hg
      · cases hg
      · rename_i v hv
        obtain ⟨rfl, e1, e2⟩ := num hv
        rw [if_neg (by decide), if_neg (by decide)] at hg
        split at hg
        · cases hg
        · rename_i v' hv'
          obtain ⟨rfl, e5, e6⟩ := num hv'
          rw [if_neg (by decide)] at hg
          cases hg
          exact ⟨rfl, by simp [textsP, textP], by simp only [List.all_cons, List.all_nil, e1, e2, e5, e6]; rfl⟩
    · rcases ps with _ | ⟨x, _ | ⟨y, ps⟩⟩ <;> simp at hl
      simp only [ofGo, if_true] at hg
      rw [if_neg (by decide), if_neg (by decide)] at hg
      split at hg
      · cases hg
      · rename_i v hv
        obtain ⟨rfl, e1, e2⟩ := num hv
        cases hg
        exact ⟨rfl, by simp [textsP, textP], by simp only [List.all_cons, List.all_nil, e1, e2]; rfl⟩
  obtain ⟨rfl, rfl, hp⟩ := key
  refine ⟨?_, ?_, by simp⟩
  · simp only [partsP, hw]
    rw [if_pos hof]
  · rw [List.all_cons, hp, hnp]
    simp
    omega

theorem partsP_of {a : ActP} {ps : List (List UInt8)} (h : partsP a = some ps) : ofP ps = some a := by
  simp only [partsP] at h
  split at h
  · cases h
  · split at h
    · rename_i h2
      cases h
      exact h2
    · cases h

/-! ### Lines -/

/-- Parts with a sign between. -/
def joinP (b : UInt8) : List (List UInt8) → List UInt8
  | [] => []
  | [x] => x
  | x :: y :: r => x ++ b :: joinP b (y :: r)

theorem segs_app {b : UInt8} : ∀ (x r : List UInt8), (∀ c ∈ x, c ≠ b) → segs b (x ++ b :: r) = x :: segs b r
  | [], r, _ => by simp [segs]
  | c :: x, r, h => by
    have ih := segs_app x r fun d hd => h d (.tail _ hd)
    simp only [List.cons_append, segs, if_neg (h c (.head _)), ih]

theorem segs_free {b : UInt8} : ∀ (x : List UInt8), (∀ c ∈ x, c ≠ b) → segs b x = [x]
  | [], _ => rfl
  | c :: x, h => by
    have ih := segs_free x fun d hd => h d (.tail _ hd)
    simp only [segs, if_neg (h c (.head _)), ih]

theorem segs_joinP {b : UInt8} : ∀ (ps : List (List UInt8)), ps ≠ [] → (∀ x ∈ ps, ∀ c ∈ x, c ≠ b) → segs b (joinP b ps) = ps
  | [], h, _ => absurd rfl h
  | [x], _, h => segs_free x (h x (.head _))
  | x :: y :: r, _, h => by
    rw [joinP, segs_app x _ (h x (.head _)), segs_joinP (y :: r) (by simp) fun z hz => h z (.tail _ hz)]

theorem join_cons {b c : UInt8} {h : List UInt8} {t : List (List UInt8)} : joinP b ((c :: h) :: t) = c :: joinP b (h :: t) := by
  rcases t with _ | ⟨y, t⟩ <;> simp [joinP]

theorem joinP_segs (b : UInt8) : ∀ s : List UInt8, joinP b (segs b s) = s
  | [] => rfl
  | c :: s => by
    have ih := joinP_segs b s
    simp only [segs]
    split
    · rename_i e
      rcases e2 : segs b s with _ | ⟨h, t⟩
      · exact absurd e2 (segs_ne b s)
      · rw [joinP, ← e2, ih, e]
        rfl
    · rcases e2 : segs b s with _ | ⟨h, t⟩
      · exact absurd e2 (segs_ne b s)
      · simp only
        rw [join_cons, ← e2, ih]

theorem segs_count (b : UInt8) : ∀ l : List UInt8, (segs b l).length ≤ l.length + 1
  | [] => by simp [segs]
  | c :: l => by
    have ih := segs_count b l
    simp only [segs]
    split
    · simp; omega
    · rcases e : segs b l with _ | ⟨h, t⟩
      · simp
      · rw [e] at ih
        simp at ih ⊢
        omega

/-- A text's lines, each with its end. -/
def linesP : List UInt8 → List (List UInt8)
  | [] => []
  | c :: l => if c = 10 then [10] :: linesP l else match linesP l with
    | [] => [[c]]
    | h :: t => (c :: h) :: t

theorem lines_app : ∀ (x r : List UInt8), (∀ c ∈ x, c ≠ 10) → linesP (x ++ 10 :: r) = (x ++ [10]) :: linesP r
  | [], r, _ => by simp [linesP]
  | c :: x, r, h => by
    have ih := lines_app x r fun d hd => h d (.tail _ hd)
    simp only [List.cons_append, linesP, if_neg (h c (.head _)), ih]

theorem lines_flat : ∀ s : List UInt8, (linesP s).flatten = s
  | [] => rfl
  | c :: s => by
    have ih := lines_flat s
    simp only [linesP]
    split
    · rename_i e
      rw [List.flatten_cons, ih, e]
      rfl
    · rcases e2 : linesP s with _ | ⟨h, t⟩
      · rw [e2] at ih
        simp at ih
        subst ih
        rfl
      · simp only
        rw [e2] at ih
        rw [← ih]
        simp

theorem lines_len : ∀ s : List UInt8, (linesP s).length ≤ s.length
  | [] => Nat.le_refl _
  | c :: s => by
    have ih := lines_len s
    simp only [linesP]
    split
    · simp; omega
    · rcases e2 : linesP s with _ | ⟨h, t⟩
      · simp
      · rw [e2] at ih
        simp at ih ⊢
        omega

theorem lines_cons_some {l : List UInt8} {i : Nat} (h : l[i]? = some 10) (hk : ∀ k : Nat, k < i → l[k]? ≠ some 10) : linesP l = l.take (i + 1) :: linesP (l.drop (i + 1)) := by
  have hi := (List.getElem?_eq_some_iff.1 h)
  obtain ⟨hlt, he⟩ := hi
  have h1 : l = l.take i ++ 10 :: l.drop (i + 1) := by
    rw [← he, List.getElem_cons_drop, List.take_append_drop]
  have h2 : ∀ c ∈ l.take i, c ≠ 10 := fun c hc e => by
    obtain ⟨k, hk1, hk2⟩ := List.getElem_of_mem hc
    have hk3 : k < i := by
      rw [List.length_take] at hk1
      omega
    refine hk k hk3 ?_
    rw [List.getElem_take] at hk2
    rw [List.getElem?_eq_getElem (by omega), hk2, e]
  have h3 := lines_app (l.take i) (l.drop (i + 1)) h2
  rw [← h1] at h3
  rw [h3, List.take_add_one, h]
  rfl

theorem lines_free : ∀ {l : List UInt8}, l ≠ [] → (∀ k : Nat, l[k]? ≠ some 10) → linesP l = [l]
  | [], h, _ => absurd rfl h
  | c :: l, _, h => by
    have hc : ¬ c = 10 := fun e => h 0 (by simp [e])
    simp only [linesP, if_neg hc]
    rcases l with _ | ⟨d, l⟩
    · rfl
    · rw [lines_free (by simp) (fun k => by have := h (k + 1); simpa using this)]

/-- An act's line, with its end. -/
def lineP (a : ActP) : Option (List UInt8) := (partsP a).map fun ps => joinP 32 ps ++ [10]

/-- A line's act: of a line with its end alone. -/
def actP (l : List UInt8) : Option ActP := if l.getLast? = some 10 then ofP (segs 32 l.dropLast) else none

theorem join_all {b : UInt8} {f : UInt8 → Bool} (hb : f b = true) : ∀ {ps : List (List UInt8)}, (∀ x ∈ ps, ∀ c ∈ x, f c = true) → ∀ c ∈ joinP b ps, f c = true
  | [], _, c, hc => by simp [joinP] at hc
  | [x], h, c, hc => h x (.head _) c hc
  | x :: y :: r, h, c, hc => by
    rw [joinP] at hc
    rcases List.mem_append.1 hc with hc | hc
    · exact h x (.head _) c hc
    · rcases List.mem_cons.1 hc with rfl | hc
      · exact hb
      · exact join_all hb (fun z hz => h z (.tail _ hz)) c hc

theorem parts_plain {a : ActP} {ps : List (List UInt8)} (h : partsP a = some ps) : ps ≠ [] ∧ (∀ x ∈ ps, ∀ c ∈ x, 33 ≤ c.toNat ∧ c.toNat ≤ 126) ∧ ∀ x ∈ ps, x.length ≤ 64 := by
  obtain ⟨_, h1, h2⟩ := ofP_parts (partsP_of h)
  rw [List.all_eq_true] at h1
  refine ⟨h2, fun x hx c hc => ?_, fun x hx => ?_⟩
  · have := h1 x hx
    simp only [Bool.and_eq_true, decide_eq_true_eq, List.all_eq_true] at this
    have := this.2 c hc
    simpa [plainB] using this
  · have := h1 x hx
    simp only [Bool.and_eq_true, decide_eq_true_eq] at this
    exact this.1

/-- A right act's line is a text and its end; read, it is that act. -/
theorem line_act {a : ActP} {l : List UInt8} (h : lineP a = some l) : ∃ x, l = x ++ [10] ∧ (∀ c ∈ x, c ≠ 10) ∧ ofP (segs 32 x) = some a := by
  obtain ⟨ps, hp, rfl⟩ := Option.map_eq_some_iff.1 h
  obtain ⟨h1, h2, h3⟩ := parts_plain hp
  refine ⟨joinP 32 ps, rfl, fun c hc e => ?_, ?_⟩
  · have := join_all (b := 32) (f := fun c => decide (c ≠ 10)) (by decide) (ps := ps) (fun x hx c hc => by
      have := h2 x hx c hc
      simp
      rintro rfl
      revert this
      decide) c hc
    simp [e] at this
  · rw [segs_joinP ps h1 (fun x hx c hc e => by
      have := h2 x hx c hc
      rw [e] at this
      revert this
      decide)]
    exact partsP_of hp

theorem act_line {x : List UInt8} {a : ActP} (h : ofP (segs 32 x) = some a) : lineP a = some (x ++ [10]) := by
  obtain ⟨h1, _⟩ := ofP_parts h
  rw [lineP, h1, Option.map_some, joinP_segs]

theorem join_len (b : UInt8) : ∀ ps : List (List UInt8), (∀ x ∈ ps, x.length ≤ 64) → (joinP b ps).length ≤ 65 * ps.length
  | [], _ => by simp [joinP]
  | [x], h => by have := h x (.head _); simp [joinP]; omega
  | x :: y :: r, h => by
    have h1 := h x (.head _)
    have h2 := join_len b (y :: r) fun z hz => h z (.tail _ hz)
    rw [joinP, List.length_append, List.length_cons]
    simp only [List.length_cons] at h2 ⊢
    omega

theorem line_len {a : ActP} {l : List UInt8} (h : lineP a = some l) : l.length ≤ 261 ∧ 1 ≤ l.length := by
  obtain ⟨ps, hp, rfl⟩ := Option.map_eq_some_iff.1 h
  obtain ⟨h1, h2, h3⟩ := parts_plain hp
  have h4 := join_len 32 ps h3
  have h5 : ps.length ≤ 4 := by
    simp only [partsP] at hp
    split at hp
    · cases hp
    · rename_i w hw
      split at hp
      · cases hp
        rcases needs_kinds hw with rfl | rfl | rfl | rfl | rfl | rfl | rfl <;> simp [textsP]
      · cases hp
  simp
  omega

/-! ### Texts of acts -/

/-- Acts' text, where all are right. -/
def layP : List ActP → Option (List UInt8)
  | [] => some []
  | a :: l => match lineP a, layP l with
    | some x, some y => some (x ++ y)
    | _, _ => none

/-- Lines' acts, or the first line (from k on) that is none; the line 200 is none. -/
def actsGo : Nat → List (List UInt8) → Except Nat (List ActP)
  | _, [] => .ok []
  | k, l :: ls => match actP l with
    | none => .error (k + 1)
    | some a => if k = 200 then .error (k + 1) else match actsGo (k + 1) ls with
      | .error n => .error n
      | .ok r => .ok (a :: r)

theorem actP_line (x : List UInt8) : actP (x ++ [10]) = ofP (segs 32 x) := by simp [actP]

theorem lay_lines : ∀ (l : List ActP) (s r : List UInt8), layP l = some s → ∃ xs : List (List UInt8), linesP (s ++ r) = xs ++ linesP r ∧ xs.map actP = l.map some ∧ xs.length = l.length
  | [], s, r, h => by
    simp only [layP, Option.some.injEq] at h
    subst h
    exact ⟨[], rfl, rfl, rfl⟩
  | a :: l, s, r, h => by
    simp only [layP] at h
    split at h
    · rename_i x y hx hy
      cases h
      obtain ⟨t, rfl, ht, ho⟩ := line_act hx
      obtain ⟨xs, h1, h2, h3⟩ := lay_lines l y r hy
      refine ⟨(t ++ [10]) :: xs, ?_, ?_, by simp [h3]⟩
      · rw [List.append_assoc, List.append_assoc, List.singleton_append, lines_app t _ ht, h1]
        rfl
      · rw [List.map_cons, List.map_cons, actP_line, ho, h2]
    · cases h

theorem acts_app : ∀ (k : Nat) (xs ys : List (List UInt8)) (l : List ActP), xs.map actP = l.map some → k + l.length ≤ 200 →
    actsGo k (xs ++ ys) = match actsGo (k + l.length) ys with | .error n => .error n | .ok r => .ok (l ++ r)
  | k, [], ys, l, h, _ => by
    have : l = [] := by
      rcases l with _ | ⟨a, l⟩
      · rfl
      · simp at h
    subst this
    simp only [List.nil_append, List.length_nil, Nat.add_zero]
    rcases actsGo k ys with _ | _ <;> rfl
  | k, x :: xs, ys, l, h, hk => by
    rcases l with _ | ⟨a, l⟩
    · simp at h
    · simp only [List.map_cons, List.cons.injEq] at h
      simp only [List.length_cons] at hk
      have ih := acts_app (k + 1) xs ys l h.2 (by omega)
      simp only [List.cons_append, actsGo, h.1]
      rw [if_neg (by omega), ih, List.length_cons, show k + 1 + l.length = k + (l.length + 1) by omega]
      rcases actsGo (k + (l.length + 1)) ys with _ | _ <;> rfl

theorem lay_len : ∀ (l : List ActP) (s : List UInt8), layP l = some s → s.length ≤ 261 * l.length
  | [], s, h => by
    simp only [layP, Option.some.injEq] at h
    subst h
    simp
  | a :: l, s, h => by
    simp only [layP] at h
    split at h
    · rename_i x y hx hy
      cases h
      have h1 := (line_len hx).1
      have h2 := lay_len l y hy
      simp
      omega
    · cases h

theorem getLast_split {l : List UInt8} (h : l.getLast? = some 10) : l = l.dropLast ++ [10] := by
  rcases List.eq_nil_or_concat l with rfl | ⟨x, b, rfl⟩
  · simp at h
  · simp at h
    subst h
    simp

/-- Lines that are acts: laid, they are those lines. -/
theorem acts_lay : ∀ (k : Nat) (xs : List (List UInt8)) (l : List ActP), k ≤ 200 → actsGo k xs = .ok l → layP l = some xs.flatten ∧ l.length = xs.length ∧ k + xs.length ≤ 200
  | k, [], l, hk, h => by
    simp only [actsGo, Except.ok.injEq] at h
    subst h
    exact ⟨rfl, rfl, hk⟩
  | k, x :: xs, l, hk200, h => by
    simp only [actsGo] at h
    split at h
    · cases h
    · rename_i a ha
      split at h
      · cases h
      · rename_i hk
        split at h
        · cases h
        · rename_i r hr
          cases h
          obtain ⟨h1, h2, h3⟩ := acts_lay (k + 1) xs r (by omega) hr
          unfold actP at ha
          split at ha
          · rename_i hl
            have e := getLast_split hl
            have h4 := act_line ha
            rw [← e] at h4
            refine ⟨by simp only [layP, h4, h1]; simp, by simp [h2], ?_⟩
            simp only [List.length_cons]
            omega
          · cases ha
end Go.Proofs.YtiomljaengonoaaGreatDoor
