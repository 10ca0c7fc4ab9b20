/- A text at a byte, byte by byte; the text's pieces at line ends and its lines; no program. -/
import Derived.Test.YtiomljaengonoaaGreatDoorScrW
namespace Go.Proofs.YtiomljaengonoaaGreatDoor

theorem segs_snoc_eq (b : UInt8) : ∀ l : List UInt8, segs b (l ++ [b]) = segs b l ++ [[]]
  | [] => by simp [segs]
  | d :: l => by
    have ih := segs_snoc_eq b l
    simp only [List.cons_append, segs, ih]
    split
    · rfl
    · rcases e : segs b l with _ | ⟨h, t⟩
      · exact absurd e (segs_ne b l)
      · rfl

theorem segs_snoc_ne {b c : UInt8} (hc : c ≠ b) : ∀ l : List UInt8, ∃ x, (segs b l)[(segs b l).length - 1]? = some x ∧ segs b (l ++ [c]) = (segs b l).set ((segs b l).length - 1) (x ++ [c])
  | [] => ⟨[], by simp [segs], by simp [segs, hc]⟩
  | d :: l => by
    obtain ⟨x, h1, h2⟩ := segs_snoc_ne hc l
    rcases e : segs b l with _ | ⟨h, t⟩
    · exact absurd e (segs_ne b l)
    rw [e] at h1 h2
    simp only [List.cons_append, segs, h2, e]
    split
    · refine ⟨x, ?_, ?_⟩
      · simpa using h1
      · simp
    · rcases t with _ | ⟨y, t⟩
      · simp only [List.length_singleton, Nat.sub_self, List.getElem?_cons_zero, Option.some.injEq] at h1
        subst h1
        exact ⟨d :: h, by simp, by simp⟩
      · exact ⟨x, by simpa using h1, by simp⟩

theorem take_snoc_u {l : List UInt8} {k : Nat} {c : UInt8} (h : l[k]? = some c) : l.take (k + 1) = l.take k ++ [c] := by
  rw [List.take_add_one, h]
  rfl

theorem segs_no (b : UInt8) : ∀ (l x : List UInt8), x ∈ segs b l → b ∉ x
  | [], x, h => by
    simp only [segs, List.mem_singleton] at h
    subst h
    simp
  | c :: l, x, h => by
    have ih := segs_no b l
    simp only [segs] at h
    split at h
    · rcases List.mem_cons.1 h with rfl | h
      · simp
      · exact ih x h
    · rename_i hc
      rcases e : segs b l with _ | ⟨y, t⟩
      · exact absurd e (segs_ne b l)
      · rw [e] at h ih
        rcases List.mem_cons.1 h with rfl | h
        · have := ih y (.head _)
          simp only [List.mem_cons, not_or]
          exact ⟨fun e => hc e.symm, this⟩
        · exact ih x (.tail _ h)

/-- A text's lines are its pieces at line ends, each with its end; what stands behind the last end is a line if it is something. -/
theorem lines_segs : ∀ s : List UInt8, linesP s = (segs 10 s).dropLast.map (· ++ [10]) ++ (if (segs 10 s).getLast?.getD [] = [] then [] else [(segs 10 s).getLast?.getD []])
  | [] => rfl
  | c :: s => by
    have ih := lines_segs s
    rcases e : segs 10 s with _ | ⟨h, t⟩
    · exact absurd e (segs_ne 10 s)
    rw [e] at ih
    by_cases hc : c = 10
    · subst hc
      simp only [segs, linesP, if_true, e, ih]
      simp
    · simp only [segs, linesP, if_neg hc, e, ih]
      rcases t with _ | ⟨y, t⟩
      · by_cases hh : h = []
        · subst hh
          simp
        · simp [hh]
      · simp

/-- The acts of pieces, as the document reads them. -/
def goR : Nat → List (List UInt8) → Except Nat (List ActP)
  | _, [] => .ok []
  | k, x :: xs => match ofP (segs 32 x) with
    | none => .error (k + 1)
    | some a => if k = 200 then .error (k + 1) else match goR (k + 1) xs with
      | .error n => .error n
      | .ok r => .ok (a :: r)

theorem acts_pieces : ∀ (A : List (List UInt8)) (k : Nat) (tl : List (List UInt8)), actsGo k (A.map (· ++ [10]) ++ tl) = match goR k A with
    | .error n => .error n
    | .ok r => match actsGo (k + A.length) tl with
      | .error n => .error n
      | .ok r' => .ok (r ++ r')
  | [], k, tl => by
    simp only [List.map_nil, List.nil_append, goR, List.length_nil, Nat.add_zero]
    rcases actsGo k tl with n | r <;> rfl
  | x :: A, k, tl => by
    have ih := acts_pieces A (k + 1) tl
    simp only [List.map_cons, List.cons_append, actsGo, goR, actP_line, ih, List.length_cons]
    rw [show k + (A.length + 1) = k + 1 + A.length by omega]
    rcases ofP (segs 32 x) with _ | a
    · rfl
    · simp only
      by_cases h : k = 200
      · rw [if_pos h, if_pos h]
      · rw [if_neg h, if_neg h]
        rcases goR (k + 1) A with n | r
        · rfl
        · simp only
          rcases actsGo (k + 1 + A.length) tl with n | r' <;> rfl

/-- Reading by lines is reading by pieces. -/
theorem read_segs (s : List UInt8) : actsGo 0 (linesP s) = match goR 0 (segs 10 s).dropLast with
    | .error n => .error n
    | .ok r => if (segs 10 s).getLast?.getD [] = [] then .ok r else .error (segs 10 s).length := by
  rw [lines_segs, acts_pieces]
  rcases goR 0 (segs 10 s).dropLast with n | r
  · rfl
  · simp only
    by_cases h : (segs 10 s).getLast?.getD [] = []
    · rw [if_pos h, if_pos h]
      simp [actsGo]
    · rw [if_neg h, if_neg h]
      obtain ⟨x, hx⟩ : ∃ x, (segs 10 s).getLast? = some x := by
        rcases e : (segs 10 s).getLast? with _ | x
        · exact absurd (List.getLast?_eq_none_iff.1 e) (segs_ne 10 s)
        · exact ⟨x, rfl⟩
      have hno := segs_no 10 s x (List.mem_of_getLast? hx)
      rw [hx, Option.getD_some]
      have h1 : actP x = none := by
        rw [actP, if_neg]
        intro e
        exact hno (List.mem_of_getLast? e)
      simp only [actsGo, h1]
      have := List.length_pos_iff.2 (segs_ne 10 s)
      congr 1
      rw [List.length_dropLast]
      omega

/-- One more piece. -/
theorem goR_take {A : List (List UInt8)} {k : Nat} (h : k < A.length) {r : List ActP} (hr : goR 0 (A.take k) = .ok r) : goR 0 (A.take (k + 1)) = match ofP (segs 32 A[k]) with
    | none => .error (k + 1)
    | some a => if k = 200 then .error (k + 1) else .ok (r ++ [a]) := by
  have key : ∀ (A : List (List UInt8)) (j k : Nat) (h : k < A.length) (r : List ActP), goR j (A.take k) = .ok r → goR j (A.take (k + 1)) = match ofP (segs 32 A[k]) with
      | none => .error (j + k + 1)
      | some a => if j + k = 200 then .error (j + k + 1) else .ok (r ++ [a]) := by
    intro A
    induction A with
    | nil => intro j k h; simp at h
    | cons x A ih =>
      intro j k h r hr
      rcases k with _ | k
      · simp only [List.take_zero, goR, Except.ok.injEq] at hr
        subst hr
        simp only [List.take_succ_cons, List.take_zero, goR, List.getElem_cons_zero, Nat.add_zero, List.nil_append]
      · simp only [List.take_succ_cons, goR] at hr ⊢
        rcases hx : ofP (segs 32 x) with _ | a
        · rw [hx] at hr; cases hr
        · rw [hx] at hr
          simp only at hr ⊢
          by_cases h2 : j = 200
          · rw [if_pos h2] at hr; cases hr
          · rw [if_neg h2] at hr ⊢
            rcases hg : goR (j + 1) (A.take k) with n | r'
            · rw [hg] at hr; cases hr
            · rw [hg] at hr
              cases hr
              rw [ih (j + 1) k (by simpa using h) r' hg, show j + 1 + k = j + (k + 1) by omega]
              simp only [List.getElem_cons_succ]
              rcases ofP (segs 32 (A[k]'(by simpa using h))) with _ | b
              · rfl
              · simp only
                by_cases h3 : j + (k + 1) = 200
                · rw [if_pos h3, if_pos h3]
                · rw [if_neg h3, if_neg h3]
                  rfl
  have := key A 0 k h r hr
  simpa using this

theorem goR_err {A : List (List UInt8)} {k n : Nat} (h : goR 0 (A.take k) = .error n) : goR 0 A = .error n := by
  have key : ∀ (A : List (List UInt8)) (j k : Nat), goR j (A.take k) = .error n → goR j A = .error n := by
    intro A
    induction A with
    | nil => intro j k h; simpa using h
    | cons x A ih =>
      intro j k h
      rcases k with _ | k
      · cases h
      · simp only [List.take_succ_cons, goR] at h ⊢
        rcases hx : ofP (segs 32 x) with _ | a
        · rw [hx] at h; exact h
        · rw [hx] at h
          simp only at h ⊢
          by_cases h2 : j = 200
          · rw [if_pos h2] at h ⊢; exact h
          · rw [if_neg h2] at h ⊢
            rcases hg : goR (j + 1) (A.take k) with m | r'
            · rw [hg] at h
              cases h
              rw [ih (j + 1) k hg]
            · rw [hg] at h; cases h
  exact key A 0 k h
end Go.Proofs.YtiomljaengonoaaGreatDoor
