/- What a stack shows at each path, and that look answers it, in plain Lean; no program. -/
import Derived.Test.YtknfaabhlcdeoaaGreatDoorTreeOps
namespace Go.Proofs.YtknfaabhlcdeoaaGreatDoor
open Go Go.RowKit

/-- Whether a path lies below another. -/
def underB (p q : ByteArray) : Bool := match names p, names q with
  | some xs, some ys => decide (ys.length < xs.length) && decide (xs.take ys.length = ys)
  | _, _ => false

/-- Names that make a path. -/
def ValN (xs : List ByteArray) : Prop := xs.all nameB = true ∧ xs.length ≤ 6
theorem ValN.names {xs : List ByteArray} (h : ValN xs) : names (pathOf xs) = some xs := names_pathOf h.1 h.2
theorem ValN.left {xs ys : List ByteArray} (h : ValN (xs ++ ys)) : ValN xs := by
  obtain ⟨h1, h2⟩ := h
  rw [List.all_append, Bool.and_eq_true] at h1
  rw [List.length_append] at h2
  exact ⟨h1.1, by omega⟩
theorem ValN.take {xs : List ByteArray} (h : ValN xs) (n : Nat) : ValN (xs.take n) := by
  rw [← List.take_append_drop n xs] at h
  exact h.left
theorem ValN.of {p : ByteArray} {xs : List ByteArray} (h : Proofs.YtknfaabhlcdeoaaGreatDoor.names p = some xs) : ValN xs ∧ pathOf xs = p := ⟨⟨(names_some h).1, (names_some h).2.1⟩, (names_some h).2.2⟩
theorem ValN.inj {xs ys : List ByteArray} (h : ValN xs) (h' : ValN ys) (e : pathOf xs = pathOf ys) : xs = ys := pathOf_inj h.1 h.2 h'.1 h'.2 e
theorem ValN.root {xs : List ByteArray} (h : ValN xs) : pathOf xs = ⟨#[47]⟩ ↔ xs = [] := pathOf_root h.1 h.2

theorem under_app {xs rest : List ByteArray} (hv : ValN (xs ++ rest)) (h0 : rest ≠ []) : underB (pathOf (xs ++ rest)) (pathOf xs) = true := by
  have := List.length_pos_iff.2 h0
  rw [underB, hv.names, hv.left.names]
  simp
  omega
theorem under_names {p q : ByteArray} (h : underB p q = true) : ∃ ys rest, rest ≠ [] ∧ q = pathOf ys ∧ p = pathOf (ys ++ rest) ∧ ValN (ys ++ rest) := by
  rw [underB] at h
  split at h
  · rename_i xs ys hx hy
    rw [Bool.and_eq_true, decide_eq_true_eq, decide_eq_true_eq] at h
    obtain ⟨vx, ex⟩ := ValN.of hx
    obtain ⟨vy, ey⟩ := ValN.of hy
    have e : ys ++ xs.drop ys.length = xs := by
      have := List.take_append_drop ys.length xs
      rwa [h.2] at this
    refine ⟨ys, xs.drop ys.length, ?_, ey.symm, by rw [e, ex], by rw [e]; exact vx⟩
    intro h1
    have := congrArg List.length h1
    rw [List.length_drop] at this
    simp at this
    omega
  · cases h
theorem under_lt {p q : ByteArray} (h : underB p q = true) (hq : q ≠ ⟨#[47]⟩) : lt q p = true := by
  obtain ⟨ys, rest, h0, rfl, rfl, hv⟩ := under_names h
  have hy : ys ≠ [] := fun e => hq (by rw [e]; rfl)
  clear h hq
  induction rest generalizing ys with
  | nil => exact absurd rfl h0
  | cons z r ih =>
    have h1 := path_lt hy z
    rw [show ys ++ z :: r = (ys ++ [z]) ++ r by simp] at hv ⊢
    by_cases hr : r = []
    · subst hr
      rw [List.append_nil]
      exact h1
    · exact lt_trans h1 (ih (ys ++ [z]) hr hv (by simp))

theorem findE_T {l : List Ent} (h : layerOk l = true) (p : ByteArray) : findE l p = findT l p := by rw [findE, if_pos h, findT]

/-- What an entry of a layer makes of its path. -/
def resE (e : Ent) : Option Ent := if e.kind = 3 then none else if e.kind = 1 then some e else some ⟨e.path, 2, ⟨#[]⟩⟩
/-- Whether a layer hides what lay at a path, by what stands over it. -/
def cutL (l : List Ent) (p : ByteArray) : Bool := l.any fun e => !decide (e.kind = 2) && underB p e.path
/-- What a layer makes of what was shown at a path. -/
def stepL (l : List Ent) (p : ByteArray) (x : Option Ent) : Option Ent := match findT l p with
  | some e => resE e
  | none => if cutL l p = true then none else x
/-- What a stack shows at a path. -/
def showL (s : List (List Ent)) (p : ByteArray) : Option Ent := s.foldl (fun x l => stepL l p x) none

theorem showL_nil (p : ByteArray) : showL [] p = none := rfl
theorem showL_snoc (s : List (List Ent)) (l : List Ent) (p : ByteArray) : showL (s ++ [l]) p = stepL l p (showL s p) := by simp [showL, List.foldl_append]
theorem showL_take {s : List (List Ent)} {k : Nat} (h : k < s.length) (p : ByteArray) : showL (s.take (k + 1)) p = stepL s[k] p (showL (s.take k) p) := by rw [← List.take_append_getElem h, showL_snoc]

theorem stepL_some {l : List Ent} {p : ByteArray} {e : Ent} (h : findT l p = some e) (x : Option Ent) : stepL l p x = resE e := by rw [stepL, h]
theorem stepL_none {l : List Ent} {p : ByteArray} (h : findT l p = none) (x : Option Ent) : stepL l p x = if cutL l p = true then none else x := by rw [stepL, h]

theorem mem_root {l : List Ent} (h : layerOk l = true) {e : Ent} (he : e ∈ l) {ys : List ByteArray} (hv : ValN ys) (hp : e.path = pathOf ys) : ys ≠ [] := by
  rintro rfl
  obtain ⟨zs, z, h1, _⟩ := ent_names ((layerOk_iff.1 h).2.2 e he).1
  rw [hp, hv.names] at h1
  have := Option.some.inj h1
  simp at this

/-- What stands in a layer lies in a directory of it. -/
theorem findT_dir {l : List Ent} (h : layerOk l = true) {xs : List ByteArray} {z : ByteArray} (h0 : xs ≠ []) (hv : ValN (xs ++ [z])) {e : Ent} (he : findT l (pathOf (xs ++ [z])) = some e) : ∃ u, findT l (pathOf xs) = some u ∧ holds u = true := by
  obtain ⟨_, hr, hall⟩ := layerOk_iff.1 h
  obtain ⟨hm, hp⟩ := findT_some he
  have hd : dirOf e.path = pathOf xs := by rw [hp]; exact names_dir hv.names
  rcases (hall e hm).2 with h1 | ⟨y, hy, h2, h3⟩
  · rw [hd] at h1
    exact absurd (hv.left.root.1 h1) h0
  · refine ⟨y, ?_, h3⟩
    rw [← hd, ← h2]
    exact findT_of hr hy

theorem findT_up {l : List Ent} (h : layerOk l = true) {xs : List ByteArray} (h0 : xs ≠ []) : ∀ (n : Nat) (rest : List ByteArray), rest.length = n + 1 → ValN (xs ++ rest) → ∀ e, findT l (pathOf (xs ++ rest)) = some e → ∃ u, findT l (pathOf xs) = some u ∧ holds u = true := by
  intro n
  induction n with
  | zero =>
    intro rest hl hv e he
    obtain ⟨z, rfl⟩ := List.length_eq_one_iff.1 hl
    exact findT_dir h h0 hv he
  | succ n ih =>
    intro rest hl hv e he
    have hne : rest ≠ [] := List.ne_nil_of_length_pos (by omega)
    rw [← List.dropLast_concat_getLast hne, ← List.append_assoc] at hv he
    obtain ⟨u, hu, _⟩ := findT_dir h (by simp [h0]) hv he
    exact ih rest.dropLast (by rw [List.length_dropLast]; omega) hv.left u hu

/-- Where no directory stands, none lies under it. -/
theorem findT_below {l : List Ent} (h : layerOk l = true) {xs rest : List ByteArray} (h0 : xs ≠ []) (h1 : rest ≠ []) (hv : ValN (xs ++ rest)) (hn : ∀ u, findT l (pathOf xs) = some u → holds u = false) : findT l (pathOf (xs ++ rest)) = none := by
  rcases he : findT l (pathOf (xs ++ rest)) with _ | e
  · rfl
  · have := List.length_pos_iff.2 h1
    obtain ⟨u, hu, h2⟩ := findT_up h h0 (rest.length - 1) rest (by omega) hv e he
    rw [hn u hu] at h2
    cases h2

theorem cut_of {l : List Ent} {xs rest : List ByteArray} (h1 : rest ≠ []) (hv : ValN (xs ++ rest)) {u : Ent} (hu : findT l (pathOf xs) = some u) (hk : u.kind ≠ 2) : cutL l (pathOf (xs ++ rest)) = true := by
  obtain ⟨hm, hp⟩ := findT_some hu
  rw [cutL, List.any_eq_true]
  refine ⟨u, hm, ?_⟩
  rw [hp, under_app hv h1]
  simp [hk]

/-- From a floor on a directory was there without a break; what lies under it in the layers below is hidden. -/
structure Reset (s : List (List Ent)) (xs : List ByteArray) (f : Nat) : Prop where
  up : ∀ k l, f < k → s[k]? = some l → ∀ j, 1 ≤ j → j ≤ xs.length → ∀ u, findT l (pathOf (xs.take j)) = some u → u.kind = 2
  low : ∀ rest, rest ≠ [] → ValN (xs ++ rest) → (∃ l, s[f]? = some l ∧ cutL l (pathOf (xs ++ rest)) = true) ∨ showL (s.take f) (pathOf (xs ++ rest)) = none

theorem reset_cut {s : List (List Ent)} {xs : List ByteArray} {f k : Nat} {l : List Ent} {z : ByteArray} (hR : Reset s xs f) (hk : f < k) (hl : s[k]? = some l) (ho : layerOk l = true) (hv : ValN (xs ++ [z])) : cutL l (pathOf (xs ++ [z])) = false := by
  rw [cutL, List.any_eq_false]
  intro e he hc
  rw [Bool.and_eq_true] at hc
  obtain ⟨ys, rest, h0, h1, h2, hv2⟩ := under_names hc.2
  have e1 := hv.inj hv2 h2
  have hy := mem_root ho he hv2.left h1
  have hl1 := congrArg List.length e1
  simp only [List.length_append, List.length_singleton] at hl1
  have := List.length_pos_iff.2 h0
  have := List.length_pos_iff.2 hy
  have e2 : xs.take ys.length = ys := by
    have h3 := congrArg (List.take ys.length) e1
    rw [List.take_append_of_le_length (by omega), List.take_append_of_le_length (Nat.le_refl _), List.take_length] at h3
    exact h3
  have h4 := hR.up k l hk hl ys.length (by omega) (by omega) e (by rw [e2, ← h1]; exact findT_of (layerOk_iff.1 ho).2.1 he)
  simp [h4] at hc

/-- The last layer below k, down to a floor, that has an entry at a path tells. -/
def lastR (s : List (List Ent)) (p : ByteArray) (f : Nat) : Nat → Option Ent
  | 0 => none
  | k + 1 => if k < f then none else match findT (s[k]?.getD []) p with
    | some e => resE e
    | none => lastR s p f k

theorem lastR_low (s : List (List Ent)) (p : ByteArray) {f k : Nat} (h : k ≤ f) : lastR s p f k = none := by
  rcases k with _ | k
  · rfl
  · rw [lastR, if_pos (by omega)]

variable {s : List (List Ent)} {xs : List ByteArray} {z : ByteArray} {f : Nat}

theorem show_last (hs : ∀ l ∈ s, layerOk l = true) (hR : Reset s xs f) (hv : ValN (xs ++ [z])) : ∀ k, f < k → k ≤ s.length → showL (s.take k) (pathOf (xs ++ [z])) = lastR s (pathOf (xs ++ [z])) f k
  | 0, h, _ => by omega
  | k + 1, hf, hk => by
    have hks : k < s.length := by omega
    have hg : s[k]? = some s[k] := List.getElem?_eq_getElem hks
    rw [showL_take hks, lastR, if_neg (by omega), hg, Option.getD_some]
    rcases he : findT s[k] (pathOf (xs ++ [z])) with _ | e
    · rw [stepL_none he]
      by_cases e : f = k
      · subst e
        simp only [lastR_low s _ (Nat.le_refl f)]
        rcases hR.low [z] (by simp) hv with ⟨l, h1, h2⟩ | h1
        · rw [hg] at h1
          cases h1
          rw [if_pos h2]
        · rw [h1]
          split <;> rfl
      · rw [if_neg (by rw [reset_cut hR (by omega) hg (hs _ (List.getElem_mem hks)) hv]; simp)]
        exact show_last hs hR hv k (by omega) (by omega)
    · rw [stepL_some he]

theorem show_ask (hs : ∀ l ∈ s, layerOk l = true) (hR : Reset s xs f) (hv : ValN (xs ++ [z])) : showL s (pathOf (xs ++ [z])) = lastR s (pathOf (xs ++ [z])) f s.length := by
  by_cases hf : f < s.length
  · have := show_last hs hR hv s.length hf (Nat.le_refl _)
    rwa [List.take_length] at this
  · rw [lastR_low s _ (by omega)]
    rcases hR.low [z] (by simp) hv with ⟨l, h1, _⟩ | h1
    · rw [List.getElem?_eq_none (by omega)] at h1
      cases h1
    · rwa [List.take_of_length_le (by omega)] at h1

/-- What is hidden stays so where its directory isn't. -/
theorem show_quiet (hs : ∀ l ∈ s, layerOk l = true) {ds rest : List ByteArray} (hd : ds ≠ []) (h1 : rest ≠ []) (hv : ValN (ds ++ rest)) {b : Nat} (hb : showL (s.take b) (pathOf (ds ++ rest)) = none) : ∀ g, b ≤ g → g ≤ s.length → (∀ j l, b ≤ j → j < g → s[j]? = some l → findT l (pathOf ds) = none) → showL (s.take g) (pathOf (ds ++ rest)) = none
  | 0, hg, _, _ => by
    have : b = 0 := by omega
    subst this
    exact hb
  | g + 1, hg, hl, hq => by
    by_cases e : b = g + 1
    · rw [← e]; exact hb
    · have hgs : g < s.length := by omega
      have ih := show_quiet hs hd h1 hv hb g (by omega) (by omega) fun j l h2 h3 h4 => hq j l h2 (by omega) h4
      rw [showL_take hgs, ih, stepL_none (findT_below (hs _ (List.getElem_mem hgs)) hd h1 hv (by
        intro u hu
        rw [hq g _ (by omega) (by omega) (List.getElem?_eq_getElem hgs)] at hu
        cases hu))]
      split <;> rfl

theorem reset_up (hR : Reset s xs f) {g : Nat} (hg : f ≤ g) (hup : ∀ j l, g < j → s[j]? = some l → ∀ u, findT l (pathOf (xs ++ [z])) = some u → u.kind = 2) : ∀ k l, g < k → s[k]? = some l → ∀ j, 1 ≤ j → j ≤ (xs ++ [z]).length → ∀ u, findT l (pathOf ((xs ++ [z]).take j)) = some u → u.kind = 2 := by
  intro k l hk hl j h1 h2 u hu
  rw [List.length_append, List.length_singleton] at h2
  by_cases e : j = xs.length + 1
  · subst e
    rw [List.take_of_length_le (by simp)] at hu
    exact hup k l hk hl u hu
  · rw [List.take_append_of_le_length (by omega)] at hu
    exact hR.up k l (by omega) hl j h1 (by omega) u hu

/-- A directory that stands at a floor, below which no other stands down to its directory's. -/
theorem reset_bottom (hs : ∀ l ∈ s, layerOk l = true) (hR : Reset s xs f) {g : Nat} (hfg : f ≤ g) (hg : g < s.length) (hq : ∀ j l, f ≤ j → j < g → s[j]? = some l → findT l (pathOf (xs ++ [z])) = none)
    (hup : ∀ j l, g < j → s[j]? = some l → ∀ u, findT l (pathOf (xs ++ [z])) = some u → u.kind = 2) : Reset s (xs ++ [z]) g := by
  refine ⟨reset_up hR hfg hup, fun rest h0 hv => ?_⟩
  have hlow := hR.low ([z] ++ rest) (by simp) (by rw [← List.append_assoc]; exact hv)
  rw [← List.append_assoc] at hlow
  by_cases e : f = g
  · subst e
    exact hlow
  · right
    have hfs : f < s.length := by omega
    refine show_quiet hs (by simp) h0 hv (b := f + 1) ?_ g (by omega) (by omega) fun j l h1 h2 h3 => hq j l (by omega) h2 h3
    rw [showL_take hfs, stepL_none (findT_below (hs _ (List.getElem_mem hfs)) (by simp) h0 hv (by
      intro u hu
      rw [hq f _ (Nat.le_refl _) (by omega) (List.getElem?_eq_getElem hfs)] at hu
      cases hu))]
    rcases hlow with ⟨l, h1, h2⟩ | h1
    · rw [List.getElem?_eq_getElem hfs] at h1
      cases h1
      rw [if_pos h2]
    · rw [h1]
      split <;> rfl

/-- A directory that stands at a floor, over something that is none. -/
theorem reset_over (hs : ∀ l ∈ s, layerOk l = true) (hR : Reset s xs f) {g k : Nat} (hfg : f ≤ g) (hkg : k < g) (hg : g < s.length) {e : Ent} (he : ∀ l, s[k]? = some l → findT l (pathOf (xs ++ [z])) = some e) (hk2 : e.kind ≠ 2) (hh : holds e = false)
    (hq : ∀ j l, k < j → j < g → s[j]? = some l → findT l (pathOf (xs ++ [z])) = none) (hup : ∀ j l, g < j → s[j]? = some l → ∀ u, findT l (pathOf (xs ++ [z])) = some u → u.kind = 2) : Reset s (xs ++ [z]) g := by
  refine ⟨reset_up hR hfg hup, fun rest h0 hv => .inr ?_⟩
  have hks : k < s.length := by omega
  have hek := he _ (List.getElem?_eq_getElem hks)
  refine show_quiet hs (by simp) h0 hv (b := k + 1) ?_ g (by omega) (by omega) fun j l h1 h2 h3 => hq j l (by omega) h2 h3
  rw [showL_take hks, stepL_none (findT_below (hs _ (List.getElem_mem hks)) (by simp) h0 hv (by
    intro u hu
    rw [hek] at hu
    cases hu
    exact hh)), if_pos (cut_of h0 hv hek hk2)]

/-- A directory that stands at a floor as one that hides. -/
theorem reset_opaque (hR : Reset s xs f) {g : Nat} (hfg : f ≤ g) (hg : g < s.length) {e : Ent} (he : ∀ l, s[g]? = some l → findT l (pathOf (xs ++ [z])) = some e) (hk2 : e.kind ≠ 2)
    (hup : ∀ j l, g < j → s[j]? = some l → ∀ u, findT l (pathOf (xs ++ [z])) = some u → u.kind = 2) : Reset s (xs ++ [z]) g := by
  refine ⟨reset_up hR hfg hup, fun rest h0 hv => .inl ⟨_, List.getElem?_eq_getElem hg, ?_⟩⟩
  exact cut_of h0 hv (he _ (List.getElem?_eq_getElem hg)) hk2

theorem ask_low (hs : ∀ l ∈ s, layerOk l = true) (hR : Reset s xs f) : ∀ k g, f ≤ k → k ≤ g → g < s.length →
    (∀ j l, k ≤ j → j < g → s[j]? = some l → findT l (pathOf (xs ++ [z])) = none) → (∀ j l, g ≤ j → s[j]? = some l → ∀ u, findT l (pathOf (xs ++ [z])) = some u → u.kind = 2) →
    ∃ h, askR s (pathOf (xs ++ [z])) f k g true = ((⟨pathOf (xs ++ [z]), 2, ⟨#[]⟩⟩, h), true) ∧ Reset s (xs ++ [z]) h
  | 0, g, hf, hk, hg, hq, hup => ⟨g, rfl, reset_bottom hs hR (by omega) hg (fun j l h1 h2 h3 => hq j l (by omega) h2 h3) fun j l h1 h2 => hup j l (by omega) h2⟩
  | k + 1, g, hf, hk, hg, hq, hup => by
    rw [askR]
    split
    · rename_i h1
      exact ⟨g, rfl, reset_bottom hs hR (by omega) hg (fun j l h1 h2 h3 => hq j l (by omega) h2 h3) fun j l h1 h2 => hup j l (by omega) h2⟩
    · rename_i h1
      have hks : k < s.length := by omega
      have ho := hs _ (List.getElem_mem hks)
      have hg' : s[k]? = some s[k] := List.getElem?_eq_getElem hks
      rw [hg', Option.getD_some, findE_T ho]
      rcases he : findT s[k] (pathOf (xs ++ [z])) with _ | e
      · exact ask_low hs hR k g (by omega) (by omega) hg (fun j l h2 h3 h4 => by
          by_cases e : j = k
          · subst e
            rw [hg'] at h4
            cases h4
            exact he
          · exact hq j l (by omega) h3 h4) hup
      · have hke := entOk_kind ((layerOk_iff.1 ho).2.2 e (findT_some he).1).1
        have heq : ∀ l, s[k]? = some l → findT l (pathOf (xs ++ [z])) = some e := fun l h => by
          rw [hg'] at h
          cases h
          exact he
        have hup2 : ∀ j l, k < j → s[j]? = some l → ∀ u, findT l (pathOf (xs ++ [z])) = some u → u.kind = 2 := fun j l h2 h3 u hu => by
          rcases Nat.lt_or_ge j g with h4 | h4
          · rw [hq j l (by omega) h4 h3] at hu
            cases hu
          · exact hup j l h4 h3 u hu
        dsimp only
        split
        · rename_i h2
          have h3 : e.kind = 3 ∨ e.kind = 1 := h2.elim .inl fun h => .inr h.1
          exact ⟨g, rfl, reset_over hs hR (by omega) (by omega) hg heq (by omega) (by
            simp only [holds, Bool.or_eq_false_iff, beq_eq_false_iff_ne]
            omega) (fun j l h4 h5 h6 => hq j l (by omega) h5 h6) fun j l h4 h5 => hup j l (by omega) h5⟩
        · rename_i h2
          have h2a : e.kind ≠ 3 := fun h => h2 (.inl h)
          have h2b : e.kind ≠ 1 := fun h => h2 (.inr ⟨h, rfl⟩)
          rw [if_neg h2b]
          split
          · rename_i h4
            exact ⟨k, rfl, reset_opaque (g := k) hR (by omega) hks heq (by omega) hup2⟩
          · rename_i h4
            refine ask_low hs hR k k (by omega) (Nat.le_refl _) hks (fun j l h5 h6 => by omega) fun j l h5 h6 u hu => ?_
            by_cases e1 : j = k
            · subst e1
              rw [heq l h6] at hu
              cases hu
              omega
            · exact hup2 j l (by omega) h6 u hu

/-- What a stack's ask says: what the last layer tells. -/
def AskIs (s : List (List Ent)) (ds : List ByteArray) (r : (Ent × Nat) × Bool) : Option Ent → Prop
  | none => r.2 = false
  | some e => r.2 = true ∧ r.1.1 = e ∧ (e.kind ≠ 1 → Reset s ds r.1.2)

theorem ask_top (hs : ∀ l ∈ s, layerOk l = true) (hR : Reset s xs f) : ∀ k g, k ≤ s.length → (∀ j l, k ≤ j → s[j]? = some l → findT l (pathOf (xs ++ [z])) = none) →
    AskIs s (xs ++ [z]) (askR s (pathOf (xs ++ [z])) f k g false) (lastR s (pathOf (xs ++ [z])) f k)
  | 0, g, _, _ => rfl
  | k + 1, g, hk, hq => by
    rw [askR, lastR]
    by_cases h1 : k < f
    · rw [if_pos h1, if_pos h1]
      exact rfl
    · rw [if_neg h1, if_neg h1]
      have hks : k < s.length := by omega
      have ho := hs _ (List.getElem_mem hks)
      have hg' : s[k]? = some s[k] := List.getElem?_eq_getElem hks
      rw [hg', Option.getD_some, findE_T ho]
      rcases he : findT s[k] (pathOf (xs ++ [z])) with _ | e
      · exact ask_top hs hR k g (by omega) fun j l h2 h3 => by
          by_cases e : j = k
          · subst e
            rw [hg'] at h3
            cases h3
            exact he
          · exact hq j l (by omega) h3
      · have hke := entOk_kind ((layerOk_iff.1 ho).2.2 e (findT_some he).1).1
        have hep := (findT_some he).2
        have heq : ∀ l, s[k]? = some l → findT l (pathOf (xs ++ [z])) = some e := fun l h => by
          rw [hg'] at h
          cases h
          exact he
        have hup2 : ∀ j l, k < j → s[j]? = some l → ∀ u, findT l (pathOf (xs ++ [z])) = some u → u.kind = 2 := fun j l h2 h3 u hu => by
          rw [hq j l (by omega) h3] at hu
          cases hu
        dsimp only
        rw [resE]
        by_cases h3 : e.kind = 3
        · rw [if_pos (.inl h3), if_pos h3]
          exact rfl
        · rw [if_neg (by simp [h3]), if_neg h3]
          by_cases h4 : e.kind = 1
          · rw [if_pos h4, if_pos h4]
            exact ⟨rfl, rfl, fun h => absurd h4 h⟩
          · rw [if_neg h4, if_neg h4]
            by_cases h5 : e.kind = 4
            · rw [if_pos h5, hep]
              exact ⟨rfl, rfl, fun _ => reset_opaque (g := k) hR (by omega) hks heq (by omega) hup2⟩
            · rw [if_neg h5, hep]
              obtain ⟨h, h6, h7⟩ := ask_low (z := z) hs hR k k (by omega) (Nat.le_refl _) hks (fun j l h5 h6 => by omega) fun j l h5 h6 u hu => by
                by_cases e1 : j = k
                · subst e1
                  rw [heq l h6] at hu
                  cases hu
                  omega
                · exact hup2 j l (by omega) h6 u hu
              rw [h6]
              exact ⟨rfl, rfl, fun _ => h7⟩

/-- What is found behind some names, by what a stack shows. -/
def lookS (s : List (List Ent)) (ys : List ByteArray) : Nat → Except Int Ent
  | 0 => .ok ⟨⟨#[47]⟩, 2, ⟨#[]⟩⟩
  | i + 1 => match lookS s ys i with
    | .error c => .error c
    | .ok x => if x.kind = 1 then .error 6 else match showL s (pathOf (ys.take (i + 1))) with
      | none => .error 3
      | some e => .ok e

def LookIs (s : List (List Ent)) (ys : List ByteArray) (i : Nat) : Except Int (Ent × Nat) → Prop
  | .error c => lookS s ys i = .error c
  | .ok x => lookS s ys i = .ok x.1 ∧ (x.1.kind ≠ 1 → Reset s (ys.take i) x.2)

theorem look_show {ys : List ByteArray} (hs : ∀ l ∈ s, layerOk l = true) (hv : ValN ys) : ∀ i, i ≤ ys.length → LookIs s ys i (lookN s ys i)
  | 0, _ => ⟨rfl, fun _ => ⟨fun k l _ _ j h1 h2 => by simp at h2; omega, fun rest _ _ => .inr rfl⟩⟩
  | i + 1, hi => by
    have ih := look_show hs hv i (by omega)
    have et : ys.take (i + 1) = ys.take i ++ [ys[i]] := (List.take_append_getElem (by omega)).symm
    rw [lookN]
    rcases hl : lookN s ys i with c | x
    · rw [hl] at ih
      have ih : lookS s ys i = .error c := ih
      show lookS s ys (i + 1) = .error c
      rw [lookS, ih]
    · rw [hl] at ih
      obtain ⟨h1, h2⟩ := ih
      dsimp only
      by_cases hk : x.1.kind = 1
      · rw [if_pos hk]
        show lookS s ys (i + 1) = .error 6
        rw [lookS, h1]
        exact if_pos hk
      · rw [if_neg hk]
        have hR := h2 hk
        have hvt := hv.take (i + 1)
        have hls : lookS s ys (i + 1) = match showL s (pathOf (ys.take (i + 1))) with | none => .error 3 | some e => .ok e := by
          rw [lookS, h1]
          exact if_neg hk
        rw [et] at hvt hls ⊢
        have ha := ask_top (z := ys[i]) hs hR s.length 0 (Nat.le_refl _) fun j l h3 h4 => by
          rw [List.getElem?_eq_none h3] at h4
          cases h4
        rw [show_ask hs hR hvt] at hls
        rw [askE]
        rcases hq : lastR s (pathOf (ys.take i ++ [ys[i]])) x.2 s.length with _ | e
        · rw [hq] at ha hls
          have ha : (askR s (pathOf (ys.take i ++ [ys[i]])) x.2 s.length 0 false).2 = false := ha
          rw [if_neg (by rw [ha]; simp)]
          exact hls
        · rw [hq] at ha hls
          obtain ⟨a1, a2, a3⟩ := ha
          rw [if_pos a1]
          refine ⟨by rw [hls, a2], fun h => ?_⟩
          rw [et]
          exact a3 (by rw [← a2]; exact h)

/-- What is shown lies in a directory that is shown. -/
def TreeF (g : ByteArray → Option Ent) : Prop := ∀ xs z e, xs ≠ [] → ValN (xs ++ [z]) → g (pathOf (xs ++ [z])) = some e → ∃ d, g (pathOf xs) = some d ∧ d.kind = 2

theorem step_tree {l : List Ent} (hl : layerOk l = true) {g : ByteArray → Option Ent} (hg : TreeF g) : TreeF fun p => stepL l p (g p) := by
  intro xs z e h0 hv he
  have he : stepL l (pathOf (xs ++ [z])) (g (pathOf (xs ++ [z]))) = some e := he
  show ∃ d, stepL l (pathOf xs) (g (pathOf xs)) = some d ∧ d.kind = 2
  rcases hf : findT l (pathOf (xs ++ [z])) with _ | u
  · rw [stepL_none hf] at he
    split at he
    · cases he
    · rename_i hc
      obtain ⟨d, hd, hk⟩ := hg xs z e h0 hv he
      rcases hx : findT l (pathOf xs) with _ | v
      · rw [stepL_none hx, if_neg, hd]
        · exact ⟨d, rfl, hk⟩
        · intro h
          apply hc
          rw [cutL, List.any_eq_true] at h ⊢
          obtain ⟨w, hw, h1⟩ := h
          rw [Bool.and_eq_true] at h1
          refine ⟨w, hw, ?_⟩
          obtain ⟨ys, rest, r0, r1, r2, r3⟩ := under_names h1.2
          have := hv.left.inj r3 r2
          subst this
          rw [h1.1, r1, List.append_assoc, under_app (by rw [← List.append_assoc]; exact hv) (by simp)]
          rfl
      · rw [stepL_some hx]
        have hk2 : v.kind = 2 := Classical.byContradiction fun h => hc (cut_of (by simp) hv hx h)
        rw [resE, if_neg (by omega), if_neg (by omega)]
        exact ⟨_, rfl, rfl⟩
  · obtain ⟨v, hv1, hv2⟩ := findT_dir hl h0 hv hf
    rw [stepL_some hv1]
    simp only [holds, Bool.or_eq_true, beq_iff_eq] at hv2
    rw [resE, if_neg (by omega), if_neg (by omega)]
    exact ⟨_, rfl, rfl⟩

theorem show_tree (hs : ∀ l ∈ s, layerOk l = true) : TreeF (showL s) := by
  have key : ∀ k, k ≤ s.length → TreeF (showL (s.take k)) := by
    intro k
    induction k with
    | zero =>
      intro _ xs z e _ _ he
      cases he
    | succ k ih =>
      intro hk
      have := step_tree (hs _ (List.getElem_mem (show k < s.length by omega))) (ih (by omega))
      intro xs z e h0 hv he
      rw [showL_take (show k < s.length by omega)] at he ⊢
      exact this xs z e h0 hv he
  have := key s.length (Nat.le_refl _)
  rwa [List.take_length] at this

theorem lookS_of (hs : ∀ l ∈ s, layerOk l = true) {ys : List ByteArray} (hv : ValN ys) (i : Nat) : i + 1 ≤ ys.length → ∀ e, showL s (pathOf (ys.take (i + 1))) = some e → lookS s ys (i + 1) = .ok e := by
  induction i with
  | zero =>
    intro _ e he
    rw [lookS, lookS]
    simp only [he]
    rfl
  | succ i ih =>
    intro hi e he
    have et : ys.take (i + 1 + 1) = ys.take (i + 1) ++ [ys[i + 1]] := (List.take_append_getElem (by omega)).symm
    rw [lookS]
    have hvt := hv.take (i + 1 + 1)
    have he' := he
    rw [et] at hvt he'
    have hne : ys.take (i + 1) ≠ [] := by
      intro h
      have h1 := congrArg List.length h
      rw [List.length_take, List.length_nil] at h1
      omega
    obtain ⟨d, hd, hk⟩ := show_tree hs (ys.take (i + 1)) ys[i + 1] e hne hvt he'
    rw [ih (by omega) d hd]
    dsimp only
    rw [if_neg (by omega), he]
theorem lookS_ok {ys : List ByteArray} {i : Nat} {e : Ent} (h1 : 1 ≤ i) (h : lookS s ys i = .ok e) : showL s (pathOf (ys.take i)) = some e := by
  rcases i with _ | i
  · omega
  · rw [lookS] at h
    split at h
    · cases h
    · split at h
      · cases h
      · split at h
        · cases h
        · rename_i e2 he2
          cases h
          exact he2

/-- What look.At finds is what the stack shows. -/
theorem lookE_some {p : ByteArray} {ys : List ByteArray} (hs : stackOk s = true) (hn : names p = some ys) (h0 : ys ≠ []) {e : Ent} (he : showL s p = some e) : ∃ f, lookE s p = .ok (e, f) := by
  obtain ⟨_, hl⟩ := stackOk_layers hs
  obtain ⟨hv, hp⟩ := ValN.of hn
  have h1 := look_show hl hv ys.length (Nat.le_refl _)
  have h2 : lookS s ys ys.length = .ok e := by
    obtain ⟨n, hn'⟩ : ∃ n, ys.length = n + 1 := ⟨ys.length - 1, by have := List.length_pos_iff.2 h0; omega⟩
    have := lookS_of hl hv n (by omega) e (by rw [← hn', List.take_length, hp]; exact he)
    rwa [← hn'] at this
  rw [lookE, if_pos hs, hn]
  dsimp only
  rcases hq : lookN s ys ys.length with c | x
  · rw [hq] at h1
    have h1 : lookS s ys ys.length = .error c := h1
    rw [h1] at h2
    cases h2
  · rw [hq] at h1
    obtain ⟨h1, _⟩ := h1
    rw [h1] at h2
    cases h2
    exact ⟨x.2, rfl⟩
theorem lookE_show {p : ByteArray} {ys : List ByteArray} (hn : names p = some ys) (h0 : ys ≠ []) {x : Ent × Nat} (h : lookE s p = .ok x) : showL s p = some x.1 := by
  obtain ⟨zs, hs, hz, hl, _⟩ := lookE_ok h
  rw [hn] at hz
  cases hz
  obtain ⟨_, hla⟩ := stackOk_layers hs
  obtain ⟨hv, hp⟩ := ValN.of hn
  have h1 := look_show hla hv ys.length (Nat.le_refl _)
  rw [hl] at h1
  have := lookS_ok (List.length_pos_iff.2 h0) h1.1
  rwa [List.take_length, hp] at this
theorem shows_show {p : ByteArray} {ys : List ByteArray} (hs : stackOk s = true) (hn : names p = some ys) (h0 : ys ≠ []) : showsE s p = (showL s p).isSome := by
  rw [showsE]
  rcases hl : lookE s p with c | x
  · rcases hq : showL s p with _ | e
    · rfl
    · obtain ⟨f, hf⟩ := lookE_some hs hn h0 hq
      rw [hf] at hl
      cases hl
  · rw [lookE_show hn h0 hl]
    rfl
end Go.Proofs.YtknfaabhlcdeoaaGreatDoor
