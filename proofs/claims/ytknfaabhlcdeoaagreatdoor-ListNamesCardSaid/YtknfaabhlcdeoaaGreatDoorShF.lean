/- What a stack folds to has just what it shows, in plain Lean; no program. -/
import Derived.Test.YtknfaabhlcdeoaaGreatDoorShw
namespace Go.Proofs.YtknfaabhlcdeoaaGreatDoor
open Go Go.RowKit

theorem findT_filter {t : List Ent} (hr : Rising t) (g : Ent → Bool) (p : ByteArray) : findT (t.filter g) p = match findT t p with | some x => if g x = true then some x else none | none => none := by
  rcases hf : findT t p with _ | x
  · exact findT_not fun y hy => findT_none hf y (List.mem_filter.1 hy).1
  · obtain ⟨h1, h2⟩ := findT_some hf
    dsimp only
    split
    · rename_i hg
      rw [← h2]
      exact findT_of (List.Pairwise.filter _ hr) (List.mem_filter.2 ⟨h1, hg⟩)
    · rename_i hg
      refine findT_not fun y hy e => hg ?_
      have := rising_one hr (List.mem_filter.1 hy).1 h1 (by rw [e, h2])
      rw [← this]
      exact (List.mem_filter.1 hy).2

/-- Whether an entry of a tree goes, where one is laid over it. -/
def goesB (e x : Ent) : Bool := if e.kind = 2 then decide (x.path = e.path) && decide (x.kind = 1) else decide (x.path = e.path) || underB x.path e.path
/-- fold.one. -/
def oneT (t : List Ent) (e : Ent) : List Ent := if e.kind = 3 then t.filter fun x => !goesB e x else insT (t.filter fun x => !goesB e x) (if e.kind = 4 then ⟨e.path, 2, e.data⟩ else e)
/-- A layer over a tree. -/
def overT (t l : List Ent) : List Ent := l.foldl oneT t
/-- A stack, folded. -/
def foldT (s : List (List Ent)) : List Ent := s.foldl overT []

theorem overT_snoc (t l : List Ent) (e : Ent) : overT t (l ++ [e]) = oneT (overT t l) e := by simp [overT]
theorem foldT_snoc (s : List (List Ent)) (l : List Ent) : foldT (s ++ [l]) = overT (foldT s) l := by simp [foldT]
theorem overT_take (t : List Ent) {l : List Ent} {k : Nat} (h : k < l.length) : overT t (l.take (k + 1)) = oneT (overT t (l.take k)) l[k] := by rw [← List.take_append_getElem h, overT_snoc]
theorem foldT_take {s : List (List Ent)} {k : Nat} (h : k < s.length) : foldT (s.take (k + 1)) = overT (foldT (s.take k)) s[k] := by rw [← List.take_append_getElem h, foldT_snoc]

theorem rising_one_ (t : List Ent) (hr : Rising t) (e : Ent) : Rising (oneT t e) := by
  rw [oneT]
  split
  · exact List.Pairwise.filter _ hr
  · exact rising_insT (List.Pairwise.filter _ hr) _
theorem one_len (t : List Ent) (e : Ent) : (oneT t e).length ≤ t.length + 1 := by
  have := List.length_filter_le (fun x => !goesB e x) t
  rw [oneT]
  split
  · omega
  · rw [insT_len]
    have := delT_len (t.filter fun x => !goesB e x) (if e.kind = 4 then (⟨e.path, 2, e.data⟩ : Ent) else e).path
    omega
theorem over_len (t : List Ent) : ∀ l : List Ent, (overT t l).length ≤ t.length + l.length := by
  intro l
  induction l generalizing t with
  | nil => exact Nat.le_refl _
  | cons e l ih =>
    have h1 := ih (oneT t e)
    have h2 := one_len t e
    show (overT (oneT t e) l).length ≤ _
    rw [List.length_cons]
    omega

theorem resE_dir {e : Ent} (he : entOk e = true) (h3 : e.kind ≠ 3) (h1 : e.kind ≠ 1) : resE e = some ⟨e.path, 2, e.data⟩ ∧ e.data = ⟨#[]⟩ := by
  have hd : e.data = ⟨#[]⟩ := by
    rw [entOk, Bool.and_eq_true] at he
    have h := he.2
    rw [if_neg h1] at h
    rw [Bool.and_eq_true, List.isEmpty_iff] at h
    exact data_inj h.2
  refine ⟨?_, hd⟩
  rw [resE, if_neg h3, if_neg h1, hd]

theorem lay_find {t : List Ent} (hr : Rising t) {e : Ent} (he : entOk e = true) (p : ByteArray) : findT (oneT t e) p = if p = e.path then resE e else if e.kind ≠ 2 ∧ underB p e.path = true then none else findT t p := by
  have hk := entOk_kind he
  have hff := findT_filter hr (fun x => !goesB e x) p
  have hin : ∀ u : Ent, u.path = e.path → findT (insT (t.filter fun x => !goesB e x) u) p = if p = e.path then some u else findT (t.filter fun x => !goesB e x) p := fun u hu => by rw [findT_ins (List.Pairwise.filter _ hr), hu]
  have hother : p ≠ e.path → findT (t.filter fun x => !goesB e x) p = if e.kind ≠ 2 ∧ underB p e.path = true then none else findT t p := fun hp => by
    rw [hff]
    rcases hf : findT t p with _ | x
    · simp
    · obtain ⟨_, hx⟩ := findT_some hf
      dsimp only
      rw [goesB]
      by_cases h2 : e.kind = 2
      · simp [h2, hx, hp]
      · rcases hu : underB p e.path with _ | _
        · simp [h2, hx, hp, hu]
        · simp [h2, hx, hp, hu]
  rw [oneT]
  by_cases h3 : e.kind = 3
  · rw [if_pos h3]
    by_cases hp : p = e.path
    · rw [if_pos hp, hff, resE, if_pos h3]
      rcases hf : findT t p with _ | x
      · rfl
      · obtain ⟨_, hx⟩ := findT_some hf
        dsimp only
        rw [if_neg]
        rw [goesB, if_neg (by omega), hx, hp]
        simp
    · rw [if_neg hp, hother hp]
  · rw [if_neg h3]
    by_cases h1 : e.kind = 1
    · rw [if_neg (show ¬ e.kind = 4 by omega), hin e rfl]
      by_cases hp : p = e.path
      · rw [if_pos hp, if_pos hp, resE, if_neg h3, if_pos h1]
      · rw [if_neg hp, if_neg hp, hother hp]
    · obtain ⟨hres, hd⟩ := resE_dir he h3 h1
      have hu : (if e.kind = 4 then (⟨e.path, 2, e.data⟩ : Ent) else e) = ⟨e.path, 2, e.data⟩ := by
        split
        · rfl
        · have : e.kind = 2 := by omega
          cases e
          simp at this ⊢
          exact this
      rw [hu, hin ⟨e.path, 2, e.data⟩ rfl]
      by_cases hp : p = e.path
      · rw [if_pos hp, if_pos hp, hres]
      · rw [if_neg hp, if_neg hp, hother hp]

theorem findT_snoc (l : List Ent) (e : Ent) (p : ByteArray) : findT (l ++ [e]) p = match findT l p with | some u => some u | none => if e.path = p then some e else none := by
  rw [findT, List.find?_append, ← findT]
  rcases findT l p with _ | u
  · by_cases h : e.path = p <;> simp [h]
  · rfl
theorem cutL_snoc (l : List Ent) (e : Ent) (p : ByteArray) : cutL (l ++ [e]) p = (cutL l p || (!decide (e.kind = 2) && underB p e.path)) := by simp [cutL]

/-- What a layer makes of a tree, path by path. -/
theorem over_find {t l : List Ent} (hr : Rising t) (hl : layerOk l = true) (p : ByteArray) : Rising (overT t l) ∧ findT (overT t l) p = stepL l p (findT t p) := by
  obtain ⟨_, hrl, hall⟩ := layerOk_iff.1 hl
  have key : ∀ k, k ≤ l.length → Rising (overT t (l.take k)) ∧ findT (overT t (l.take k)) p = stepL (l.take k) p (findT t p) := by
    intro k
    induction k with
    | zero =>
      intro _
      refine ⟨hr, ?_⟩
      rw [List.take_zero]
      show findT t p = _
      rw [stepL_none (by rfl)]
      exact (if_neg (by simp [cutL])).symm
    | succ k ih =>
      intro hk
      obtain ⟨h1, h2⟩ := ih (by omega)
      have hkl : k < l.length := by omega
      obtain ⟨e, hek⟩ : ∃ e, l[k] = e := ⟨_, rfl⟩
      have he := (hall l[k] (List.getElem_mem hkl)).1
      have hlow : ∀ u ∈ l.take k, lt u.path e.path = true := fun u hu => by
        obtain ⟨j, hj, rfl⟩ := List.getElem_of_mem hu
        rw [List.length_take] at hj
        rw [List.getElem_take, ← hek]
        exact hrl.at_ (by omega) hkl
      rw [overT_take t hkl]
      refine ⟨rising_one_ _ h1 _, ?_⟩
      rw [lay_find h1 he, h2, ← List.take_append_getElem hkl, stepL, stepL, findT_snoc, cutL_snoc]
      rw [hek] at he ⊢
      by_cases hp : p = e.path
      · have hn : findT (l.take k) p = none := findT_not fun u hu e2 => by
          have := hlow u hu
          rw [e2, hp, lt_irrefl] at this
          cases this
        rw [if_pos hp, hn]
        simp [hp]
      · rw [if_neg hp]
        rcases hf : findT (l.take k) p with _ | u
        · have hne : (if e.path = p then some e else none) = (none : Option Ent) := if_neg fun h => hp h.symm
          simp only [hne]
          by_cases h3 : e.kind ≠ 2 ∧ underB p e.path = true
          · rw [if_pos h3]
            simp [h3.1, h3.2]
          · rw [if_neg h3]
            have : (!decide (e.kind = 2) && underB p e.path) = false := by
              rw [Bool.and_eq_false_iff]
              by_cases h4 : e.kind = 2
              · left; simp [h4]
              · right
                rcases h5 : underB p e.path with _ | _
                · rfl
                · exact absurd ⟨h4, h5⟩ h3
            rw [this, Bool.or_false]
        · dsimp only
          rw [if_neg]
          rintro ⟨_, h4⟩
          obtain ⟨hu1, hu2⟩ := findT_some hf
          have h5 := hlow u hu1
          have hroot : e.path ≠ ⟨#[47]⟩ := by
            obtain ⟨ys, z, h6, _⟩ := ent_names he
            exact names_ne_root h6 (by simp)
          have h6 := under_lt h4 hroot
          rw [hu2] at h5
          rw [lt_asymm h5] at h6
          cases h6
  have := key l.length (Nat.le_refl _)
  rwa [List.take_length] at this

/-- The entries of a folded stack are right. -/
def MemT (t : List Ent) : Prop := ∀ x ∈ t, entOk x = true ∧ x.kind ≤ 2
theorem mem_one {t : List Ent} (ht : MemT t) {e : Ent} (he : entOk e = true) : MemT (oneT t e) := by
  intro x hx
  have hk := entOk_kind he
  rw [oneT] at hx
  split at hx
  · exact ht x (List.mem_filter.1 hx).1
  · rename_i h3
    rcases mem_insT.1 hx with rfl | ⟨h, _⟩
    · split
      · rename_i h4
        refine ⟨?_, by simp⟩
        rw [entOk, Bool.and_eq_true] at he ⊢
        refine ⟨he.1, ?_⟩
        have h5 := he.2
        rw [if_neg (by omega)] at h5
        rw [if_neg (by simp)]
        simp only [Bool.and_eq_true, decide_eq_true_eq] at h5 ⊢
        refine ⟨by simp, ?_⟩
        exact h5.2
      · exact ⟨he, by omega⟩
    · exact ht x (List.mem_filter.1 h).1
theorem mem_over {l : List Ent} (hl : ∀ e ∈ l, entOk e = true) : ∀ {t : List Ent}, MemT t → MemT (overT t l) := by
  induction l with
  | nil => intro t h; exact h
  | cons e l ih =>
    intro t h
    exact ih (fun x hx => hl x (by simp [hx])) (mem_one h (hl e (by simp)))

theorem treeF_of {t : List Ent} (h : treeOk t = true) : TreeF (findT t) := by
  obtain ⟨_, hr, hall⟩ := treeOk_iff.1 h
  intro xs z e h0 hv he
  obtain ⟨hm, hp⟩ := findT_some he
  have hd : dirOf e.path = pathOf xs := by rw [hp]; exact names_dir hv.names
  rcases (hall e hm).2.2 with h1 | ⟨y, hy, h2, h3⟩
  · rw [hd] at h1
    exact absurd (hv.left.root.1 h1) h0
  · refine ⟨y, ?_, h3⟩
    rw [← hd, ← h2]
    exact findT_of hr hy
theorem tree_of {t : List Ent} (hlen : t.length ≤ 1024) (hr : Rising t) (hm : MemT t) (hf : TreeF (findT t)) : treeOk t = true := by
  refine treeOk_iff.2 ⟨hlen, hr, fun x hx => ⟨(hm x hx).1, (hm x hx).2, ?_⟩⟩
  obtain ⟨ys, z, h1, h2, _, _, _, h6⟩ := ent_names (hm x hx).1
  obtain ⟨hv, hp⟩ := ValN.of h1
  by_cases h0 : ys = []
  · left
    rw [h2, h0]
    rfl
  · right
    obtain ⟨d, hd, hk⟩ := hf ys z x h0 hv (by rw [hp]; exact findT_of hr hx)
    obtain ⟨d1, d2⟩ := findT_some hd
    exact ⟨d, d1, by rw [d2, h2], hk⟩

/-- A layer over a tree makes a tree. -/
theorem over_tree {t l : List Ent} (ht : treeOk t = true) (hl : layerOk l = true) (hlen : t.length + l.length ≤ 1024) : treeOk (overT t l) = true := by
  obtain ⟨_, hr, hall⟩ := treeOk_iff.1 ht
  obtain ⟨_, _, hlall⟩ := layerOk_iff.1 hl
  have hle := over_len t l
  refine tree_of (by omega) (over_find hr hl ⟨#[]⟩).1 (mem_over (fun e he => (hlall e he).1) fun x hx => ⟨(hall x hx).1, (hall x hx).2.1⟩) ?_
  have h1 := step_tree hl (treeF_of ht)
  intro xs z e h0 hv he
  rw [(over_find hr hl _).2] at he ⊢
  exact h1 xs z e h0 hv he

/-- A stack's beginning, folded. -/
theorem fold_take {s : List (List Ent)} (hs : ∀ l ∈ s, layerOk l = true) (h9 : s.length ≤ 9) : ∀ k, k ≤ s.length → treeOk (foldT (s.take k)) = true ∧ (foldT (s.take k)).length ≤ 64 * k ∧ ∀ p, findT (foldT (s.take k)) p = showL (s.take k) p
  | 0, _ => ⟨by rfl, Nat.le_refl _, fun p => rfl⟩
  | k + 1, hk => by
    obtain ⟨h1, h2, h3⟩ := fold_take hs h9 k (by omega)
    have hks : k < s.length := by omega
    have ho := hs _ (List.getElem_mem hks)
    have h4 := layerOk_len ho
    have h5 := over_len (foldT (s.take k)) s[k]
    rw [foldT_take hks]
    refine ⟨over_tree h1 ho (by omega), by omega, fun p => ?_⟩
    rw [(over_find (treeOk_rising h1) ho p).2, h3, showL_take hks]
theorem fold_show {s : List (List Ent)} (hs : stackOk s = true) : treeOk (foldT s) = true ∧ (foldT s).length ≤ 576 ∧ ∀ p, findT (foldT s) p = showL s p := by
  obtain ⟨h9, hl⟩ := stackOk_layers hs
  obtain ⟨h1, h2, h3⟩ := fold_take hl h9 s.length (Nat.le_refl _)
  rw [List.take_length] at h1 h2 h3
  exact ⟨h1, by omega, h3⟩

/-! ### The names of a directory -/

theorem str_ext : ∀ {a b : List ByteArray}, (a.Pairwise fun x y => lt x y = true) → (b.Pairwise fun x y => lt x y = true) → (∀ x, x ∈ a ↔ x ∈ b) → a = b
  | [], [], _, _, _ => rfl
  | [], y :: b, _, _, h => by have := (h y).2 (by simp); simp at this
  | x :: a, [], _, _, h => by have := (h x).1 (by simp); simp at this
  | x :: a, y :: b, ha, hb, h => by
    have ha' := List.pairwise_cons.1 ha
    have hb' := List.pairwise_cons.1 hb
    have hxy : x = y := by
      rcases List.mem_cons.1 ((h x).1 (by simp)) with e | hx
      · exact e
      · rcases List.mem_cons.1 ((h y).2 (by simp)) with e | hy
        · exact e.symm
        · have h1 := ha'.1 y hy
          have h2 := hb'.1 x hx
          rw [lt_asymm h1] at h2
          cases h2
    subst hxy
    congr 1
    refine str_ext ha'.2 hb'.2 fun z => ?_
    constructor
    · intro hz
      rcases List.mem_cons.1 ((h z).1 (List.mem_cons_of_mem _ hz)) with rfl | hz'
      · have := ha'.1 z hz
        rw [lt_irrefl] at this
        cases this
      · exact hz'
    · intro hz
      rcases List.mem_cons.1 ((h z).2 (List.mem_cons_of_mem _ hz)) with rfl | hz'
      · have := hb'.1 z hz
        rw [lt_irrefl] at this
        cases this
      · exact hz'

theorem lt_app : ∀ (l : List UInt8) {a b : List UInt8}, l ++ a < l ++ b ↔ a < b
  | [], _, _ => Iff.rfl
  | c :: l, a, b => by
    rw [List.cons_append, List.cons_append, List.cons_lt_cons_iff]
    constructor
    · rintro (h | ⟨_, h⟩)
      · exact absurd h (UInt8.lt_irrefl _)
      · exact (lt_app l).1 h
    · intro h
      exact .inr ⟨rfl, (lt_app l).2 h⟩
theorem lt_child (p a b : ByteArray) : lt (childP p a) (childP p b) = lt a b := by
  rw [Bool.eq_iff_iff, lt, lt, decide_eq_true_eq, decide_eq_true_eq, childP, childP]
  split
  · rw [toList_B, toList_B]
    exact lt_app [47]
  · rw [toList_B, toList_B]
    have h := lt_app (p.data.toList ++ [47]) (a := a.data.toList) (b := b.data.toList)
    rw [List.append_assoc, List.append_assoc] at h
    exact h

theorem inP_child {p z : ByteArray} {x : Ent} (h : inP p x = some z) : x.path = childP p z ∧ nameB z = true := by
  obtain ⟨ys, hy, hp⟩ := inP_iff.1 h
  obtain ⟨hv, he⟩ := ValN.of hy
  refine ⟨?_, ?_⟩
  · rw [← he, ← hp, child_path hv.left.1 hv.left.2]
  · have := hv.1
    rw [List.all_append, Bool.and_eq_true] at this
    simpa using this.2

theorem inT_mem {t : List Ent} (ht : treeOk t = true) {p z : ByteArray} {ys : List ByteArray} (hn : names p = some ys) (hz : nameB z = true) : z ∈ inT t p ↔ (findT t (childP p z)).isSome = true := by
  obtain ⟨hv, hp⟩ := ValN.of hn
  rw [inT, List.mem_filterMap]
  constructor
  · rintro ⟨x, hx, h⟩
    rw [← (inP_child h).1, findT_of (treeOk_rising ht) hx]
    rfl
  · intro h
    rw [Option.isSome_iff_exists] at h
    obtain ⟨x, hx⟩ := h
    obtain ⟨h1, h2⟩ := findT_some hx
    refine ⟨x, h1, ?_⟩
    obtain ⟨ws, w, h3, _⟩ := ent_names ((treeOk_iff.1 ht).2.2 x h1).1
    have h4 := h3
    rw [h2, ← hp, child_path hv.1 hv.2] at h4
    rcases names_child hv.1 (nameOk_no hz) h4 with h5 | h5
    · simp at h5
    · rw [inP_iff]
      exact ⟨ys, by rw [h3, h5], hp⟩

theorem inT_sorted {t : List Ent} (hr : Rising t) (p : ByteArray) : (inT t p).Pairwise fun x y => lt x y = true := by
  rw [inT, List.pairwise_filterMap]
  refine hr.imp fun {a b} h x hx y hy => ?_
  have h1 := (inP_child hx).1
  have h2 := (inP_child hy).1
  rw [h1, h2, lt_child] at h
  exact h

theorem metP_name {s : List (List Ent)} {p z : ByteArray} {f : Nat} (h : z ∈ metP s p f) : nameB z = true := met_name h

/-- The names that list tells are those of the folded stack. -/
theorem names_fold {s : List (List Ent)} {p : ByteArray} {f : Nat} {l : List ByteArray} (hs : stackOk s = true) (hd : dirE s p = .ok f) (hl : NamesIs s p f l) : l = inT (foldT s) p := by
  obtain ⟨h1, _, h3⟩ := fold_show hs
  obtain ⟨x, hx, _, _⟩ := dirE_ok hd
  obtain ⟨ys, _, hn, _, _⟩ := lookE_ok hx
  obtain ⟨hv, hp⟩ := ValN.of hn
  have key : ∀ z, nameB z = true → showsE s (childP p z) = (findT (foldT s) (childP p z)).isSome := fun z hz => by
    rcases hq : names (childP p z) with _ | ws
    · have e1 : showsE s (childP p z) = false := by
        rw [showsE, lookE, if_pos hs, hq]
      rw [e1]
      rcases hf : findT (foldT s) (childP p z) with _ | e
      · rfl
      · obtain ⟨g1, g2⟩ := findT_some hf
        obtain ⟨vs, v, g3, _⟩ := ent_names ((treeOk_iff.1 h1).2.2 e g1).1
        rw [g2, hq] at g3
        cases g3
    · rw [h3]
      refine shows_show hs hq ?_
      rintro rfl
      have e1 := (ValN.of hq).2
      have h5 := childP_size p z
      rw [← e1] at h5
      have h6 : (pathOf []).size = 1 := rfl
      rw [nameB, nameOk, Bool.and_eq_true, Bool.and_eq_true, decide_eq_true_eq] at hz
      have h7 := hz.1.1
      rw [Array.length_toList] at h7
      have h8 : 1 ≤ z.size := h7
      omega
  refine str_ext hl.1 (inT_sorted (treeOk_rising h1) p) fun z => ?_
  constructor
  · intro hz
    have hzn := metP_name ((hl.2 z).1 hz).1
    rw [inT_mem h1 hn hzn, ← key z hzn]
    exact ((hl.2 z).1 hz).2
  · intro hz
    have hzn : nameB z = true := by
      rw [inT, List.mem_filterMap] at hz
      obtain ⟨x, _, h⟩ := hz
      exact (inP_child h).2
    have h5 := (inT_mem h1 hn hzn).1 hz
    rw [← key z hzn] at h5
    rw [hl.2]
    refine ⟨shows_met hd (nameOk_no hzn) ?_ h5, h5⟩
    rw [nameB, nameOk, Bool.and_eq_true, Bool.and_eq_true, decide_eq_true_eq, Array.length_toList] at hzn
    have h8 : 1 ≤ z.size := hzn.1.1
    omega
end Go.Proofs.YtknfaabhlcdeoaaGreatDoor
