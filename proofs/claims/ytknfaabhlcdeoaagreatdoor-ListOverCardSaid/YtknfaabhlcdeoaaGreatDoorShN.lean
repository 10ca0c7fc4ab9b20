/- What lies under a directory of a stack, gathered name by name, in plain Lean; no program. -/
import Derived.Test.YtknfaabhlcdeoaaGreatDoorShF
namespace Go.Proofs.YtknfaabhlcdeoaaGreatDoor
open Go Go.RowKit

/-- All that a stack shows under a directory, each once. -/
def AllUnder (s : List (List Ent)) (xs : List ByteArray) (ys : List Ent) : Prop :=
  (ys.map (·.path)).Nodup ∧ ∀ e, e ∈ ys ↔ ∃ rest, rest ≠ [] ∧ ValN (xs ++ rest) ∧ showL s (pathOf (xs ++ rest)) = some e
/-- All that a stack shows under some names of a directory, each once. -/
def SomeUnder (s : List (List Ent)) (xs : List ByteArray) (l : List ByteArray) (ys : List Ent) : Prop :=
  (ys.map (·.path)).Nodup ∧ ∀ e, e ∈ ys ↔ ∃ z rest, z ∈ l ∧ ValN (xs ++ z :: rest) ∧ showL s (pathOf (xs ++ z :: rest)) = some e

theorem some_nil (s : List (List Ent)) (xs : List ByteArray) : SomeUnder s xs [] [] := ⟨by simp, fun e => by simp⟩

variable {s : List (List Ent)} {xs : List ByteArray}

theorem show_path (hs : stackOk s = true) {p : ByteArray} {e : Ent} (h : showL s p = some e) : e.path = p ∧ entOk e = true ∧ e.kind ≤ 2 ∧ e ∈ foldT s := by
  obtain ⟨h1, _, h3⟩ := fold_show hs
  rw [← h3] at h
  obtain ⟨h4, h5⟩ := findT_some h
  exact ⟨h5, ((treeOk_iff.1 h1).2.2 e h4).1, ((treeOk_iff.1 h1).2.2 e h4).2.1, h4⟩

/-- No more than the folded stack. -/
theorem some_len (hs : stackOk s = true) {l : List ByteArray} {ys : List Ent} (h : SomeUnder s xs l ys) : ys.length ≤ 576 ∧ ∀ e ∈ ys, entOk e = true := by
  obtain ⟨h1, h2, h3⟩ := fold_show hs
  have hm : ∀ e ∈ ys, e ∈ foldT s ∧ entOk e = true := fun e he => by
    obtain ⟨z, rest, _, _, h4⟩ := (h.2 e).1 he
    obtain ⟨_, g2, _, g4⟩ := show_path hs h4
    exact ⟨g4, g2⟩
  refine ⟨?_, fun e he => (hm e he).2⟩
  have hn := nodup_sub (ys.map (·.path)) ((foldT s).map (·.path)) h.1 fun p hp => by
    obtain ⟨e, he, rfl⟩ := List.mem_map.1 hp
    exact List.mem_map.2 ⟨e, (hm e he).1, rfl⟩
  rw [List.length_map, List.length_map] at hn
  omega

/-- A directory's names are those that it has shown. -/
theorem all_of (hs : stackOk s = true) {f : Nat} {l : List ByteArray} {ys : List Ent} (hv : ValN xs) (hd : dirE s (pathOf xs) = .ok f) (hl : NamesIs s (pathOf xs) f l) (h : SomeUnder s xs l ys) : AllUnder s xs ys := by
  obtain ⟨h1, _, h3⟩ := fold_show hs
  obtain ⟨_, hlay⟩ := stackOk_layers hs
  have hT := show_tree hlay
  refine ⟨h.1, fun e => ?_⟩
  rw [h.2]
  constructor
  · rintro ⟨z, rest, _, h4, h5⟩
    exact ⟨z :: rest, by simp, h4, h5⟩
  · rintro ⟨rest, h0, h4, h5⟩
    rcases rest with _ | ⟨z, rest⟩
    · exact absurd rfl h0
    · refine ⟨z, rest, ?_, h4, h5⟩
      have hup : ∀ (r : List ByteArray) (e : Ent), ValN (xs ++ z :: r) → showL s (pathOf (xs ++ z :: r)) = some e → ∃ d, showL s (pathOf (xs ++ [z])) = some d := by
        intro r
        induction hlen : r.length generalizing r with
        | zero =>
          intro e _ h5
          rw [List.eq_nil_of_length_eq_zero hlen] at h5
          exact ⟨e, h5⟩
        | succ n ih =>
          intro e h4 h5
          have hne : r ≠ [] := List.ne_nil_of_length_pos (by omega)
          rw [← List.dropLast_concat_getLast hne, ← List.cons_append, ← List.append_assoc] at h4 h5
          obtain ⟨d, hd, _⟩ := hT _ _ _ (by simp) h4 h5
          exact ih r.dropLast (by rw [List.length_dropLast]; omega) d h4.left hd
      obtain ⟨d, hd2⟩ := hup rest e h4 h5
      have hv1 : ValN (xs ++ [z]) := by
        have := h4.take (xs.length + 1)
        rwa [List.take_append, List.take_of_length_le (by omega), show xs.length + 1 - xs.length = 1 by omega, List.take_succ_cons, List.take_zero] at this
      have hzn : nameB z = true := by
        have := hv1.1
        rw [List.all_append, Bool.and_eq_true] at this
        simpa using this.2
      rw [names_fold hs hd hl, inT_mem h1 hv.names hzn, h3, child_path hv.1 hv.2, hd2]
      rfl

/-- One name more: what lies there, and what lies under it. -/
theorem some_snoc (hs : stackOk s = true) {l : List ByteArray} {z : ByteArray} {ys sub : List Ent} {e : Ent} (hz : z ∉ l) (hv : ValN (xs ++ [z])) (h : SomeUnder s xs l ys) (he : showL s (pathOf (xs ++ [z])) = some e)
    (hsub : (e.kind = 2 ∧ AllUnder s (xs ++ [z]) sub) ∨ (e.kind ≠ 2 ∧ sub = [])) : SomeUnder s xs (l ++ [z]) (ys ++ (e :: sub)) := by
  obtain ⟨_, hlay⟩ := stackOk_layers hs
  have hT := show_tree hlay
  obtain ⟨hep, _, _, _⟩ := show_path hs he
  -- what lies under the name
  have hall : AllUnder s (xs ++ [z]) sub := by
    rcases hsub with ⟨_, h1⟩ | ⟨h1, rfl⟩
    · exact h1
    · refine ⟨by simp, fun u => ⟨fun h => by simp at h, ?_⟩⟩
      rintro ⟨rest, h0, h2, h3⟩
      exfalso
      have : ∀ n (rest : List ByteArray) (u : Ent), rest.length = n + 1 → ValN ((xs ++ [z]) ++ rest) → showL s (pathOf ((xs ++ [z]) ++ rest)) = some u → e.kind = 2 := by
        intro n
        induction n with
        | zero =>
          intro rest u hl hv2 hu
          obtain ⟨y, rfl⟩ := List.length_eq_one_iff.1 hl
          obtain ⟨d, hd, hk⟩ := hT _ _ _ (by simp) hv2 hu
          rw [he] at hd
          cases hd
          exact hk
        | succ n ih =>
          intro rest u hl hv2 hu
          have hne : rest ≠ [] := List.ne_nil_of_length_pos (by omega)
          rw [← List.dropLast_concat_getLast hne, ← List.append_assoc] at hv2 hu
          obtain ⟨d, hd, _⟩ := hT _ _ _ (by simp) hv2 hu
          exact ih rest.dropLast d (by rw [List.length_dropLast]; omega) hv2.left hd
      have hl := List.length_pos_iff.2 h0
      exact h1 (this (rest.length - 1) rest u (by omega) h2 h3)
  have hblk : ∀ u, u ∈ e :: sub ↔ ∃ rest, ValN (xs ++ z :: rest) ∧ showL s (pathOf (xs ++ z :: rest)) = some u := fun u => by
    rw [List.mem_cons, hall.2]
    constructor
    · rintro (rfl | ⟨rest, _, h1, h2⟩)
      · exact ⟨[], hv, he⟩
      · exact ⟨rest, by simpa using h1, by simpa using h2⟩
    · rintro ⟨rest, h1, h2⟩
      by_cases h0 : rest = []
      · subst h0
        left
        rw [he] at h2
        exact (Option.some.inj h2).symm
      · exact .inr ⟨rest, h0, by simpa using h1, by simpa using h2⟩
  have hpath : ∀ u, (u ∈ e :: sub → ∃ rest, ValN (xs ++ z :: rest) ∧ u.path = pathOf (xs ++ z :: rest)) := fun u hu => by
    obtain ⟨rest, h1, h2⟩ := (hblk u).1 hu
    exact ⟨rest, h1, (show_path hs h2).1⟩
  refine ⟨?_, fun u => ?_⟩
  · rw [List.map_append, List.nodup_append]
    refine ⟨h.1, ?_, ?_⟩
    · rw [List.map_cons, List.nodup_cons]
      refine ⟨fun hm => ?_, hall.1⟩
      obtain ⟨u, hu, hp⟩ := List.mem_map.1 hm
      obtain ⟨rest, h0, h1, h2⟩ := (hall.2 u).1 hu
      have := (show_path hs h2).1
      rw [hp, hep] at this
      have h3 := congrArg List.length (hv.inj h1 this)
      simp only [List.length_append, List.length_singleton] at h3
      have := List.length_pos_iff.2 h0
      omega
    · intro p hp q hq e2
      subst e2
      obtain ⟨u, hu, rfl⟩ := List.mem_map.1 hp
      obtain ⟨v, hv2, hpv⟩ := List.mem_map.1 hq
      obtain ⟨y, rest, hy, h1, h2⟩ := (h.2 u).1 hu
      obtain ⟨rest2, h3, h4⟩ := hpath v hv2
      rw [hpv, (show_path hs h2).1] at h4
      have h5 := h1.inj h3 h4
      have h6 := List.append_cancel_left h5
      cases h6
      exact hz hy
  · rw [List.mem_append, h.2, hblk]
    constructor
    · rintro (⟨y, rest, h1, h2, h3⟩ | ⟨rest, h1, h2⟩)
      · exact ⟨y, rest, by simp [h1], h2, h3⟩
      · exact ⟨z, rest, by simp, h1, h2⟩
    · rintro ⟨y, rest, h1, h2, h3⟩
      rcases List.mem_append.1 h1 with h1 | h1
      · exact .inl ⟨y, rest, h1, h2, h3⟩
      · rw [List.mem_singleton] at h1
        subst h1
        exact .inr ⟨rest, h2, h3⟩

/-- All that a stack shows, sorted, is the folded stack. -/
theorem walk_fold (hs : stackOk s = true) {ys zs : List Ent} (h : AllUnder s [] ys) (hp : zs.Perm ys) (hz : zs.Pairwise fun a b => lt b.path a.path = false) : zs = foldT s := by
  obtain ⟨h1, _, h3⟩ := fold_show hs
  have hnd : (zs.map (·.path)).Nodup := (hp.map _).nodup_iff.2 h.1
  have hr : Rising zs := by
    have h4 : zs.Pairwise fun a b => a.path ≠ b.path := List.pairwise_map.1 hnd
    refine (hz.and h4).imp fun {a b} hab => ?_
    rcases h5 : lt a.path b.path with _ | _
    · exact absurd (lt_total h5 hab.1) hab.2
    · rfl
  refine rising_ext hr (treeOk_rising h1) fun e => ?_
  rw [hp.mem_iff, h.2]
  constructor
  · rintro ⟨rest, _, _, h5⟩
    exact (show_path hs h5).2.2.2
  · intro he
    obtain ⟨ws, w, h5, _⟩ := ent_names ((treeOk_iff.1 h1).2.2 e he).1
    obtain ⟨hv, hep⟩ := ValN.of h5
    refine ⟨ws ++ [w], by simp, by simpa using hv, ?_⟩
    rw [List.nil_append, hep, ← h3]
    exact findT_of (treeOk_rising h1) he

/-- A tree, as a stack of its own, folds to itself. -/
theorem fold_self {t : List Ent} (ht : treeOk t = true) (hl : t.length ≤ 64) : layerOk t = true ∧ foldT [t] = t ∧ foldT [t, t] = t := by
  obtain ⟨_, hr, hall⟩ := treeOk_iff.1 ht
  have ho : layerOk t = true := layerOk_iff.2 ⟨hl, hr, fun x hx => ⟨(hall x hx).1, (hall x hx).2.2.elim .inl fun ⟨y, hy, h1, h2⟩ => .inr ⟨y, hy, h1, by simp [holds, h2]⟩⟩⟩
  have hres : ∀ e ∈ t, resE e = some e := fun e he => by
    have h1 := (hall e he).1
    have h2 := (hall e he).2.1
    have h3 := entOk_kind h1
    by_cases h4 : e.kind = 1
    · rw [resE, if_neg (by omega), if_pos h4]
    · have h5 : e.kind = 2 := by omega
      rw [(resE_dir h1 (by omega) h4).1]
      cases e
      simp at h5 ⊢
      exact h5.symm
  have hstep : ∀ u : List Ent, (∀ p, findT u p = none ∨ u = t) → Rising u → overT u t = t := fun u hu hru => by
    have h1 := over_find hru ho
    refine rising_ext (h1 ⟨#[]⟩).1 hr fun e => ?_
    have h2 : ∀ p, findT (overT u t) p = findT t p := fun p => by
      rw [(h1 p).2]
      rcases hf : findT t p with _ | x
      · rw [stepL_none hf]
        rcases hu p with h3 | h3
        · rw [h3]; split <;> rfl
        · rw [h3, hf]; split <;> rfl
      · rw [stepL_some hf, hres x (findT_some hf).1]
    constructor
    · intro he
      have h3 := findT_of (h1 ⟨#[]⟩).1 he
      rw [h2] at h3
      exact (findT_some h3).1
    · intro he
      have h3 := findT_of hr he
      rw [← h2] at h3
      exact (findT_some h3).1
  have h1 : overT [] t = t := hstep [] (fun p => .inl rfl) List.Pairwise.nil
  refine ⟨ho, h1, ?_⟩
  show overT (overT [] t) t = t
  rw [h1]
  exact hstep t (fun _ => .inr rfl) hr
end Go.Proofs.YtknfaabhlcdeoaaGreatDoor
