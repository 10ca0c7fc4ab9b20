/- Stacks that are appended to: layers behind layers. -/
import Derived.Test.YtknfaabhlcdeoaaGreatDoorLFind
import Derived.Test.YtknfaabhlcdeoaaGreatDoorDelE
import Derived.Laws.AppendOwnNone
import Derived.Maps.AppendAt
import Derived.Deep.AppendLies
namespace Go.Proofs.YtknfaabhlcdeoaaGreatDoor
open Go Go.RowKit Go.Shelf Go.Proofs

theorem info_lay : (Tryz.prog.info? 34).map (fun i => (i.zero, i.size, i.bytes)) = some (some (.slice none 0 0), 1, 24) := by kernel_rfl

/-- The layers' values. -/
theorem stk_vals {w : World} {v : Value} {s : List (List Ent)} (h : RdK w v s) :
    ∃ (A : Option Addr) (c : Nat) (us : List Value), v = .slice A s.length c ∧ us.length = s.length ∧ (∀ (j : Nat) (h : j < us.length) (h' : j < s.length), RdE w us[j] s[j]) ∧
      (us ≠ [] → ∃ b o, A = some ⟨b, o, none⟩ ∧ ∀ (j : Nat) (h : j < us.length), w.cell? ⟨b, o + j, none⟩ = some us[j]) := by
  by_cases h0 : s = []
  · subst h0
    obtain ⟨A, c, rfl, _⟩ := h
    exact ⟨A, c, [], rfl, rfl, fun j h => by simp at h, fun h => absurd rfl h⟩
  · obtain ⟨b, o, c, rfl, _, _, hc⟩ := RdK.open_ h h0
    have hch : ∀ j, j < s.length → ∃ u : Value, w.cell? ⟨b, o + j, none⟩ = some u ∧ ∀ h : j < s.length, RdE w u s[j] := fun j hj => by
      obtain ⟨u, h1, h2⟩ := hc j hj
      exact ⟨u, h1, fun _ => h2⟩
    obtain ⟨f, hf⟩ : ∃ f : Nat → Value, ∀ j, j < s.length → w.cell? ⟨b, o + j, none⟩ = some (f j) ∧ ∀ h : j < s.length, RdE w (f j) s[j] := by
      refine ⟨fun j => if h : j < s.length then Classical.choose (hch j h) else undef, fun j hj => ?_⟩
      simp only [dif_pos hj]
      exact Classical.choose_spec (hch j hj)
    refine ⟨_, c, (List.range s.length).map f, rfl, by simp, fun j h h' => ?_, fun _ => ⟨b, o, rfl, fun j h => ?_⟩⟩
    · simp only [List.getElem_map, List.getElem_range]
      exact (hf j h').2 h'
    · simp only [List.getElem_map, List.getElem_range]
      exact (hf j (by simpa using h)).1

theorem rdE_one {w : World} {v : Value} {l : List Ent} (h : RdE w v l) : v.oneCell' = true := by
  obtain ⟨A, c, rfl, _⟩ := h
  rfl

theorem rdK_own {w : World} {base e : Nat} {v : Value} {us : List Value} {s : List (List Ent)} (h : w.ownsRow base e 1 v us.length us) (hl : us.length = s.length) (hb : us.length ≤ 1000000) (hr : ∀ (j : Nat) (h : j < us.length) (h' : j < s.length), RdE w us[j] s[j]) : RdK w v s := by
  rw [hl] at h hb
  refine Rd.of_own h (by omega) fun j x hj => ?_
  obtain ⟨hjs, hx⟩ := List.getElem?_eq_some_iff.1 hj
  have hju : j < us.length := by omega
  refine ⟨[us[j]], ⟨us[j], rfl, by rw [← hx]; exact hr j hju hjs⟩, fun i u hi => ?_⟩
  rcases i with _ | i
  · simp at hi
    subst hi
    simp [List.getElem?_eq_getElem hju]
  · simp at hi

theorem run_append_none_any {w : World} (base : Nat) (ty : TypeId) (c : Nat) (v : Value) (n : Nat) (xs : List Value) (hown : w.ownsRow base 34 1 v n xs) :
    (Builtin.append_ #[22, 22] ty #[v, .slice none 0 c]).run Tryz.prog w = .ok v w := by
  obtain ⟨i0, hi, hz0, hz1, hz2⟩ := info_parts info_lay
  rcases hown.2 with ⟨rfl, rfl⟩ | ⟨g, cap, cur, rfl, _, _, hnc, _⟩
  · simp [Builtin.append_, run_underlying Tryz.underlying22, sizeOf, typeInfo, hi, Builtin.lenOf, Builtin.firstCells]
  · simp [Builtin.append_, run_underlying Tryz.underlying22, sizeOf, typeInfo, hi, Builtin.lenOf, Builtin.firstCells, hnc, storeCells]

/-- Layers behind layers. -/
theorem append_stack {w : World} {ops : Array Oper} {rest : List Oper} {o : Oper} {a : Act} {Q : Exit → Act → World → Prop} (hgd : o.guard = none) (s x : Operand)
    (ho : o.op = .call { callee := .builtin .append, args := #[s, x], argTypes := #[22, 22] }) (base : Nat) (hbase : base ≤ w.heap.size) (v : Value) (n : Nat) (xs : List Value) (hs : a.eval s = v) (hown : w.ownsRow base 34 1 v n xs)
    (A : Option Addr) (c : Nat) (us : List Value) (hx : a.eval x = .slice A us.length c) (hA : us ≠ [] → ∃ b o, A = some ⟨b, o, none⟩ ∧ ∀ (j : Nat) (h : j < us.length), w.cell? ⟨b, o + j, none⟩ = some us[j]) (h1 : ∀ u ∈ us, u.oneCell' = true) (hn : n + us.length ≤ 1000000)
    (h : ∀ v' w', w'.ownsRow base 34 1 v' (n + us.length) (xs ++ us) → w.grownBy w' v.ownBlock → wpList Tryz.prog ops Q rest (a.put o.dst v') w') : wpList Tryz.prog ops Q (o :: rest) a w := by
  obtain ⟨i0, hi, hz0, hz1, hz2⟩ := info_parts info_lay
  rcases A with _ | ad
  · have h0 : us = [] := Classical.byContradiction fun e => by
      obtain ⟨b, o, e2, _⟩ := hA e
      cases e2
    subst h0
    refine wpList_plain hgd fun K hK => ?_
    have hrun := run_append_none_any (w := w) base o.type c v n xs hown
    unfold Oper.wp
    simp only [List.length_nil] at hx
    simp [execOp, ho, resolve, invoke, builtin, hs, hx, hrun, Result.andThen]
    exact hK _ _ (h v w (by simpa using hown) ⟨rfl, rfl, rfl, Nat.le_refl _, fun _ _ _ => rfl⟩)
  · exact wpList_append_own w hgd _ _ 22 ho base 34 i0 (.slice none 0 0) 1 24 Tryz.underlying22 hi hz0 hz1 hz2 rfl (by decide) v n xs hs hown ad us.length c us hx (by omega) (fun j u hj => by
      have hjl := (List.getElem?_eq_some_iff.1 hj).1
      obtain ⟨b, o, e, hc⟩ := hA (List.ne_nil_of_length_pos (by omega))
      cases e
      rw [Addr.add_lit]
      rw [hc j hjl, ← hj, List.getElem?_eq_getElem hjl]) h1 (by unfold maxLen; omega) (by omega) hbase fun v' w' h2 h3 _ => h v' w' h2 h3

/-- A layer of one entry, and its slice, as the code lays them. -/
theorem lay_blocks (W : World) (x : Ent) :
    Blk ((W.alloc (.cells #[.string x.path, .int .i64 x.kind, .string x.data] 33)).alloc (.cells #[.slice (some ⟨W.heap.size, 0, none⟩) 1 1] 34)) W.heap.size 33 #[.string x.path, .int .i64 x.kind, .string x.data] ∧
      Blk ((W.alloc (.cells #[.string x.path, .int .i64 x.kind, .string x.data] 33)).alloc (.cells #[.slice (some ⟨W.heap.size, 0, none⟩) 1 1] 34)) (W.heap.size + 1) 34 #[.slice (some ⟨W.heap.size, 0, none⟩) 1 1] := by
  refine ⟨(Blk.new W _ _).ext ((Ext.refl _).alloc _), ?_⟩
  have := Blk.new (W.alloc (.cells #[.string x.path, .int .i64 x.kind, .string x.data] 33)) 34 #[.slice (some ⟨W.heap.size, 0, none⟩) 1 1]
  rw [World.size_alloc] at this
  exact this

/-- A stack with one layer more. -/
theorem stk_snoc {w W : World} {base e n : Nat} {v lv : Value} {us : List Value} {s : List (List Ent)} {l : List Ent} (hown : W.ownsRow base e 1 v (n + 1) (us ++ [lv])) (hn : n = s.length) (hul : us.length = s.length) (hb : n ≤ 100000)
    (hur : ∀ (j : Nat) (h : j < us.length) (h' : j < s.length), RdE w us[j] s[j]) (hE : Ext w W) (hl : RdE W lv l) : RdK W v (s ++ [l]) := by
  refine rdK_own (us := us ++ [lv]) (by rw [List.length_append, List.length_singleton, hul, ← hn]; exact hown) (by simp [hul]) (by rw [List.length_append, List.length_singleton]; omega) fun j h h' => ?_
  rw [List.length_append, List.length_singleton] at h
  by_cases hj : j < us.length
  · rw [List.getElem_append_left hj, List.getElem_append_left (by omega)]
    exact (hur j hj (by omega)).ext hE
  · have : j = us.length := by omega
    subst this
    rw [List.getElem_append_right (by omega), List.getElem_append_right (by omega)]
    simpa using hl
end Go.Proofs.YtknfaabhlcdeoaaGreatDoor
