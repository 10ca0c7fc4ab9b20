/- slices.Clone at []blob.Ref. -/
import Derived.Test.YtknfaabhlcdeoaaGreatDoorBut
import Derived.Lib.SliceRun
namespace Go.Proofs.YtknfaabhlcdeoaaGreatDoor
open Go Go.RowKit Go.Proofs

/-- Where a text lies. -/
structure Ref where
  at_ : Int
  size : Int
  sum : Int
def Ref.cells (x : Ref) : List Value := [.int .i64 x.at_, .int .i64 x.size, .int .u32 x.sum]
def RR (_ : World) (x : Ref) (cs : List Value) : Prop := cs = x.cells
abbrev RdR := Rd RR 3

theorem refs_cells (xs : List Ref) (j : Nat) (x : Ref) (hj : xs[j]? = some x) : ∀ (i : Nat) u, x.cells[i]? = some u → (xs.flatMap Ref.cells)[j * 3 + i]? = some u := by
  induction xs generalizing j with
  | nil => simp at hj
  | cons y r ih =>
    intro i u hi
    have hi3 : i < 3 := (List.getElem?_eq_some_iff.1 hi).1
    rcases j with _ | j
    · cases (Option.some.inj hj)
      rw [List.flatMap_cons, List.getElem?_append_left (by simp [Ref.cells]; omega), Nat.zero_mul, Nat.zero_add]
      exact hi
    · rw [List.flatMap_cons, List.getElem?_append_right (by simp [Ref.cells]; omega)]
      have e : (j + 1) * 3 + i - y.cells.length = j * 3 + i := by simp [Ref.cells]; omega
      rw [e]
      exact ih j hj i u hi

theorem refs_at (xs : List Ref) (k : Nat) (u : Value) (hk : (xs.flatMap Ref.cells)[k]? = some u) : ∃ j x i, xs[j]? = some x ∧ x.cells[i]? = some u ∧ k = j * 3 + i := by
  induction xs generalizing k with
  | nil => simp at hk
  | cons y r ih =>
    rw [List.flatMap_cons] at hk
    by_cases h : k < 3
    · rw [List.getElem?_append_left (by simp [Ref.cells]; omega)] at hk
      exact ⟨0, y, k, rfl, hk, by omega⟩
    · rw [List.getElem?_append_right (by simp [Ref.cells]; omega)] at hk
      obtain ⟨j, x, i, h1, h2, h3⟩ := ih _ hk
      refine ⟨j + 1, x, i, h1, h2, ?_⟩
      simp [Ref.cells] at h3
      omega
theorem refs_length (xs : List Ref) : (xs.flatMap Ref.cells).length = xs.length * 3 := by
  induction xs with
  | nil => rfl
  | cons x r ih => rw [List.flatMap_cons, List.length_append, ih, List.length_cons]; simp [Ref.cells]; omega
theorem refs_one (xs : List Ref) : ∀ u ∈ xs.flatMap Ref.cells, u.oneCell' = true := by
  intro u hu
  obtain ⟨x, _, hx⟩ := List.mem_flatMap.1 hu
  simp [Ref.cells] at hx
  rcases hx with rfl | rfl | rfl <;> rfl

theorem info_ref : (Tryz.prog.info? 47).map (fun i => (i.zero, i.size, i.bytes)) = some (some (.agg #[.int .i64 0, .int .i64 0, .int .u32 0]), 3, 24) := by kernel_rfl

theorem own_none {w : World} {base e sz n : Nat} {A : Option Addr} {m c : Nat} {xs : List Value} (h : w.ownsRow base e sz (.slice A m c) n xs) (hA : A = none) : c = 0 := by
  rcases h.2 with ⟨e, _⟩ | ⟨g, cap, cur, e, _⟩
  · cases e; rfl
  · cases e; cases hA
theorem off_new {w : World} {base e sz n : Nat} {v : Value} {xs : List Value} (h : w.ownsRow base e sz v n xs) : Off (fun k => w.heap.size ≤ k) v := by
  intro b o n' c hv hb
  rcases h.2 with ⟨rfl, h0⟩ | ⟨g, cap, cur, rfl, hg, hh, r⟩
  · cases hv
  · cases hv
    have := (Array.getElem?_eq_some_iff.1 hh).1
    omega
/-- What Clone answers. -/
def CloneAns (xs : List Ref) (w : World) (e : Ending) (w' : World) : Prop := ∃ A c, e = .returned (.slice A xs.length c) ∧ RdR w' (.slice A xs.length c) xs ∧ Ext w w' ∧ (A = none → c = 0) ∧ Off (fun k => w'.heap.size ≤ k) (.slice A xs.length c) ∧ ∀ S : Nat → Prop, (∀ k, S k → k < w.heap.size) → Off S (.slice A xs.length c)

set_option maxHeartbeats 4000000 in
theorem Clone_any (v : Value) (xs : List Ref) (w : World) (hv : RdR w v xs) (hl : xs.length ≤ 5000000000000) :
    Calls Tryz.prog 65 #[v] w (CloneAns xs w) := by
  have q := fun (w : World) (a : Option Addr) (n c n' c' : Nat) => Lib.run_eql_slice_nil (P := Tryz.prog) w _ _ a n c n' c' Tryz.underlying44
  obtain ⟨A, c, rfl, h1, h2, h3, hne⟩ := id hv
  rcases A with _ | ad
  · have h0 : xs = [] := Classical.byContradiction fun e => by obtain ⟨b, o, h, _⟩ := hne e; cases h
    subst h0
    clear hv hne
    go_enter Tryz.func65, Tryz.ntmps65
    go_wp2
    go_ret
    exact ⟨none, 0, rfl, Rd.nil _ _ _, Ext.refl _, fun _ => rfl, Off.none _ _, fun S _ => Off.none _ _⟩
  · obtain ⟨i0, hi, hz0, hz1, hz2⟩ := info_parts info_ref
    have hnews : ∀ (j : Nat) u, (xs.flatMap Ref.cells)[j]? = some u → w.cell? (ad.add j) = some u := by
      intro j u hj
      obtain ⟨j', x, i, hx, hxi, rfl⟩ := refs_at xs j u hj
      obtain ⟨b, o, e, hc⟩ := hne (by rintro rfl; simp at hx)
      cases e
      obtain ⟨cs, rfl, hu⟩ := hc j' x hx
      have := hu i u hxi
      rw [Addr.add_lit, ← Nat.add_assoc]
      exact this
    have Hnews := Lib.hid hnews
    obtain ⟨n, hn⟩ : ∃ n, n = xs.length := ⟨_, rfl⟩
    have Hn := Lib.hid hn
    have hlen := refs_length xs
    rw [← hn] at h1 h3 hl hlen ⊢
    clear hv hne hnews hn
    go_enter Tryz.func65, Tryz.ntmps65
    go_wp2_with (at_builtin; refine wpList_append_own _ rfl _ _ 44 rfl w.heap.size 47 i0 (.agg #[.int .i64 0, .int .i64 0, .int .u32 0]) 3 24 Tryz.underlying44 hi hz0 hz1 hz2 rfl (by decide) _ _ _ rfl (World.ownsRow_made w #[] 0 (Nat.le_refl _) (Nat.zero_le _) rfl) ad n c (xs.flatMap Ref.cells) rfl ?qc1 ?qc2 ?qc3 ?qc4 ?qc5 ?qc6 ?_)
    case qc1 => exact hlen
    case qc2 =>
      intro j u hj
      exact Lib.cell?_alloc_some _ (Hnews.out j u hj)
    case qc3 => exact refs_one xs
    case qc4 => unfold maxLen; omega
    case qc5 => omega
    case qc6 => simp
    intro v' w1 hown hgrow hnil
    have hown' : w1.ownsRow w.heap.size 47 3 v' n (xs.flatMap Ref.cells) := by simpa using hown
    obtain ⟨A', c', rfl⟩ := own_form hown'
    go_wp2
    go_ret
    refine ⟨A', c', by rw [← Hn.out]; rfl, ?_, ?_, own_none hown', by rw [← Hn.out]; exact off_new hown', fun S hS => ?_⟩
    · rw [← Hn.out]
      refine Rd.of_own (by rw [← Hn.out]; exact hown') (by rw [← Hn.out]; omega) fun j x hx => ⟨x.cells, rfl, refs_cells xs j x hx⟩
    · exact Ext.grown (by exact (by repeat (first | exact Ext.refl _ | assumption | refine Ext.alloc ?_ _ | refine Ext.drew ?_ | refine Ext.drewN ?_ _ | refine Ext.setCell ?_ (by first | omega | (simp; done) | (simp; omega)) _ | refine Ext.trans ?_ (by assumption)))) hgrow (by intro k hk; simp [Value.ownBlock] at hk; omega)
    · rw [← Hn.out]; exact Off.own hown' hS
end Go.Proofs.YtknfaabhlcdeoaaGreatDoor
