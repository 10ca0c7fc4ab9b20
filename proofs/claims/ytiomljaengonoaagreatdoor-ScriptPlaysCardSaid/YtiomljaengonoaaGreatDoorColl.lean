/- slices.Collect(strings.Lines(s)): a text's lines. -/
import Derived.Test.YtiomljaengonoaaGreatDoorLines
namespace Go.Proofs.YtiomljaengonoaaGreatDoor
open Go Go.RowKit Go.Shelf Go.Proofs
attribute [local go_sem] Oper.semAt_some

theorem info_strC : (Tryz.prog.info? 9).map (fun i => (i.zero, i.size, i.bytes)) = some (some (.string ⟨#[]⟩), 1, 16) := by kernel_rfl
theorem others_but {W W' : World} (he : Ext W W') : KeepsOthers W W' := ⟨he.size, fun _ _ hk _ => he.block hk⟩

def CollPost (s : ByteArray) (c : Nat) (w : World) (e : Ending) (w' : World) : Prop := ∃ v, e = .returned v ∧ RdS w' v (linesB s) ∧ But (fun k => k = c) w w'

set_option maxRecDepth 100000 in
set_option maxHeartbeats 4000000 in
theorem appendSeq_lines (s : ByteArray) (c : Nat) (w : World) (hs : s.size ≤ 1000000) (h0 : w.heap[c]? = some (.cells #[.string s] 9 (0, 0))) :
    Calls Tryz.prog 74 #[.slice none 0 0, .func (.func 75) #[] #[.pointer (some ⟨c, 0, none⟩)]] w (CollPost s c w) := by
  have hc := (Array.getElem?_eq_some_iff.1 h0).1
  refine (callsIn_wide (n := 3)).1 ?_
  refine callsIn_of_wp_marks Tryz.func74 rfl trivial ?_ rfl
  simp only [Tryz.ntmps74, List.size_toArray, List.length_cons, List.length_nil, Nat.reduceAdd, Nat.reduceSub, Array.replicate_succ, Array.replicate_zero, List.push_toArray, List.append_toArray, List.nil_append, List.cons_append]
  gi_wp2
  obtain ⟨N, hN⟩ : ∃ N, w.heap.size = N := ⟨_, rfl⟩
  rw [hN]
  have b0 := Boxed.new w 74 (.slice none 0 0)
  have hE0 : Ext w (w.alloc (.cells #[.slice none 0 0] 74)) := (by repeat (first | exact Ext.refl _ | assumption | refine Ext.alloc ?_ _ | refine Ext.drew ?_ | refine Ext.drewN ?_ _ | refine Ext.setCell ?_ (by first | omega | (simp; done) | (simp; omega)) _ | refine Ext.trans ?_ (by assumption)))
  have hsz : (w.alloc (.cells #[.slice none 0 0] 74)).heap.size = N + 1 := by simp [hN]
  rw [hN] at b0
  generalize w.alloc (.cells #[.slice none 0 0] 74) = W0 at b0 hE0 hsz ⊢
  have h1 := hE0.block h0
  have hcN : c < N := by omega
  refine wpIn_rangeFunc_ownC rfl (by omega) (gf := 75) (lb := #[.pointer (some ⟨c, 0, none⟩)]) rfl trivial (enters_of Tryz.func75 (by kernel_rfl) rfl)
    (lines_stops 2 (by omega) c s (by omega) W0 h1) (by omega) (fun h k => k.trans h)
    (fun W l o o' hl ho _ _ => World.putObj_heap_other (by omega)) (Below.refl _ _) (fun _ => rfl)
    (fun pre W => (∃ v, Boxed W N 74 v ∧ W.ownsRow (N + 1) 9 1 v pre.length (pre.map Value.string)) ∧ But (fun k => k = c) w W ∧ N + 1 ≤ W.heap.size)
    (fun _ _ _ => False)
    ?hIc ?hI ?hIx ?h0
    (fun x => { tmps := #[.slice none 0 0, .func (.func 75) #[] #[.pointer (some ⟨c, 0, none⟩)], .pointer (some ⟨N, 0, none⟩), undef, .slice none 0 0, .string x, .func (.func 75) #[] #[.pointer (some ⟨c, 0, none⟩)], .string x, undef, undef, undef, undef, undef], defers := [] }) ?assign ?body ?done ?stop
  case hIc =>
    rintro pre W u ⟨⟨v, hv, hrow⟩, hB, hlt⟩
    exact ⟨⟨v, (Below.heap_setCell W ⟨c, 0, none⟩ u _ (by simp; omega)).trans hv, ownsRow_setCell_below hrow (by show c < N + 1; omega) u⟩, hB.setCell (p := ⟨c, 0, none⟩) rfl u, by simpa [World.setCell] using hlt⟩
  case hI =>
    refine OwnFrom.and (Own.from (fun pre X Y row ⟨v, hv, hr⟩ hg hrow => ?_) _) (fun pre X Y row ⟨hB, hlt⟩ hg hrow => ⟨hB.grown hg (fun k hk => .inr (by have := (hrow k hk).1; omega)), Nat.le_trans hlt hg.size⟩)
    obtain ⟨v', h1, h2, _⟩ := holdsRow_own (N + 1) N 74 9 1 (fun _ : Unit => pre.length) (fun _ => pre.map Value.string) (fun _ _ => True) () X Y row ⟨v, hv, hr, trivial⟩ hg hrow
    exact ⟨v', h1, h2⟩
  case hIx =>
    intro c' pre X Y row h hg hrow
    exact h.elim
  case h0 => exact ⟨⟨_, b0, World.ownsRow_nil _ _ _ _⟩, (But.refl _ w).ext hE0, by omega⟩
  case assign =>
    intro l x W K hK
    gi_wp2
    exact hK
  case body =>
    rintro l pre x W ⟨⟨v, hv, hrow⟩, hB, hlt⟩ hpx
    have hlen : pre.length + 1 ≤ 1000000 := by
      have h2 := hpx.length_le
      have h3 := lines_len s.data.toList
      rw [List.length_append, List.length_singleton, linesB, List.length_map] at h2
      have h4 : s.data.toList.length = s.size := Array.length_toList
      omega
    obtain ⟨A, cp, rfl⟩ := own_form hrow
    have hvc := hv.cell
    obtain ⟨i0, hi, hz0, hz1, hz2⟩ := info_parts info_strC
    clear hpx
    gi_wp2_with (gi_at_builtin; go_must (refine wpListIn_append_own _ rfl _ _ 74 rfl (N + 1) 9 i0 (.string ⟨#[]⟩) 1 16 Tryz.underlying74 hi hz0 hz1 hz2 rfl (by decide) _ _ _ rfl (hrow.alloc _) ⟨W.heap.size, 0, none⟩ 1 1 [.string x] rfl rfl (cell_one_new _ _ _) (by simp [Value.oneCell']) (by unfold maxLen; omega) (by omega) (by simp; omega) ?_); intro v' w2 hown' hgrow _; obtain ⟨g', cap', rfl⟩ := ownsRow_succ hown'; obtain ⟨hv1', hv2, _, hk2, hb2⟩ := hv.appended (n₀ := N) (by decide) (own_lower hrow (by omega)) (by omega) (by omega) (own_lower hown' (by omega)) hgrow; have hr2 := hown'.kept (grownBy_setCell' w2 N (.slice (some ⟨g', 0, none⟩) (pre.length + 1) cap')) (.inr (hv1'.not_row (by decide) hown').symm); have hc1 := hv1'.cell; have hf1 := hv1'.frozen)
    have hkeep : ∀ k, k < N → (w2.setCell ⟨N, 0, none⟩ (.slice (some ⟨g', 0, none⟩) (pre.length + 1) cap')).heap[k]? = W.heap[k]? := fun k hk => by
      rw [Below.heap_setCell _ _ _ _ (by simp; omega), hgrow.block k (by simp; omega) (fun e => by have := (hrow.lt k e.symm).1; omega), Below.heap_alloc _ _ _ (by omega)]
    refine ⟨hk2, hkeep c hcN, ⟨⟨_, hv2, by simpa using hr2⟩, ?_, ?_⟩⟩
    · exact (((hB.alloc _).grown hgrow (fun k hk => .inr (by have := (hrow.lt k hk).1; omega)))).setNew (p := ⟨N, 0, none⟩) (by simp; omega) _
    · have := Below.size hb2; omega
  case done =>
    rintro D xs W hD rfl ⟨⟨v, hv, hrow⟩, hB, hlt⟩ hK
    have hvc := hv.cell
    gi_wp2_with fail
    refine ⟨by simp, .inl ⟨_, _, rfl, run_takeDeferred hK, ?_⟩⟩
    refine ⟨v, by simp [results, Tryz.f74, go_sem], ?_⟩
    have h5 : (linesB s).length ≤ 140737488355328 := by
      have h3 := lines_len s.data.toList
      have h4 : s.data.toList.length = s.size := Array.length_toList
      rw [linesB, List.length_map]
      omega
    exact ⟨_, rfl, RdS.of_own (ownsRow_putObj hrow _ hK rfl) h5, hB.grown (grownBy_putObj' W D (.deferred none)) (fun k e => by cases e; exact .inr (by omega))⟩
  case stop =>
    rintro D c' pre W hD hpre h hK
    exact h.elim

theorem collect_lines (s : ByteArray) (c : Nat) (w : World) (hs : s.size ≤ 1000000) (h0 : w.heap[c]? = some (.cells #[.string s] 9 (0, 0))) :
    Calls Tryz.prog 43 #[.func (.func 75) #[] #[.pointer (some ⟨c, 0, none⟩)]] w (CollPost s c w) := by
  have HA := appendSeq_lines s c w hs h0
  clear h0
  go_enter Tryz.func43, Tryz.ntmps43
  go_wp2_with (go_at_call 74; refine HA.mono ?_; rintro e W1 ⟨v, rfl, hr, hB⟩)
  go_ret
  exact ⟨v, rfl, hr, hB⟩
end Go.Proofs.YtiomljaengonoaaGreatDoor
