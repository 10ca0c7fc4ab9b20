/- path.Split answers a path's names, or the error 2; for every text of at most 2^47 bytes. -/
import Derived.Test.YtknfaabhlcdeoaaGreatDoorSeq
import Derived.Test.YtknfaabhlcdeoaaGreatDoorName
import Derived.Test.YtknfaabhlcdeoaaGreatDoorRd
import Derived.Test.YtknfaabhlcdeoaaGreatDoorErrCode
import Derived.RangeFuncBox
import Derived.Maps.AppendAt
namespace Go.Proofs.YtknfaabhlcdeoaaGreatDoor
open Go Go.RowKit Go.Shelf Go.Proofs
attribute [local go_sem] Oper.semAt_some

theorem Tryz.info9s : (Tryz.prog.info? 9).map (fun i => (i.zero, i.size, i.bytes)) = some (some (.string ⟨#[]⟩), 1, 16) := by kernel_rfl

theorem boxed_ext {W W' : World} {b : Nat} {t : TypeId} {v : Value} (h : Boxed W b t v) (he : Ext W W') : Boxed W' b t v := he.block h
theorem others_ext {W W' : World} (he : Ext W W') : KeepsOthers W W' := ⟨he.size, fun _ _ hk _ => he.block hk⟩
theorem kps_ext {c : Nat} {W W' : World} (he : Ext W W') (hc : c + 1 + 1 < W.heap.size) : KpS c W W' := ⟨Below.block he _ (by omega), Below.block he _ (by omega), Below.block he _ hc⟩

theorem errN_box {W : World} {n : Nat} {v : Value} {c : Int} {b : Nat} {t : TypeId} {u : Value} (h : ErrN W n v c) (hb : Boxed W b t u) (x : Value) : ErrN (W.setCell ⟨b, 0, none⟩ x) n v c :=
  ErrN_old h fun b' y hy => by
    have hne : b' ≠ b := fun e => by
      subst e
      rw [show W.cell? ⟨b', 2, none⟩ = (#[u] : Array Value)[2]? from cell_of_row W b' 2 _ _ _ hb] at hy
      simp at hy
    rw [World.cell?_of_block (w := W) (Below.heap_setCell W ⟨b, 0, none⟩ x b' hne)]
    exact hy


def SplitOk (xs : List ByteArray) (w : World) (e : Ending) (w' : World) : Prop := ∃ v, e = .returned (.tuple #[v, .nilIface]) ∧ RdS w' v xs ∧ Ext w w'
def SplitBad (w : World) (e : Ending) (w' : World) : Prop := ∃ v, e = .returned (.tuple #[.slice none 0 0, v]) ∧ ErrN w' 1 v 2 ∧ Ext w w'

def SplitIf (xs : List ByteArray) (w : World) (e : Ending) (w' : World) : Prop := if xs.all nameB = true ∧ xs.length ≤ 6 then SplitOk xs w e w' else SplitBad w e w'

set_option maxHeartbeats 1000000 in
theorem Split_root (w : World) : Calls Tryz.prog 74 #[.string ⟨#[47]⟩] w (SplitOk [] w) := by
  refine (callsIn_wide (n := 3)).1 ?_
  refine callsIn_of_wp_marks Tryz.func74 rfl trivial ?_ rfl
  simp only [Tryz.ntmps74, List.size_toArray, List.length_cons, List.length_nil, Nat.reduceAdd, Nat.reduceSub, Array.replicate_succ, Array.replicate_zero, List.push_toArray, List.append_toArray, List.nil_append, List.cons_append]
  gi_wp2
  refine ⟨.tuple #[.slice none 0 0, .nilIface], ?_, ?_⟩
  · simp [results, Tryz.f74, go_sem]
  · exact ⟨_, rfl, Rd.nil _ _ _, (by repeat (first | exact Ext.refl _ | assumption | refine Ext.alloc ?_ _ | refine Ext.drew ?_ | refine Ext.drewN ?_ _ | refine Ext.setCell ?_ (by first | omega | (simp; done) | (simp; omega)) _ | refine Ext.trans ?_ (by assumption)))⟩

set_option maxHeartbeats 1000000 in
/-- No slash ahead. -/
theorem Split_bare (p : ByteArray) (w : World) (hp : Lib.hasPrefix p.data.toList [47] = false) : Calls Tryz.prog 74 #[.string p] w (SplitBad w) := by
  have hne : (p.toList == [47]) = false := by
    have h1 : p.toList ≠ [47] := fun e => by
      rw [ByteArray.toList_eq] at e
      rw [e] at hp
      simp [Lib.hasPrefix] at hp
    simpa using h1
  have hCP := fun w => (callsIn_wide (n := 3 - 1)).2 (Tryz.strings_CutPrefix p ⟨#[47]⟩ w)
  have hpb : Lib.hasPrefix p.data.toList (⟨#[47]⟩ : ByteArray).data.toList = false := hp
  rw [hpb] at hCP
  clear hp hpb
  refine (callsIn_wide (n := 3)).1 ?_
  refine callsIn_of_wp_marks Tryz.func74 rfl trivial ?_ rfl
  simp only [Tryz.ntmps74, List.size_toArray, List.length_cons, List.length_nil, Nat.reduceAdd, Nat.reduceSub, Array.replicate_succ, Array.replicate_zero, List.push_toArray, List.append_toArray, List.nil_append, List.cons_append]
  gi_wp2_with (first | (refine ⟨trivial, ?_⟩; gi_at_call 124; refine (hCP _).mono ?_; rintro e w' ⟨rfl, rfl⟩) | (refine ⟨trivial, ?_⟩; gi_at_call 63; refine (callsIn_wide.2 (fail_At_int _ _ _ _)).mono ?_; rintro e w' ⟨rfl, rfl⟩))
  refine ⟨.tuple #[.slice none 0 0, .iface 181 (.pointer (some ⟨w.heap.size + 1 + 1 + 1, 0, none⟩))], ?_, ?_⟩
  · simp [results, Tryz.f74, go_sem]
  · exact ⟨_, rfl, ⟨_, .iface 102 (.int .i64 2), rfl, by rw [World.cell?_alloc_at _ _ _ _ (by simp)]; rfl, rfl⟩, (by repeat (first | exact Ext.refl _ | assumption | refine Ext.alloc ?_ _ | refine Ext.drew ?_ | refine Ext.drewN ?_ _ | refine Ext.setCell ?_ (by first | omega | (simp; done) | (simp; omega)) _ | refine Ext.trans ?_ (by assumption)))⟩

set_option maxRecDepth 100000 in
set_option maxHeartbeats 4000000 in
theorem Split_path (p r : ByteArray) (w : World) (hs : p.size ≤ 140737488355328) (hp : p.data.toList = 47 :: r.data.toList) (hr : r.data.toList ≠ []) :
    Calls Tryz.prog 74 #[.string p] w (SplitIf (pieces 47 r) w) := by
  have hne : (p.toList == [47]) = false := by
    have h1 : p.toList ≠ [47] := fun e => by
      rw [ByteArray.toList_eq, hp] at e
      exact hr (by simpa using e)
    simpa using h1
  have hrs : r.size ≤ 140737488355328 := by
    have h1 : p.data.toList.length = p.size := Array.length_toList
    have h2 : r.data.toList.length = r.size := Array.length_toList
    rw [hp, List.length_cons] at h1
    omega
  have hCP := fun w => (callsIn_wide (n := 3 - 1)).2 (Tryz.strings_CutPrefix p ⟨#[47]⟩ w)
  have hp1 : Lib.hasPrefix p.data.toList (⟨#[47]⟩ : ByteArray).data.toList = true := by rw [hp]; simp [Lib.hasPrefix]
  have hp2 : (⟨(Lib.trimPrefix p.data.toList (⟨#[47]⟩ : ByteArray).data.toList).toArray⟩ : ByteArray) = r := by
    rw [Lib.trimPrefix, hp1, hp]
    simp
  rw [hp1, hp2] at hCP
  clear hp1 hp2 hp hr
  refine (callsIn_wide (n := 3)).1 ?_
  refine callsIn_of_wp_marks Tryz.func74 rfl trivial ?_ rfl
  simp only [Tryz.ntmps74, List.size_toArray, List.length_cons, List.length_nil, Nat.reduceAdd, Nat.reduceSub, Array.replicate_succ, Array.replicate_zero, List.push_toArray, List.append_toArray, List.nil_append, List.cons_append]
  gi_wp2_with (first | (refine ⟨trivial, ?_⟩; gi_at_call 124; refine (hCP _).mono ?_; rintro e w' ⟨rfl, rfl⟩) | (refine ⟨trivial, ?_⟩; gi_at_call 125; refine (callsIn_wide.2 (SplitSeq_any _ _ _)).mono ?_; rintro e w' ⟨rfl, rfl⟩))
  obtain ⟨N, hN⟩ : ∃ N, w.heap.size = N := ⟨_, rfl⟩
  rw [hN]
  have b0 := Boxed.new w 9 (.string p)
  have b1 := Boxed.new (w.alloc (.cells #[.string p] 9)) 27 (.slice none 0 0)
  have b2 := Boxed.new ((w.alloc (.cells #[.string p] 9)).alloc (.cells #[.slice none 0 0] 27)) 29 .nilIface
  have b3 := Boxed.new (((w.alloc (.cells #[.string p] 9)).alloc (.cells #[.slice none 0 0] 27)).alloc (.cells #[.nilIface] 29)) 27 (.slice none 0 0)
  have b4 := Boxed.new ((((w.alloc (.cells #[.string p] 9)).alloc (.cells #[.slice none 0 0] 27)).alloc (.cells #[.nilIface] 29)).alloc (.cells #[.slice none 0 0] 27)) 9 (.string r)
  have b5 := Boxed.new (((((w.alloc (.cells #[.string p] 9)).alloc (.cells #[.slice none 0 0] 27)).alloc (.cells #[.nilIface] 29)).alloc (.cells #[.slice none 0 0] 27)).alloc (.cells #[.string r] 9)) 9 (.string ⟨#[47]⟩)
  have b6 := Boxed.new ((((((w.alloc (.cells #[.string p] 9)).alloc (.cells #[.slice none 0 0] 27)).alloc (.cells #[.nilIface] 29)).alloc (.cells #[.slice none 0 0] 27)).alloc (.cells #[.string r] 9)).alloc (.cells #[.string ⟨#[47]⟩] 9)) 3 (.int .i64 0)
  simp only [World.size_alloc, hN] at b0 b1 b2 b3 b4 b5 b6
  have hE0 : Ext w (((((((w.alloc (.cells #[.string p] 9)).alloc (.cells #[.slice none 0 0] 27)).alloc (.cells #[.nilIface] 29)).alloc (.cells #[.slice none 0 0] 27)).alloc (.cells #[.string r] 9)).alloc (.cells #[.string ⟨#[47]⟩] 9)).alloc (.cells #[.int .i64 0] 3)) := (by repeat (first | exact Ext.refl _ | assumption | refine Ext.alloc ?_ _ | refine Ext.drew ?_ | refine Ext.drewN ?_ _ | refine Ext.setCell ?_ (by first | omega | (simp; done) | (simp; omega)) _ | refine Ext.trans ?_ (by assumption)))
  replace b0 := (((((b0.alloc (.cells #[.slice none 0 0] 27)).alloc (.cells #[.nilIface] 29)).alloc (.cells #[.slice none 0 0] 27)).alloc (.cells #[.string r] 9)).alloc (.cells #[.string ⟨#[47]⟩] 9)).alloc (.cells #[.int .i64 0] 3)
  replace b1 := ((((b1.alloc (.cells #[.nilIface] 29)).alloc (.cells #[.slice none 0 0] 27)).alloc (.cells #[.string r] 9)).alloc (.cells #[.string ⟨#[47]⟩] 9)).alloc (.cells #[.int .i64 0] 3)
  replace b2 := (((b2.alloc (.cells #[.slice none 0 0] 27)).alloc (.cells #[.string r] 9)).alloc (.cells #[.string ⟨#[47]⟩] 9)).alloc (.cells #[.int .i64 0] 3)
  replace b3 := ((b3.alloc (.cells #[.string r] 9)).alloc (.cells #[.string ⟨#[47]⟩] 9)).alloc (.cells #[.int .i64 0] 3)
  replace b4 := (b4.alloc (.cells #[.string ⟨#[47]⟩] 9)).alloc (.cells #[.int .i64 0] 3)
  replace b5 := b5.alloc (.cells #[.int .i64 0] 3)
  have hsz : (((((((w.alloc (.cells #[.string p] 9)).alloc (.cells #[.slice none 0 0] 27)).alloc (.cells #[.nilIface] 29)).alloc (.cells #[.slice none 0 0] 27)).alloc (.cells #[.string r] 9)).alloc (.cells #[.string ⟨#[47]⟩] 9)).alloc (.cells #[.int .i64 0] 3)).heap.size = N + 7 := by simp [hN]
  generalize (((((((w.alloc (.cells #[.string p] 9)).alloc (.cells #[.slice none 0 0] 27)).alloc (.cells #[.nilIface] 29)).alloc (.cells #[.slice none 0 0] 27)).alloc (.cells #[.string r] 9)).alloc (.cells #[.string ⟨#[47]⟩] 9)).alloc (.cells #[.int .i64 0] 3)) = W0 at b0 b1 b2 b3 b4 b5 b6 hE0 hsz ⊢
  refine wpIn_rangeFunc_ownC rfl (by omega) (gf := 232) (lb := #[.pointer (some ⟨N + 1 + 1 + 1 + 1 + 1, 0, none⟩), .pointer (some ⟨N + 1 + 1 + 1 + 1, 0, none⟩), .pointer (some ⟨N + 1 + 1 + 1 + 1 + 1 + 1, 0, none⟩)]) rfl trivial (enters_of Tryz.func232 (by kernel_rfl) rfl)
    (splitSeq_stops 2 (by omega) (N + 1 + 1 + 1 + 1) r 47 hrs W0 b4 b5 b6) (by omega) (fun h k => h.trans k)
    (fun W l o o' hl ho _ _ => ⟨World.putObj_heap_other (by omega), World.putObj_heap_other (by omega), World.putObj_heap_other (by omega)⟩) (Below.refl _ _) (fun _ => rfl)
    (fun pre W => ((∃ v, Boxed W (N + 1 + 1 + 1) 27 v ∧ W.ownsRow (N + 7) 9 1 v pre.length (pre.map Value.string)) ∧ (Boxed W N 9 (.string p) ∧ Boxed W (N + 1) 27 (.slice none 0 0) ∧ Boxed W (N + 1 + 1) 29 .nilIface)) ∧ (pre.all nameB = true ∧ pre.length ≤ 6) ∧ Ext w W ∧ N + 7 ≤ W.heap.size)
    (fun c pre W => c = .ret ∧ ¬ (pre.all nameB = true ∧ pre.length ≤ 6) ∧ Boxed W (N + 1) 27 (.slice none 0 0) ∧ (∃ v, Boxed W (N + 1 + 1) 29 v ∧ ErrN W 1 v 2) ∧ Ext w W)
    ?hIc ?hI ?hIx ?h0
    (fun x => { tmps := #[Value.string p, Value.pointer (some { block := N, off := 0 }),
          Value.pointer (some { block := N + 1, off := 0 }),
          Value.pointer (some { block := N + 1 + 1, off := 0 }), Value.string r, Value.bool true,
          Value.pointer (some { block := N + 1 + 1 + 1, off := 0 }), .string x, Value.string p, Value.bool false,
          Value.tuple #[Value.string r, Value.bool true], Value.string p,
          Value.tuple #[Value.string r, Value.bool true], Value.string r, Value.bool true, Value.bool true,
          Value.bool false, undef, undef, undef, Value.string r,
          Value.func (Fn.func 232) #[]
            #[Value.pointer (some { block := N + 1 + 1 + 1 + 1 + 1, off := 0 }),
              Value.pointer (some { block := N + 1 + 1 + 1 + 1, off := 0 }),
              Value.pointer (some { block := N + 1 + 1 + 1 + 1 + 1 + 1, off := 0 })],
          .string x, undef, undef, undef, undef, undef, undef, undef, undef, undef, undef, undef, undef, undef, undef,
          undef, undef], defers := [] }) ?assign ?body ?done ?stop
  case hIc =>
    rintro pre W u ⟨⟨⟨v, hv, hrow⟩, c0, c1, c2⟩, hg, hE, hlt⟩
    have hb : ∀ {B : Nat} {t : TypeId} {x : Value}, B ≠ N + 1 + 1 + 1 + 1 → Boxed W B t x → Boxed (W.setCell ⟨N + 1 + 1 + 1 + 1, 0, none⟩ u) B t x := fun hne h => (Below.heap_setCell W ⟨N + 1 + 1 + 1 + 1, 0, none⟩ u _ hne).trans h
    exact ⟨⟨⟨v, hb (by omega) hv, ownsRow_setCell_below hrow (by show N + 1 + 1 + 1 + 1 < N + 7; omega) u⟩, hb (by omega) c0, hb (by omega) c1, hb (by omega) c2⟩, hg, hE.setCell (by simp; omega) u, by simpa [World.setCell] using hlt⟩
  case hI =>
    refine OwnFrom.and (OwnFrom.and (Own.from (fun pre X Y row ⟨v, hv, hr⟩ hg hrow => ?_) _) (Own.from (fun pre X Y row ⟨c0, c1, c2⟩ hg hrow => ?_) _)) (OwnFrom.and (fun _ _ _ _ hs _ _ => hs) (OwnFrom.and (ownFrom_below (Nat.le_refl _) (by omega)) (fun _ _ _ _ hs hg _ => Nat.le_trans hs hg.size)))
    · obtain ⟨v', h1, h2, _⟩ := holdsRow_own (N + 7) (N + 1 + 1 + 1) 27 9 1 (fun _ : Unit => pre.length) (fun _ => pre.map Value.string) (fun _ _ => True) () X Y row ⟨v, hv, hr, trivial⟩ hg hrow
      exact ⟨v', h1, h2⟩
    · exact ⟨boxed_own _ _ (fun _ : Unit => _) () X Y row c0 hg hrow, boxed_own _ _ (fun _ : Unit => _) () X Y row c1 hg hrow, boxed_own _ _ (fun _ : Unit => _) () X Y row c2 hg hrow⟩
  case hIx =>
    intro c pre X Y row ⟨h1, h2, c1, ⟨v, c2, hv⟩, hE⟩ hg hrow
    have hrow' := fun r e => (hrow r e).2
    refine ⟨h1, h2, boxed_own _ _ (fun _ : Unit => _) () X Y row c1 hg hrow', ⟨v, boxed_own _ _ (fun _ : Unit => _) () X Y row c2 hg hrow', ?_⟩, (ownFrom_below (β := Unit) (n₀ := w.heap.size) (B := W0.heap.size) (Nat.le_refl _) (by omega)) () X Y row hE hg hrow⟩
    exact ErrN_old hv (fun b x hx => cell_kept hx hg hrow')
  case h0 => exact ⟨⟨⟨_, b3, World.ownsRow_nil _ _ _ _⟩, b0, b1, b2⟩, ⟨rfl, by simp⟩, hE0, by omega⟩
  case assign =>
    intro l x W K hK
    gi_wp2
    exact hK
  case body =>
    rintro l pre x W ⟨⟨⟨v, hv, hrow⟩, c0, c1, c2⟩, hg, hE, hlt⟩ hpx
    have hxs : x.size ≤ 140737488355328 := by
      have := pieces_size (hpx.subset (show x ∈ pre ++ [x] by simp))
      omega
    obtain ⟨A, cp, rfl⟩ := own_form hrow
    have Hg := Lib.hid hg
    clear hg
    by_cases hx : nameB x = true
    · have hN1 := fun W => (callsIn_wide (n := 3 - 1 - 1 - 1)).2 (Name_any x W hxs)
      rw [show nameOk x.data.toList = true from hx] at hN1
      have Hx := Lib.hid hx
      clear hx
      by_cases h6 : pre.length = 6
      · have h6' : ((pre.length : Int) == 6) = true := by simp; omega
        have Hbad := Lib.hid (show ¬ ((pre ++ [x]).all nameB = true ∧ (pre ++ [x]).length ≤ 6) from fun h => by have := h.2; rw [List.length_append, h6] at this; simp at this)
        clear h6
        gi_wp2_with (first | (refine ⟨trivial, ?_⟩; gi_at_call 16; refine (CallsIn.inRound l (hN1 _)).mono ?_; rintro e W1 ⟨rfl, hE1⟩; have hvc := (boxed_ext hv hE1).cell; have c0c := (boxed_ext c0 hE1).cell) | (refine ⟨trivial, ?_⟩; gi_at_call 63; refine (CallsIn.inRound l (callsIn_wide.2 (fail_At_c _ _ _ _))).mono ?_; rintro e W2 ⟨⟨a, rfl, hEr⟩, hE2⟩; have d1 := boxed_ext c1 (hE1.trans hE2); have d2 := boxed_ext c2 (hE1.trans hE2); have c1c := d1.cell; have c1f := d1.frozen; have c2c := d2.cell; have c2f := d2.frozen))
        exact ⟨((others_ext (hE1.trans hE2)).trans (KeepsOthers.setCell _ _ _)).trans (KeepsOthers.setCell _ _ _), rfl, Hbad.out, (d1.set _).other (by omega) _, ⟨_, (d2.other (by omega) _).set _, errN_box (errN_box hEr d1 _) (d2.other (by omega) _) _⟩, ((hE.trans (hE1.trans hE2)).setCell (by simp; omega) _).setCell (by simp; omega) _⟩
      · have h6' : ((pre.length : Int) == 6) = false := by simp; omega
        have Hh6 := Lib.hid h6
        clear h6
        obtain ⟨i0, hi, hz0, hz1, hz2⟩ := info_parts Tryz.info9s
        gi_wp2_with (first | (refine ⟨trivial, ?_⟩; gi_at_call 16; refine (CallsIn.inRound l (hN1 _)).mono ?_; rintro e W1 ⟨rfl, hE1⟩; have hv1 := boxed_ext hv hE1; have hvc := hv1.cell; have hrow1 := own_ext hrow hE1) | (gi_at_builtin; go_must (refine wpListIn_append_own _ rfl _ _ 27 rfl (N + 7) 9 i0 (.string ⟨#[]⟩) 1 16 Tryz.underlying27 hi hz0 hz1 hz2 rfl (by decide) _ _ _ rfl (hrow1.alloc _) ⟨W1.heap.size, 0, none⟩ 1 1 [.string x] rfl rfl (cell_one_new _ _ _) (by simp [Value.oneCell']) (by have := Hg.out.2; simp [maxLen]; omega) (by have := Hg.out.2; omega) (by have := hE1.size; simp; omega) ?_); intro v' w2 hown' hgrow _; obtain ⟨g', cap', rfl⟩ := ownsRow_succ hown'; obtain ⟨hv1', hv2, _, hk2, hb2⟩ := hv1.appended (n₀ := N) (by decide) (own_lower hrow1 (by omega)) (by have := hE1.size; omega) (by omega) (own_lower hown' (by omega)) hgrow; have hr2 := hown'.kept (grownBy_setCell' w2 (N + 1 + 1 + 1) (.slice (some ⟨g', 0, none⟩) (pre.length + 1) cap')) (.inr (hv1'.not_row (by decide) hown').symm); have hc1 := hv1'.cell; have hf1 := hv1'.frozen))
        have hkeep : ∀ k, k < N + 7 → k ≠ N + 1 + 1 + 1 → (w2.setCell ⟨N + 1 + 1 + 1, 0, none⟩ (.slice (some ⟨g', 0, none⟩) (pre.length + 1) cap')).heap[k]? = W1.heap[k]? := fun k hk hne => by
          rw [Below.heap_setCell _ _ _ _ hne, hgrow.block k (by have := hE1.size; simp; omega) (fun e => by have := (hrow1.lt k e.symm).1; omega), Below.heap_alloc _ _ _ (by have := hE1.size; omega)]
        have hB : ∀ {b : Nat} {t : TypeId} {u : Value}, b < N + 7 → b ≠ N + 1 + 1 + 1 → Boxed W b t u → Boxed (w2.setCell ⟨N + 1 + 1 + 1, 0, none⟩ (.slice (some ⟨g', 0, none⟩) (pre.length + 1) cap')) b t u := fun h1 h2 hb => (hkeep _ h1 h2).trans (boxed_ext hb hE1)
        refine ⟨(others_ext hE1).trans hk2, (kps_ext hE1 (by omega)).trans ⟨hkeep _ (by omega) (by omega), hkeep _ (by omega) (by omega), hkeep _ (by omega) (by omega)⟩, ⟨⟨_, hv2, by simpa using hr2⟩, hB (by omega) (by omega) c0, hB (by omega) (by omega) c1, hB (by omega) (by omega) c2⟩, ⟨?_, ?_⟩, ?_, ?_⟩
        · rw [List.all_append, Hg.out.1]; simp [Hx.out]
        · have := Hg.out.2; have := Hh6.out; simp; omega
        · exact Below.trans (hE.trans hE1) (hN ▸ hb2)
        · have := Below.size hb2; have := hE1.size; omega
    · have hx' : nameOk x.data.toList = false := by simpa [nameB] using hx
      have hN1 := fun W => (callsIn_wide (n := 3 - 1 - 1 - 1)).2 (Name_any x W hxs)
      rw [hx'] at hN1
      have Hbad := Lib.hid (show ¬ ((pre ++ [x]).all nameB = true ∧ (pre ++ [x]).length ≤ 6) from fun h => by have := h.1; rw [List.all_append, Bool.and_eq_true] at this; exact hx (by simpa using this.2))
      clear hx hx'
      gi_wp2_with (first | (refine ⟨trivial, ?_⟩; gi_at_call 16; refine (CallsIn.inRound l (hN1 _)).mono ?_; rintro e W1 ⟨rfl, hE1⟩; have hvc := (boxed_ext hv hE1).cell; have c0c := (boxed_ext c0 hE1).cell) | (refine ⟨trivial, ?_⟩; gi_at_call 63; refine (CallsIn.inRound l (callsIn_wide.2 (fail_At_c _ _ _ _))).mono ?_; rintro e W2 ⟨⟨a, rfl, hEr⟩, hE2⟩; have d1 := boxed_ext c1 (hE1.trans hE2); have d2 := boxed_ext c2 (hE1.trans hE2); have c1c := d1.cell; have c1f := d1.frozen; have c2c := d2.cell; have c2f := d2.frozen))
      exact ⟨((others_ext (hE1.trans hE2)).trans (KeepsOthers.setCell _ _ _)).trans (KeepsOthers.setCell _ _ _), rfl, Hbad.out, (d1.set _).other (by omega) _, ⟨_, (d2.other (by omega) _).set _, errN_box (errN_box hEr d1 _) (d2.other (by omega) _) _⟩, ((hE.trans (hE1.trans hE2)).setCell (by simp; omega) _).setCell (by simp; omega) _⟩
  case done =>
    rintro D xs W hD rfl ⟨⟨⟨v, hv, hrow⟩, c0, c1, c2⟩, hg, hE, hlt⟩ hK
    have hvc := hv.cell
    have c1c := c1.cell
    have c1f := c1.frozen
    have c2c := c2.cell
    have c2f := c2.frozen
    have Hg := Lib.hid hg
    clear hg
    obtain ⟨A, cp, rfl⟩ := own_form hrow
    gi_wp2_with fail
    have f1 := (c1.set (.slice A (pieces 47 r).length cp)).other (B' := N + 1 + 1) (by omega) .nilIface
    have f2 := (c2.other (B' := N + 1) (by omega) (.slice A (pieces 47 r).length cp)).set .nilIface
    have hr := ownsRow_setCell_below (ownsRow_setCell_below hrow (a := ⟨N + 1, 0, none⟩) (by show N + 1 < N + 7; omega) (.slice A (pieces 47 r).length cp)) (a := ⟨N + 1 + 1, 0, none⟩) (by show N + 1 + 1 < N + 7; omega) .nilIface
    have hKf := (KeepsOthers.setCell (W.setCell ⟨N + 1, 0, none⟩ (.slice A (pieces 47 r).length cp)) ⟨N + 1 + 1, 0, none⟩ .nilIface).same D _ ((KeepsOthers.setCell W ⟨N + 1, 0, none⟩ (.slice A (pieces 47 r).length cp)).same D _ hK rfl) rfl
    have hEf := (hE.setCell (p := ⟨N + 1, 0, none⟩) (by simp; omega) (.slice A (pieces 47 r).length cp)).setCell (p := ⟨N + 1 + 1, 0, none⟩) (by simp; omega) .nilIface
    clear c0 c1 c2 c1c c1f c2c c2f hrow hE hlt hK hvc hv
    generalize (W.setCell ⟨N + 1, 0, none⟩ (.slice A (pieces 47 r).length cp)).setCell ⟨N + 1 + 1, 0, none⟩ .nilIface = Wf at f1 f2 hr hKf hEf ⊢
    refine ⟨by simp, .inl ⟨_, _, rfl, run_takeDeferred hKf, ?_⟩⟩
    have g1 := cell_kept f1.cell (grownBy_putObj' Wf D (.deferred none)) (fun r e => by cases e; exact ⟨_, hKf, rfl⟩)
    have g2 := cell_kept f2.cell (grownBy_putObj' Wf D (.deferred none)) (fun r e => by cases e; exact ⟨_, hKf, rfl⟩)
    refine ⟨.tuple #[.slice A (pieces 47 r).length cp, .nilIface], by simp [results, Tryz.f74, go_sem, g1, g2], ?_⟩
    rw [SplitIf, if_pos Hg.out]
    exact ⟨_, rfl, RdS.of_own (ownsRow_putObj hr _ hKf rfl) (by have := Hg.out.2; omega), Below.trans hEf (belowK_b (w := w) (Nat.le_refl _) Wf D _ _ (by omega) hKf rfl rfl)⟩
  case stop =>
    rintro D c pre W hD hpre ⟨rfl, hbad, c1, ⟨v, c2, hv⟩, hE⟩ hK
    have Hbad := Lib.hid hbad
    clear hbad
    have c1c := c1.cell
    have c2c := c2.cell
    gi_wp2_with fail
    refine ⟨by simp, .inl ⟨_, _, rfl, run_takeDeferred hK, ?_⟩⟩
    have g1 := cell_kept c1c (grownBy_putObj' W D (.deferred none)) (fun r e => by cases e; exact ⟨_, hK, rfl⟩)
    have g2 := cell_kept c2c (grownBy_putObj' W D (.deferred none)) (fun r e => by cases e; exact ⟨_, hK, rfl⟩)
    have hv2 : ErrN (W.putObj D (.deferred none)) 1 v 2 := ErrN_old hv (fun b x hx => cell_kept hx (grownBy_putObj' W D (.deferred none)) (fun r e => by cases e; exact ⟨_, hK, rfl⟩))
    refine ⟨.tuple #[.slice none 0 0, v], by simp [results, Tryz.f74, go_sem, g1, g2], ?_⟩
    have Hb2 : ¬ ((pieces 47 r).all nameB = true ∧ (pieces 47 r).length ≤ 6) := fun h => Hbad.out ⟨by
      rw [List.all_eq_true]
      exact fun y hy => List.all_eq_true.1 h.1 y (hpre.subset hy), Nat.le_trans hpre.length_le h.2⟩
    rw [SplitIf, if_neg Hb2]
    exact ⟨_, rfl, hv2, Below.trans hE (belowK_b (w := w) (Nat.le_refl _) W D _ _ (by omega) hK rfl rfl)⟩

/-- path.Split, for every text. -/
theorem Split_any (p : ByteArray) (w : World) (hs : p.size ≤ 140737488355328) :
    (∀ xs, names p = some xs → Calls Tryz.prog 74 #[.string p] w (SplitOk xs w)) ∧
    (names p = none → Calls Tryz.prog 74 #[.string p] w (SplitBad w)) := by
  rcases hp : p.data.toList with _ | ⟨c, r⟩
  · have hn : names p = none := by simp [names, splitP, hp]
    exact ⟨fun xs h => (by rw [hn] at h; cases h), fun _ => Split_bare p w (by rw [hp]; simp [Lib.hasPrefix])⟩
  · by_cases hc : c = 47
    · subst hc
      rcases r with _ | ⟨d, r⟩
      · have hn : names p = some [] := by simp [names, splitP, hp]
        have he : p = ⟨#[47]⟩ := by rw [← B_toList p, hp]; rfl
        subst he
        exact ⟨fun xs h => by rw [hn] at h; cases h; exact Split_root w, fun h => by rw [hn] at h; cases h⟩
      · have h1 := Split_path p (B (d :: r)) w hs (by rw [hp, toList_B]) (by rw [toList_B]; simp)
        have hpc : pieces 47 (B (d :: r)) = (segs 47 (d :: r)).map B := by rw [pieces, toList_B]
        have hall : (pieces 47 (B (d :: r))).all nameB = (segs 47 (d :: r)).all nameOk := by
          rw [hpc, List.all_map]
          exact congrArg (List.all _) (funext fun x => by simp [nameB, toList_B])
        have hlen : (pieces 47 (B (d :: r))).length = (segs 47 (d :: r)).length := by rw [hpc, List.length_map]
        rw [show SplitIf (pieces 47 (B (d :: r))) w = fun e w' => SplitIf (pieces 47 (B (d :: r))) w e w' from rfl] at h1
        by_cases hg : (segs 47 (d :: r)).all nameOk = true ∧ (segs 47 (d :: r)).length ≤ 6
        · have hn : names p = some (pieces 47 (B (d :: r))) := by
            rw [names, hp, splitP, if_neg (by simp)]
            simp [hg, hpc]
          refine ⟨fun xs h => ?_, fun h => by rw [hn] at h; cases h⟩
          rw [hn] at h
          cases h
          refine h1.mono fun e w' h => ?_
          rw [SplitIf, hall, hlen, if_pos hg] at h
          exact h
        · have hn : names p = none := by
            rw [names, hp, splitP, if_neg (by simp)]
            simp only [true_and]
            rw [if_neg hg]
            rfl
          refine ⟨fun xs h => (by rw [hn] at h; cases h), fun _ => ?_⟩
          refine h1.mono fun e w' h => ?_
          rw [SplitIf, hall, hlen, if_neg hg] at h
          exact h
    · have hn : names p = none := by simp [names, splitP, hp, hc]
      refine ⟨fun xs h => (by rw [hn] at h; cases h), fun _ => Split_bare p w ?_⟩
      rw [hp]
      simp only [Lib.hasPrefix, List.isPrefixOf]
      simp
      exact fun e => hc e.symm
end Go.Proofs.YtknfaabhlcdeoaaGreatDoor
