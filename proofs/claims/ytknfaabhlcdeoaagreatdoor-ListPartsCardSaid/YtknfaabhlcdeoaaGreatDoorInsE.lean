/- slices.Insert at a row of entries that a call owns: one entry at a place. -/
import Derived.Test.YtknfaabhlcdeoaaGreatDoorDelE
import Derived.Test.YtknfaabhlcdeoaaGreatDoorBlk
import Derived.Shelf.Spec.SlicesInsertGrow
import Derived.Deep.RegionLaw
import Derived.BigRegion
import Derived.Deep.AppendLies
namespace Go.Proofs.YtknfaabhlcdeoaaGreatDoor
open Go Go.RowKit Go.Shelf Go.Proofs

theorem shape_of {w : World} {b : Nat} {t : TypeId} {cs : Array Value} (h : Blk w b t cs) : w.shape? b = some (t, cs.size) := by
  rw [Blk] at h
  simp [World.shape?, h]

theorem run_copy3 (w : World) (ty : TypeId) (b o dLen dCap : Nat) (a : Addr) (sLen sCap : Nat) (cs : List Value) (hn : cs.length = Nat.min sLen dLen * 3)
    (hsrc : ∀ j v, cs[j]? = some v → w.cell? (a.add j) = some v) (hc : ∀ j, j < cs.length → (w.cell? ⟨b, o + j, none⟩).isSome = true) (hf : ∀ j, j < cs.length → w.frozen? ⟨b, o + j, none⟩ = false) (h1 : ∀ v ∈ cs, v.oneCell' = true) :
    (Builtin.copy_ #[34, 34] ty #[.slice (some ⟨b, o, none⟩) dLen dCap, .slice (some a) sLen sCap]).run Tryz.prog w = .ok (goInt (Nat.min sLen dLen)) (w.setCells b o cs) := by
  have hl := run_loadCells_list (P := Tryz.prog) w a cs hsrc
  have hst := run_storeCells_cells (P := Tryz.prog) b o cs 0 w (by simpa using hc) (by simpa using hf) h1
  obtain ⟨i0, hi, hz0, hz1, hz2⟩ := info_parts info_ent
  simp [Builtin.copy_, run_underlying Tryz.underlying34, Builtin.lenOf, Builtin.firstCells, sizeOf, typeInfo, hi, hz1, ← hn, hl, hst]

theorem Blk.cellIs {w : World} {b : Nat} {t : TypeId} {cs : Array Value} (h : Blk w b t cs) (j : Nat) : w.cell? ⟨b, j, none⟩ = cs[j]? := by
  rw [Blk] at h
  simp [World.cell?, h]

theorem Blk.setCells {b : Nat} {t : TypeId} : ∀ (vs : List Value) (o : Nat) (w : World) (cs : Array Value), Blk w b t cs → ∃ cs' : Array Value, cs'.size = cs.size ∧ Blk (w.setCells b o vs) b t cs' ∧ w.grownBy (w.setCells b o vs) (some b)
  | [], _, w, cs, h => ⟨cs, rfl, h, ⟨rfl, rfl, rfl, Nat.le_refl _, fun _ _ _ => rfl⟩⟩
  | v :: r, o, w, cs, h => by
    obtain ⟨cs', h1, h2, h3⟩ := Blk.setCells r (o + 1) (w.setCell ⟨b, o, none⟩ v) _ (h.set o v)
    refine ⟨cs', by rw [h1]; simp, h2, World.grownBy.trans ?_ h3⟩
    refine ⟨rfl, rfl, rfl, by simp, fun k hk hne => ?_⟩
    exact Below.heap_setCell _ _ _ _ (fun e => hne (congrArg some e))

theorem row_of {W : World} {g cap m base : Nat} {cs : Array Value} {target : List Value} (hb : Blk W g 33 cs) (hsz : cs.size = cap * 3) (hm : m ≤ cap) (hcap : cap ≤ maxLen) (hbase : base ≤ g) (hl : target.length = m * 3)
    (hc : ∀ (j : Nat) (h : j < target.length), W.cell? ⟨g, j, none⟩ = some target[j]) : W.ownsRow base 33 3 (.slice (some ⟨g, 0, none⟩) m cap) m target := by
  refine ⟨hl, .inr ⟨g, cap, cs, rfl, hbase, hb, hm, hcap, hsz, ?_⟩⟩
  have hm3 : m * 3 ≤ cap * 3 := Nat.mul_le_mul_right 3 hm
  apply List.ext_getElem?
  intro j
  by_cases hj : j < m * 3
  · have h1 := hc j (by omega)
    rw [hb.cellIs] at h1
    rw [List.getElem?_take_of_lt hj, Array.getElem?_toList, h1, List.getElem?_eq_getElem (by omega)]
  · rw [List.getElem?_take_eq_none (by omega), List.getElem?_eq_none (by omega)]

/-- What Insert answers. -/
def InsAns (base : Nat) (w0 : World) (ys : List Ent) (e : Ending) (w' : World) : Prop := ∃ v', e = .returned v' ∧ w'.ownsRow base 33 3 v' ys.length (flatE ys) ∧ Ext w0 w'

variable {xs : List Ent} {x : Ent}
theorem flatI_snoc : flatE (xs ++ [x]) = flatE xs ++ [.string x.path, .int .i64 x.kind, .string x.data] := by simp [flatE, Ent.cells]
theorem flat_app2 (a b : List Ent) : flatE (a ++ b) = flatE a ++ flatE b := by simp [flatE]
theorem ins_flat (k : Nat) : flatE (xs.take k ++ x :: xs.drop k) = flatE (xs.take k) ++ (x.cells ++ flatE (xs.drop k)) := by simp [flatE]
theorem ins_len {k : Nat} (hk : k ≤ xs.length) : (xs.take k ++ x :: xs.drop k).length = xs.length + 1 := by
  rw [List.length_append, List.length_cons, List.length_take, List.length_drop]; omega

set_option maxHeartbeats 4000000 in
set_option maxRecDepth 100000 in
theorem Ins_end (base : Nat) (v : Value) (vb : Nat) (w0 w : World) (hE0 : Ext w0 w) (hb0 : w0.heap.size ≤ base) (hbw : base ≤ w.heap.size) (hrow : w.ownsRow base 33 3 v xs.length (flatE xs)) (hl : xs.length ≤ 1000000)
    (hvb : Blk w vb 33 #[.string x.path, .int .i64 x.kind, .string x.data]) :
    Calls Tryz.prog 231 #[v, .int .i64 xs.length, .slice (some ⟨vb, 0, none⟩) 1 1] w (InsAns base w0 (xs ++ [x])) := by
  obtain ⟨i0, hi, hz0, hz1, hz2⟩ := info_parts info_ent
  obtain ⟨n, hn⟩ : ∃ n, xs.length = n := ⟨_, rfl⟩
  rw [hn] at hrow hl ⊢
  have Hn := Lib.hid hn
  have Hrow := Lib.hid hrow
  have Hvb := Lib.hid hvb
  have Hcap : ∃ A cap, v = .slice A n cap ∧ n ≤ cap ∧ cap ≤ 9223372036854775807 ∧ (A = none ∧ n = 0 ∧ cap = 0 ∨ ∃ g, A = some ⟨g, 0, none⟩) := by
    rcases hrow.2 with ⟨e, h0⟩ | ⟨g, cap, cur, e, _, _, h3, h4, _⟩
    · exact ⟨none, 0, by rw [e, h0], by omega, by omega, .inl ⟨rfl, h0, rfl⟩⟩
    · exact ⟨some ⟨g, 0, none⟩, cap, e, h3, by unfold maxLen at h4; exact h4, .inr ⟨g, rfl⟩⟩
  obtain ⟨A, cap, rfl, hc1, hc2, hA⟩ := Hcap
  clear hrow hvb hn
  rcases hA with ⟨rfl, rfl, rfl⟩ | ⟨g, rfl⟩
  · go_enter Tryz.func231, Tryz.ntmps231
    go_wp2_with (at_builtin; (refine wpList_append_own _ rfl _ _ 34 rfl base 33 i0 (.agg #[.string ⟨#[]⟩, .int .i64 0, .string ⟨#[]⟩]) 3 40 Tryz.underlying34 hi hz0 hz1 hz2 rfl (by decide) _ _ _ rfl Hrow.out ⟨vb, 0, none⟩ 1 1 [.string x.path, .int .i64 x.kind, .string x.data] rfl rfl (World.news_of_block (cs := #[.string x.path, .int .i64 x.kind, .string x.data]) (t := 33) (fr := (0, 0)) Hvb.out) (by simp [Value.oneCell']) (by unfold maxLen; omega) (by omega) hbw ?_; intro v3 w1 hown hgrow hnil'))
    go_ret
    exact ⟨_, rfl, by rw [flatI_snoc, List.length_append, List.length_singleton, Hn.out]; exact hown, Ext.grown hE0 hgrow (fun j hj => Nat.le_trans hb0 (Hrow.out.lt j hj).1)⟩
  · by_cases hcn : cap = n
    · subst hcn
      go_enter Tryz.func231, Tryz.ntmps231
      go_wp2_with (at_builtin; refine wpList_append_own _ rfl _ _ 34 rfl base 33 i0 (.agg #[.string ⟨#[]⟩, .int .i64 0, .string ⟨#[]⟩]) 3 40 Tryz.underlying34 hi hz0 hz1 hz2 rfl (by decide) _ _ _ rfl Hrow.out ⟨vb, 0, none⟩ 1 1 [.string x.path, .int .i64 x.kind, .string x.data] rfl rfl (World.news_of_block (cs := #[.string x.path, .int .i64 x.kind, .string x.data]) (t := 33) (fr := (0, 0)) Hvb.out) (by simp [Value.oneCell']) (by unfold maxLen; omega) (by omega) hbw ?_; intro v3 w1 hown hgrow hnil')
      go_ret
      exact ⟨_, rfl, by rw [flatI_snoc, List.length_append, List.length_singleton, Hn.out]; exact hown, Ext.grown hE0 hgrow (fun j hj => Nat.le_trans hb0 (Hrow.out.lt j hj).1)⟩
    · have hnc : ¬ n = cap := fun e => hcn e.symm
      go_enter Tryz.func231, Tryz.ntmps231
      go_wp2_with (at_builtin; refine wpList_append_own _ rfl _ _ 34 rfl base 33 i0 (.agg #[.string ⟨#[]⟩, .int .i64 0, .string ⟨#[]⟩]) 3 40 Tryz.underlying34 hi hz0 hz1 hz2 rfl (by decide) _ _ _ rfl Hrow.out ⟨vb, 0, none⟩ 1 1 [.string x.path, .int .i64 x.kind, .string x.data] rfl rfl (World.news_of_block (cs := #[.string x.path, .int .i64 x.kind, .string x.data]) (t := 33) (fr := (0, 0)) Hvb.out) (by simp [Value.oneCell']) (by unfold maxLen; omega) (by omega) hbw ?_; intro v3 w1 hown hgrow hnil')
      go_ret
      exact ⟨_, rfl, by rw [flatI_snoc, List.length_append, List.length_singleton, Hn.out]; exact hown, Ext.grown hE0 hgrow (fun j hj => Nat.le_trans hb0 (Hrow.out.lt j hj).1)⟩

set_option maxHeartbeats 4000000 in
set_option maxRecDepth 100000 in
theorem Ins_room (base g cap k : Nat) (vb : Nat) (w0 w : World) (hE0 : Ext w0 w) (hb0 : w0.heap.size ≤ base) (hrow : w.ownsRow base 33 3 (.slice (some ⟨g, 0, none⟩) xs.length cap) xs.length (flatE xs)) (hl : xs.length ≤ 1000000)
    (hk : k < xs.length) (hroom : xs.length < cap) (hvb : Blk w vb 33 #[.string x.path, .int .i64 x.kind, .string x.data]) (hne : vb ≠ g) :
    Calls Tryz.prog 231 #[.slice (some ⟨g, 0, none⟩) xs.length cap, .int .i64 k, .slice (some ⟨vb, 0, none⟩) 1 1] w (InsAns base w0 (xs.take k ++ x :: xs.drop k)) := by
  obtain ⟨n, hn⟩ : ∃ n, xs.length = n := ⟨_, rfl⟩
  rw [hn] at hrow hl hk hroom ⊢
  have Hn := Lib.hid hn
  obtain ⟨cur, hb, hbase, hcapm, hcs, htk⟩ : ∃ cur, Blk w g 33 cur ∧ base ≤ g ∧ cap ≤ 9223372036854775807 ∧ cur.size = cap * 3 ∧ ∀ j, j < n * 3 → w.cell? ⟨g, j, none⟩ = (flatE xs)[j]? := by
    rcases hrow.2 with ⟨e, _⟩ | ⟨g', cap', cur, e, hbase, hh, h3, h4, h5, h6⟩
    · cases e
    · cases e
      exact ⟨cur, hh, hbase, by unfold maxLen at h4; exact h4, h5, fun j hj => hrow.cellAt j hj⟩
  have hcc : n * 3 + 3 ≤ cap * 3 := by omega
  have hF2 : (flatE (xs.drop k)).length = (n - k) * 3 := by rw [ents_length, List.length_drop, hn]
  have hF : flatE xs = flatE (xs.take k) ++ flatE (xs.drop k) := by rw [← flat_app2, List.take_append_drop]
  have hF1 : (flatE (xs.take k)).length = k * 3 := by rw [ents_length, List.length_take, hn, Nat.min_eq_left (by omega)]
  have Hb := Lib.hid hb
  have Hvb := Lib.hid hvb
  have hkn : k ≤ n := by omega
  have hw1 : IntKind.i64.wrap ((k : Int) + 1) = (k : Int) + 1 := by rw [IntKind.wrap_i64]; omega
  have hw2 : IntKind.i64.wrap ((n : Int) + 1) = (n : Int) + 1 := by rw [IntKind.wrap_i64]; omega
  have hnk : ((k : Int) == (n : Int)) = false := by rw [beq_eq_false_iff_ne]; omega
  have hroom' : ¬ (cap : Int) < (n : Int) + 1 := by omega
  have htn : ((k : Int) + 1).toNat = k + 1 := by omega
  have htn2 : ((n : Int) + 1).toNat = n + 1 := by omega
  have hb1 : (0 : Int) ≤ (k : Int) + 1 := by omega
  have hb2 : ¬ (cap = k + 1) := by omega
  have hb3 : (k : Int) ≤ (n : Int) + 1 := by omega
  have hb4 : ¬ (cap = k) := by omega
  have hb5 : (n : Int) + 1 ≤ (cap : Int) := by omega
  have hb6 : (k : Int) + 1 ≤ (n : Int) + 1 := by omega
  have hFF := hF
  clear hn hb hvb hrow hF
  go_enter Tryz.func231, Tryz.ntmps231
  have hov : ∀ lb cb, (callFunc 251 #[.slice (some ⟨vb, 0, none⟩) 1 1, .slice (some ⟨g, (k + 1) * 3, none⟩) lb cb]).run Tryz.prog w = .ok (.value (.bool false)) w := fun lb cb => by
    rw [run_callFunc_extern Tryz.func251 (by kernel_rfl) (by kernel_rfl) (by kernel_rfl) (e := Extern.SlicesOverlaps.overlaps #[34, 34] #[4]) (by kernel_rfl),
      Lib.run_overlaps_apart w 34 4 33 Tryz.underlying34 3 (fun w => by kernel_rfl) ⟨vb, 0, none⟩ ⟨g, (k + 1) * 3, none⟩ 1 1 lb cb hne 33 33 3 cur.size (shape_of Hvb.out) (shape_of Hb.out) (by omega) (Hvb.out.frozen 0) (Hvb.out.frozen 3)]
    rfl
  obtain ⟨F1, hF1e⟩ : ∃ F1, flatE (xs.take k) = F1 := ⟨_, rfl⟩
  obtain ⟨F2, hF2e⟩ : ∃ F2, flatE (xs.drop k) = F2 := ⟨_, rfl⟩
  have hF1k := hF1e
  have hF2k := Lib.hid hF2e
  have ho1 : ∀ v ∈ F2, v.oneCell' = true := by rw [← hF2e]; exact ents_one _
  rw [hF1e] at hF1
  rw [hF2e] at hF2
  have HF1 : Hid (∀ j, j < k * 3 → w.cell? ⟨g, j, none⟩ = F1[j]?) := Lib.hid fun j hj => by
    rw [htk j (by omega), hFF, hF1e, List.getElem?_append_left (by omega)]
  have HF2 : Hid (∀ j, j < (n - k) * 3 → w.cell? ⟨g, k * 3 + j, none⟩ = F2[j]?) := Lib.hid fun j hj => by
    rw [htk _ (by omega), hFF, hF1e, hF2e, List.getElem?_append_right (by omega)]
    congr 1
    omega
  have hsome : ∀ j, j < cap * 3 → (w.cell? ⟨g, j, none⟩).isSome = true := fun j hj => by
    rw [Hb.out.cellIs, Array.getElem?_eq_getElem (by omega)]; rfl
  have hcp1 : ∀ ty dc sc, (Builtin.copy_ #[34, 34] ty #[.slice (some ⟨g, (k + 1) * 3, none⟩) (n - k) dc, .slice (some ⟨g, k * 3, none⟩) (n + 1 - k) sc]).run Tryz.prog w.drew = .ok (goInt (Nat.min (n + 1 - k) (n - k))) (w.drew.setCells g ((k + 1) * 3) F2) := fun ty dc sc =>
    run_copy3 w.drew ty g ((k + 1) * 3) (n - k) dc ⟨g, k * 3, none⟩ (n + 1 - k) sc F2 (by rw [hF2]; simp only [Nat.min_def]; split <;> omega)
      (fun j v hj => by
        have hjl := (List.getElem?_eq_some_iff.1 hj).1
        rw [Addr.add_lit]
        exact (HF2.out j (by omega)).trans hj)
      (fun j hj => hsome _ (by omega)) (fun j hj => Hb.out.frozen _) ho1
  obtain ⟨W1, hW1⟩ : ∃ W1, w.drew.setCells g ((k + 1) * 3) F2 = W1 := ⟨_, rfl⟩
  obtain ⟨c1, hc1s, hc1b, hc1g⟩ := Blk.setCells F2 ((k + 1) * 3) w.drew cur Hb.out
  rw [hW1] at hcp1 hc1b hc1g
  have hvb1 : Blk W1 vb 33 #[.string x.path, .int .i64 x.kind, .string x.data] := (hc1g.block vb Hvb.out.lt (fun e => hne (by injection e))).trans Hvb.out
  have hcp2 : ∀ (W : World), (∀ x, W.cell? x = W1.cell? x) → (∀ x, W.frozen? x = W1.frozen? x) → ∀ ty dc, (Builtin.copy_ #[34, 34] ty #[.slice (some ⟨g, k * 3, none⟩) (n + 1 - k) dc, .slice (some ⟨vb, 0, none⟩) 1 1]).run Tryz.prog W = .ok (goInt (Nat.min 1 (n + 1 - k))) (W.setCells g (k * 3) [.string x.path, .int .i64 x.kind, .string x.data]) := fun W hWc hWf ty dc =>
    run_copy3 W ty g (k * 3) (n + 1 - k) dc ⟨vb, 0, none⟩ 1 1 _ (by simp only [Nat.min_def, List.length_cons, List.length_nil]; split <;> omega)
      (fun j v hj => by
        rw [Addr.add_lit, hWc, hvb1.cellIs]
        rw [Nat.zero_add]
        simpa using hj)
      (fun j hj => by
        simp only [List.length_cons, List.length_nil] at hj
        rw [hWc, hc1b.cellIs, Array.getElem?_eq_getElem (by omega)]; rfl) (fun j hj => by rw [hWf]; exact hc1b.frozen _) (by simp [Value.oneCell'])
  have Hd := Lib.hid hW1
  have Hc1 := Lib.hid hc1b
  have Hg1 := Lib.hid hc1g
  have Hcap := Lib.hid hcapm
  have Hs1 := Lib.hid hc1s
  have Hcs := Lib.hid hcs
  have HF1k := Lib.hid hF1k
  clear hW1 hc1b hc1g hsome hvb1 htk hFF hF1e ho1 hcapm hc1s hcs hF1k hF2e
  go_wp2_with (simp only [hov])
  go_region_law (refine step_copy_runI rfl _ _ 34 34 rfl _ _ (by simp [Act.eval, Act.put]) (by simp [Act.eval, Act.put]) (hcp1 _ _ _) ?_)
  go_wp2_with (at_builtin; refine wpList_copy_runI _ rfl _ _ 34 34 rfl _ _ rfl rfl (hcp2 _ (fun _ => rfl) (fun _ => rfl) _ _) ?_)
  go_ret
  obtain ⟨c2, hs2, hb2', hg2⟩ := Blk.setCells [.string x.path, .int .i64 x.kind, .string x.data] (k * 3) W1 c1 Hc1.out
  refine ⟨_, rfl, ?_, Ext.grown (Ext.grown hE0.drew Hg1.out (fun j hj => by cases hj; omega)) hg2 (fun j hj => by cases hj; omega)⟩
  rw [ins_len (by rw [Hn.out]; omega), Hn.out, ins_flat, hF2k.out]
  have hl1 : (flatE (xs.take k)).length = k * 3 := by rw [ents_length, List.length_take, Hn.out, Nat.min_eq_left (by omega)]
  refine row_of hb2' (by rw [hs2, Hs1.out, Hcs.out]) (by omega) (by unfold maxLen; exact Hcap.out) hbase (by rw [List.length_append, List.length_append, hl1, hF2]; show k * 3 + (3 + _) = _; omega) fun j hj => ?_
  rw [List.length_append, List.length_append, hl1, hF2] at hj
  have hj : j < k * 3 + (3 + (n - k) * 3) := hj
  rw [← List.getElem?_eq_getElem (by rw [List.length_append, List.length_append, hl1, hF2]; exact hj)]
  by_cases h1 : j < k * 3
  · rw [World.cell?_setCells_out _ _ _ _ _ (fun _ _ => .inl h1), ← Hd.out, World.cell?_setCells_out _ _ _ _ _ (fun _ _ => .inl (by show j < (k + 1) * 3; omega))]
    rw [List.getElem?_append_left (by omega), HF1k.out]
    exact HF1.out j h1
  · by_cases h2 : j < k * 3 + 3
    · obtain ⟨i, rfl⟩ : ∃ i, j = k * 3 + i := ⟨j - k * 3, by omega⟩
      have h3 := World.cell?_setCells_in g [.string x.path, .int .i64 x.kind, .string x.data] (k * 3) W1 (fun t ht => by
        simp only [List.length_cons, List.length_nil] at ht
        rw [Hc1.out.cellIs, Array.getElem?_eq_getElem (by rw [Hs1.out, Hcs.out]; omega)]; rfl) i (by show i < 3; omega)
      rw [h3, List.getElem?_append_right (by omega), hl1, show k * 3 + i - k * 3 = i by omega, List.getElem?_append_left (by show i < 3; omega)]
      rw [← List.getElem?_eq_getElem]
      rfl
    · obtain ⟨i, rfl⟩ : ∃ i, j = (k + 1) * 3 + i := ⟨j - (k + 1) * 3, by omega⟩
      have h3 := World.cell?_setCells_in g F2 ((k + 1) * 3) w.drew (fun t ht => by
        show (w.cell? _).isSome = true
        rw [Hb.out.cellIs, Array.getElem?_eq_getElem (by rw [Hcs.out]; omega)]; rfl) i (by omega)
      rw [World.cell?_setCells_out _ _ _ _ _ (fun _ _ => .inr (by show k * 3 + 3 ≤ (k + 1) * 3 + i; omega)), ← Hd.out, h3, List.getElem?_append_right (by omega), hl1, List.getElem?_append_right (by show 3 ≤ _; omega), ← List.getElem?_eq_getElem]
      congr 1
      show i = (k + 1) * 3 + i - k * 3 - 3
      omega

theorem zero_len (m : Nat) : (Builtin.zeroCells #[Value.string ⟨#[]⟩, .int .i64 0, .string ⟨#[]⟩] m).size = m * 3 := by simp [Builtin.zeroCells]

set_option maxHeartbeats 4000000 in
set_option maxRecDepth 100000 in
theorem Ins_grow (base g k : Nat) (vb : Nat) (w0 w : World) (hE0 : Ext w0 w) (hb0 : w0.heap.size ≤ base) (hbw : base ≤ w.heap.size) (hrow : w.ownsRow base 33 3 (.slice (some ⟨g, 0, none⟩) xs.length xs.length) xs.length (flatE xs)) (hl : xs.length ≤ 1000000)
    (hk : k < xs.length) (hvb : Blk w vb 33 #[.string x.path, .int .i64 x.kind, .string x.data]) :
    Calls Tryz.prog 231 #[.slice (some ⟨g, 0, none⟩) xs.length xs.length, .int .i64 k, .slice (some ⟨vb, 0, none⟩) 1 1] w (InsAns base w0 (xs.take k ++ x :: xs.drop k)) := by
  obtain ⟨i0, hi, hz0, hz1, hz2⟩ := info_parts info_ent
  obtain ⟨n, hn⟩ : ∃ n, xs.length = n := ⟨_, rfl⟩
  rw [hn] at hrow hl hk ⊢
  have Hn := Lib.hid hn
  obtain ⟨cur, hb, hbase, htk⟩ : ∃ cur, Blk w g 33 cur ∧ base ≤ g ∧ ∀ j, j < n * 3 → w.cell? ⟨g, j, none⟩ = (flatE xs)[j]? := by
    rcases hrow.2 with ⟨e, _⟩ | ⟨g', cap', cur, e, hbase, hh, h3, h4, h5, h6⟩
    · cases e
    · cases e
      exact ⟨cur, hh, hbase, fun j hj => hrow.cellAt j hj⟩
  have hF2 : (flatE (xs.drop k)).length = (n - k) * 3 := by rw [ents_length, List.length_drop, hn]
  have hFF : flatE xs = flatE (xs.take k) ++ flatE (xs.drop k) := by rw [← flat_app2, List.take_append_drop]
  have hF1 : (flatE (xs.take k)).length = k * 3 := by rw [ents_length, List.length_take, hn, Nat.min_eq_left (by omega)]
  have Hb := Lib.hid hb
  have Hvb := Lib.hid hvb
  have hgw := hb.lt
  have hvw := hvb.lt
  have hkn : k ≤ n := by omega
  obtain ⟨F1, hF1e⟩ : ∃ F1, flatE (xs.take k) = F1 := ⟨_, rfl⟩
  obtain ⟨F2, hF2e⟩ : ∃ F2, flatE (xs.drop k) = F2 := ⟨_, rfl⟩
  have ho1 : ∀ v ∈ F2, v.oneCell' = true := by rw [← hF2e]; exact ents_one _
  rw [hF1e] at hF1
  rw [hF2e] at hF2
  have HF1 : Hid (∀ j, j < k * 3 → w.cell? ⟨g, j, none⟩ = F1[j]?) := Lib.hid fun j hj => by
    rw [htk j (by omega), hFF, hF1e, List.getElem?_append_left (by omega)]
  have HF2 : Hid (∀ j, j < (n - k) * 3 → w.cell? ⟨g, k * 3 + j, none⟩ = F2[j]?) := Lib.hid fun j hj => by
    rw [htk _ (by omega), hFF, hF1e, hF2e, List.getElem?_append_right (by omega)]
    congr 1
    omega
  have hik : k + (n + 1 - k) = n + 1 := by omega
  have hold : (Builtin.firstCells i0.size k (.slice (some ⟨g, 0, none⟩) k n)).run Tryz.prog w.drew = .ok F1.toArray w.drew := by
    rw [hz1]
    exact run_firstCells_some w.drew 3 k ⟨g, 0, none⟩ k n F1 hF1 fun j v hj => by
      rw [Addr.add_lit, Nat.zero_add]
      exact (HF1.out j (by have := (List.getElem?_eq_some_iff.1 hj).1; omega)).trans hj
  obtain ⟨ROW, hROW⟩ : ∃ ROW : Array Value, ROW = F1.toArray ++ Builtin.zeroCells #[Value.string ⟨#[]⟩, .int .i64 0, .string ⟨#[]⟩] (n + 1 - k) ++ Builtin.zeroCells #[Value.string ⟨#[]⟩, .int .i64 0, .string ⟨#[]⟩] (grownCap w (n + 1) n 33 - (n + 1)) := ⟨_, rfl⟩
  have hkk : (n : Int) + 1 - (k : Int) = ((n + 1 - k : Nat) : Int) := by omega
  have hrz : ∀ ty, (Builtin.append_ #[34, 3] ty #[.slice (some ⟨g, 0, none⟩) k n, .int .i64 ((n : Int) + 1 - (k : Int))]).run Tryz.prog w = .ok (.slice (some ⟨w.heap.size, 0, none⟩) (n + 1) (grownCap w (n + 1) n 33)) (w.drew.alloc (.cells ROW 33)) := fun ty => by
    have h := Lib.run_append_grow_zeros w 34 3 ty 33 i0 _ .i64 .i64 Tryz.underlying34 Tryz.underlying3 hi hz0 (some ⟨g, 0, none⟩) k n F1 hold (n + 1 - k) (by omega) (by omega) (by omega) (by omega) (by rw [hz2]; omega) (by rw [hz2, hik]; exact growslice_fits (by omega) (by omega))
    rw [hik] at h
    rw [hkk, h, hROW]
    rfl
  obtain ⟨G, hG⟩ : ∃ G, grownCap w (n + 1) n 33 = G := ⟨_, rfl⟩
  have hGn : n + 1 ≤ G := by rw [← hG]; exact grownCap_ge w _ _ _
  have hG63 : G ≤ 9223372036854775807 := by
    have := grownCap_le_maxLen w (n + 1) n 33 (by unfold maxLen; omega)
    rw [hG] at this
    unfold maxLen at this
    omega
  have hRs : ROW.size = G * 3 := by
    rw [hROW, hG]
    simp only [Array.size_append, zero_len, List.size_toArray, hF1]
    omega
  have hR1 : ∀ j, j < k * 3 → ROW[j]? = F1[j]? := fun j hj => by
    rw [hROW, Array.append_assoc, Array.getElem?_append_left (by simp [hF1]; exact hj)]
    simp
  rw [hG] at hrz
  obtain ⟨N, hN⟩ : ∃ N, w.heap.size = N := ⟨_, rfl⟩
  obtain ⟨W1, hW1⟩ : ∃ W1, w.drew.alloc (.cells ROW 33) = W1 := ⟨_, rfl⟩
  have hEW : Ext w W1 := by rw [← hW1]; exact ((Ext.refl w).drew).alloc _
  have hbN : Blk W1 N 33 ROW := by rw [← hW1, ← hN]; exact Blk.new w.drew _ _
  rw [hW1, hN] at hrz
  rw [hN] at hgw hvw hbw
  have hb1 := hb.ext hEW
  have hvb1 := hvb.ext hEW
  have hcpA : ∀ (W : World), (∀ x, W.cell? x = W1.cell? x) → (∀ x, W.frozen? x = W1.frozen? x) → ∀ ty dc, (Builtin.copy_ #[34, 34] ty #[.slice (some ⟨N, k * 3, none⟩) (n + 1 - k) dc, .slice (some ⟨vb, 0, none⟩) 1 1]).run Tryz.prog W = .ok (goInt (Nat.min 1 (n + 1 - k))) (W.setCells N (k * 3) [.string x.path, .int .i64 x.kind, .string x.data]) := fun W hWc hWf ty dc =>
    run_copy3 W ty N (k * 3) (n + 1 - k) dc ⟨vb, 0, none⟩ 1 1 _ (by simp only [Nat.min_def, List.length_cons, List.length_nil]; split <;> omega)
      (fun j v hj => by
        rw [Addr.add_lit, hWc, hvb1.cellIs]
        rw [Nat.zero_add]
        simpa using hj)
      (fun j hj => by
        simp only [List.length_cons, List.length_nil] at hj
        rw [hWc, hbN.cellIs, Array.getElem?_eq_getElem (by omega)]; rfl) (fun j hj => by rw [hWf]; exact hbN.frozen _) (by simp [Value.oneCell'])
  obtain ⟨W2, hW2⟩ : ∃ W2, W1.setCells N (k * 3) [.string x.path, .int .i64 x.kind, .string x.data] = W2 := ⟨_, rfl⟩
  obtain ⟨c2, hc2s, hc2b, hc2g⟩ := Blk.setCells [.string x.path, .int .i64 x.kind, .string x.data] (k * 3) W1 ROW hbN
  rw [hW2] at hc2b hc2g
  have hg2 : ∀ j, W2.cell? ⟨g, j, none⟩ = W1.cell? ⟨g, j, none⟩ := fun j => by rw [← hW2, World.cell?_setCells_out _ _ _ _ _ (fun h _ => absurd h (by show g ≠ N; omega))]
  have hg1 : ∀ j, W1.cell? ⟨g, j, none⟩ = w.cell? ⟨g, j, none⟩ := fun j => by rw [hb1.cellIs, hb.cellIs]
  have hcpB : ∀ (W : World), (∀ x, W.cell? x = W2.cell? x) → (∀ x, W.frozen? x = W2.frozen? x) → ∀ ty dc sc, (Builtin.copy_ #[34, 34] ty #[.slice (some ⟨N, (k + 1) * 3, none⟩) (n - k) dc, .slice (some ⟨g, k * 3, none⟩) (n - k) sc]).run Tryz.prog W = .ok (goInt (Nat.min (n - k) (n - k))) (W.setCells N ((k + 1) * 3) F2) := fun W hWc hWf ty dc sc =>
    run_copy3 W ty N ((k + 1) * 3) (n - k) dc ⟨g, k * 3, none⟩ (n - k) sc F2 (by rw [hF2]; simp only [Nat.min_def]; split <;> omega)
      (fun j v hj => by
        have hjl := (List.getElem?_eq_some_iff.1 hj).1
        rw [Addr.add_lit, hWc, hg2, hg1]
        exact (HF2.out j (by omega)).trans hj)
      (fun j hj => by rw [hWc, hc2b.cellIs, Array.getElem?_eq_getElem (by omega)]; rfl) (fun j hj => by rw [hWf]; exact hc2b.frozen _) ho1
  have hw1 : IntKind.i64.wrap ((k : Int) + 1) = (k : Int) + 1 := by rw [IntKind.wrap_i64]; omega
  have hw2 : IntKind.i64.wrap ((n : Int) + 1) = (n : Int) + 1 := by rw [IntKind.wrap_i64]; omega
  have hnk : ((k : Int) == (n : Int)) = false := by rw [beq_eq_false_iff_ne]; omega
  have hroom' : (n : Int) < (n : Int) + 1 := by omega
  have htn : ((k : Int) + 1).toNat = k + 1 := by omega
  have hb1' : (0 : Int) ≤ (k : Int) + 1 := by omega
  have hb3 : (k : Int) ≤ (n : Int) + 1 := by omega
  have hb4 : ¬ (n = k) := by omega
  have hb6 : (k : Int) + 1 ≤ (n : Int) + 1 := by omega
  have hb7 : ¬ (G = k) := by omega
  have hb8 : ¬ (G = k + 1) := by omega
  have hb9 : (k : Int) ≤ (n : Int) := by omega
  have HW2 := Lib.hid hW2
  have Hc2 := Lib.hid hc2b
  have Hg2 := Lib.hid hc2g
  have HEW := Lib.hid hEW
  have HbN := Lib.hid hbN
  have Hc2s := Lib.hid hc2s
  have HR := Lib.hid (And.intro hRs hR1)
  have HF1k := Lib.hid hF1e
  have HF2k := Lib.hid hF2e
  have HN := Lib.hid hN
  have HG := Lib.hid (And.intro hGn hG63)
  clear hn hb hvb hrow hFF htk hF1e hF2e ho1 hik hold hROW hkk hG hRs hR1 hW1 hEW hbN hb1 hvb1 hc2s hc2b hc2g hg1 hg2 hN hgw hvw
  have hcpA1 := hcpA W1 (fun _ => rfl) (fun _ => rfl)
  rw [HW2.out] at hcpA1
  have hcpB1 := hcpB W2.drew (fun _ => rfl) (fun _ => rfl)
  clear hcpA hcpB hW2
  go_enter Tryz.func231, Tryz.ntmps231
  go_wp2_with (first | (at_builtin; refine Lib.wpList_append_run _ rfl _ _ _ _ rfl _ _ rfl rfl _ _ (hrz _) ?_) | (at_builtin; refine wpList_copy_runI _ rfl _ _ 34 34 rfl _ _ rfl rfl (hcpA1 _ _) ?_))
  go_region_law (refine step_copy_runI rfl _ _ 34 34 rfl _ _ (by simp [Act.eval, Act.put]) (by simp [Act.eval, Act.put]) (hcpB1 _ _ _) ?_)
  go_wp2
  go_ret
  obtain ⟨c3, hs3, hb3', hg3⟩ := Blk.setCells F2 ((k + 1) * 3) W2.drew c2 Hc2.out
  refine ⟨_, rfl, ?_, Ext.grown (Ext.grown (hE0.trans HEW.out) Hg2.out (fun j hj => by cases hj; omega)).drew hg3 (fun j hj => by cases hj; omega)⟩
  have hGs := HG.out
  have hRs := HR.out
  rw [ins_len (by rw [Hn.out]; omega), Hn.out, ins_flat, HF2k.out]
  have hl1 : (flatE (xs.take k)).length = k * 3 := by rw [ents_length, List.length_take, Hn.out, Nat.min_eq_left (by omega)]
  refine row_of hb3' (by rw [hs3, Hc2s.out, hRs.1]) hGs.1 (by unfold maxLen; exact hGs.2) hbw (by rw [List.length_append, List.length_append, hl1, hF2]; show k * 3 + (3 + _) = _; omega) fun j hj => ?_
  rw [List.length_append, List.length_append, hl1, hF2] at hj
  have hj : j < k * 3 + (3 + (n - k) * 3) := hj
  rw [← List.getElem?_eq_getElem (by rw [List.length_append, List.length_append, hl1, hF2]; exact hj)]
  by_cases h1 : j < k * 3
  · rw [World.cell?_setCells_out _ _ _ _ _ (fun _ _ => .inl (by show j < (k + 1) * 3; omega))]
    show W2.cell? _ = _
    rw [← HW2.out, World.cell?_setCells_out _ _ _ _ _ (fun _ _ => .inl h1), HbN.out.cellIs, List.getElem?_append_left (by omega), HF1k.out]
    exact hRs.2 j h1
  · by_cases h2 : j < k * 3 + 3
    · obtain ⟨i, rfl⟩ : ∃ i, j = k * 3 + i := ⟨j - k * 3, by omega⟩
      have h3 := World.cell?_setCells_in N [.string x.path, .int .i64 x.kind, .string x.data] (k * 3) W1 (fun t ht => by
        simp only [List.length_cons, List.length_nil] at ht
        rw [HbN.out.cellIs, Array.getElem?_eq_getElem (by rw [hRs.1]; omega)]; rfl) i (by show i < 3; omega)
      rw [World.cell?_setCells_out _ _ _ _ _ (fun _ _ => .inl (by show k * 3 + i < (k + 1) * 3; omega))]
      show W2.cell? _ = _
      rw [← HW2.out, h3, List.getElem?_append_right (by omega), hl1, show k * 3 + i - k * 3 = i by omega, List.getElem?_append_left (by show i < 3; omega)]
      rw [← List.getElem?_eq_getElem]
      rfl
    · obtain ⟨i, rfl⟩ : ∃ i, j = (k + 1) * 3 + i := ⟨j - (k + 1) * 3, by omega⟩
      have h3 := World.cell?_setCells_in N F2 ((k + 1) * 3) W2.drew (fun t ht => by
        show (W2.cell? _).isSome = true
        rw [Hc2.out.cellIs, Array.getElem?_eq_getElem (by rw [Hc2s.out, hRs.1]; omega)]; rfl) i (by omega)
      rw [h3, List.getElem?_append_right (by omega), hl1, List.getElem?_append_right (by show 3 ≤ _; omega), ← List.getElem?_eq_getElem]
      congr 1
      show i = (k + 1) * 3 + i - k * 3 - 3
      omega

/-- slices.Insert: one entry at a place. -/
theorem InsE_any (base : Nat) (v : Value) (k vb : Nat) (w0 w : World) (hE0 : Ext w0 w) (hb0 : w0.heap.size ≤ base) (hbw : base ≤ w.heap.size) (hrow : w.ownsRow base 33 3 v xs.length (flatE xs)) (hl : xs.length ≤ 1000000)
    (hk : k ≤ xs.length) (hvb : Blk w vb 33 #[.string x.path, .int .i64 x.kind, .string x.data]) (hne : v.ownBlock ≠ some vb) :
    Calls Tryz.prog 231 #[v, .int .i64 k, .slice (some ⟨vb, 0, none⟩) 1 1] w (InsAns base w0 (xs.take k ++ x :: xs.drop k)) := by
  by_cases hkn : k = xs.length
  · subst hkn
    have := Ins_end base v vb w0 w hE0 hb0 hbw hrow hl hvb
    rwa [List.take_length, List.drop_length]
  · rcases hrow.2 with ⟨rfl, h0⟩ | ⟨g, cap, cur, rfl, _, _, h3, _⟩
    · omega
    · by_cases hc : xs.length < cap
      · exact Ins_room base g cap k vb w0 w hE0 hb0 hrow hl (by omega) hc hvb (fun e => hne (by rw [e]; rfl))
      · have : cap = xs.length := by omega
        subst this
        exact Ins_grow base g k vb w0 w hE0 hb0 hbw hrow hl (by omega) hvb
end Go.Proofs.YtknfaabhlcdeoaaGreatDoor
