/- The document's Names: the names in a directory of a tree, rising; and of a stack. -/
import Derived.Test.YtknfaabhlcdeoaaGreatDoorRAt
import Derived.Deep.RegionLaw
namespace Go.Proofs.YtknfaabhlcdeoaaGreatDoor
open Go Go.RowKit Go.Shelf Go.Proofs

/-- An append of texts as a step of a region that draws its order. -/
theorem stepS {w : World} {ops : Array Oper} {o : Oper} {a : Act} {K : Act → World → Prop} {Q : Exit → Act → World → Prop} {E : Prop} (hgd : o.guard = none) (s x : Operand)
    (ho : o.op = .call { callee := .builtin .append, args := #[s, x], argTypes := #[27, 27] }) (base : Nat) (v : Value) (n : Nat) (xs : List Value) (hown : w.ownsRow base 9 1 v n xs) (hs : a.eval s = v)
    (ad : Addr) (m c : Nat) (news : List Value) (hx : a.eval x = .slice (some ad) m c) (hl : news.length = m) (hnews : ∀ j u, news[j]? = some u → w.cell? (ad.add j) = some u) (h1 : ∀ u ∈ news, u.oneCell' = true)
    (hn : n + m ≤ 1000000) (hbase : base ≤ w.heap.size)
    (h : ∀ v' w', w'.ownsRow base 9 1 v' (n + m) (xs ++ news) → w.grownBy w' v.ownBlock → K (a.put o.dst v') w') : if Region.wanted o (yielded ops a.tmps) = true then Oper.wp Tryz.prog o a w K Q else E := by
  obtain ⟨i0, hi, hz0, hz1, hz2⟩ := info_parts info_strR
  have hw : Region.wanted o (yielded ops a.tmps) = true := by simp [Region.wanted, hgd]
  rw [if_pos hw]
  exact wp_append_own w s x 27 ho base 9 i0 (.string ⟨#[]⟩) 1 16 Tryz.underlying27 hi hz0 hz1 hz2 rfl (by decide) v n xs hs hown ad m c news hx (by omega) hnews h1 (by unfold maxLen; omega) (by omega) hbase fun v' w' h2 h3 _ => h v' w' h2 h3

theorem stepS_nil {w : World} {ops : Array Oper} {o : Oper} {a : Act} {K : Act → World → Prop} {Q : Exit → Act → World → Prop} {E : Prop} (hgd : o.guard = none) (s x : Operand)
    (ho : o.op = .call { callee := .builtin .append, args := #[s, x], argTypes := #[27, 27] }) (base : Nat) (v : Value) (n : Nat) (xs : List Value) (hown : w.ownsRow base 9 1 v n xs) (hs : a.eval s = v) (hx : a.eval x = .slice none 0 0)
    (h : K (a.put o.dst v) w) : if Region.wanted o (yielded ops a.tmps) = true then Oper.wp Tryz.prog o a w K Q else E := by
  obtain ⟨i0, hi, hz0, hz1, hz2⟩ := info_parts info_strR
  have hw : Region.wanted o (yielded ops a.tmps) = true := by simp [Region.wanted, hgd]
  rw [if_pos hw]
  have hrun := run_append_owned_none (P := Tryz.prog) (w := w) base 27 o.type 9 i0 1 Tryz.underlying27 hi v n xs hown
  unfold Oper.wp
  simp [execOp, ho, resolve, invoke, builtin, hs, hx, hrun, Result.andThen]
  exact h

theorem inT_next11 {t : List Ent} {p : ByteArray} {k : Nat} (hh : k < t.length) : inT (t.take (k + 1)) p = inT (t.take k) p ++ (inP p t[k]).toList := by
  rw [inT, met_in p hh]
  rfl

/-- The next name stands behind all that are there. -/
theorem inT_last {t : List Ent} {p z : ByteArray} {k : Nat} (hr : Rising t) (hh : k < t.length) (hz : inP p t[k] = some z) : ∀ y ∈ inT (t.take k) p, lt y z = true := by
  intro y hy
  have h := inT_sorted (take_rising hr (k + 1)) p
  rw [inT_next11 hh, hz] at h
  exact (List.pairwise_append.1 h).2.2 y hy z (by simp)

def RnRel (t : List Ent) (p : ByteArray) (n : Nat) (w : World) (v5 v6 : Value) (wr : World) : Prop :=
  ∃ k : Nat, v6 = .int .i64 k ∧ k ≤ n ∧ wr.ownsRow w.heap.size 9 1 v5 (inT (t.take k) p).length ((inT (t.take k) p).map Value.string) ∧ Ext w wr
theorem rn_next {t : List Ent} {p : ByteArray} {n k : Nat} {w W : World} {v5 : Value} {r : List ByteArray} (hlt : k < n) (hr : inT (t.take (k + 1)) p = r) (hrow : W.ownsRow w.heap.size 9 1 v5 r.length (r.map Value.string)) (hE : Ext w W) :
    RnRel t p n w v5 (.int .i64 ((k : Int) + 1)) W ∧ n - (intOf (.int .i64 ((k : Int) + 1))).toNat < n - (intOf (.int .i64 (k : Int))).toNat :=
  ⟨⟨k + 1, by simp, by omega, by rw [hr]; exact hrow, hE⟩, by simp [intOf]; omega⟩

theorem own_zero {W : World} {base b : Nat} (hb : Blk W b 9 #[]) (h : base ≤ b) : W.ownsRow base 9 1 (.slice (some ⟨b, 0, none⟩) 0 0) 0 [] :=
  ⟨rfl, .inr ⟨b, 0, #[], rfl, h, hb, Nat.le_refl _, by decide, rfl, rfl⟩⟩
theorem Blk.grown1 {W W' W2 : World} {b : Nat} {t : TypeId} {cs : Array Value} {o : Option Nat} (hb : Blk W b t cs) (hg : W2.grownBy W' o) (hE : Ext W W2) (hne : o ≠ some b) : Blk W' b t cs := by
  have h2 := hb.ext hE
  have := hg.block b h2.lt (fun e => hne e.symm)
  rw [Blk] at h2 ⊢
  rw [this, h2]
def NkRel (m : Nat) (w : World) (v : Value) (wr : World) : Prop := ∃ j : Nat, v = .int .i64 j ∧ j ≤ m ∧ Ext w wr
theorem own_slice11 {w : World} {base e size n : Nat} {A : Option Addr} {c : Nat} {xs : List Value} (h : w.ownsRow base e size (.slice A n c) n xs) (hn : 0 < n) : ∃ g, A = some ⟨g, 0, none⟩ ∧ base ≤ g := by
  rcases h.2 with ⟨_, h0⟩ | ⟨g, cap, cur, hv, hb, _⟩
  · omega
  · simp only [Value.slice.injEq] at hv
    exact ⟨g, hv.1, hb⟩

set_option maxHeartbeats 8000000 in
set_option maxRecDepth 20000 in
theorem RNam_any (v : Value) (t : List Ent) (p : ByteArray) (w : World) (hv : RdE w v t) (ht : treeOk t = true) :
    Calls Tryz.prog 61 #[v, .string p] w fun e w' => ∃ v', e = .returned v' ∧ RdS w' v' (inT t p) ∧ Ext w w' := by
  obtain ⟨htl, hr, hall⟩ := treeOk_iff.1 ht
  obtain ⟨n, hn⟩ : ∃ n, n = t.length := ⟨_, rfl⟩
  have Hn := Lib.hid hn
  obtain ⟨A, c, rfl, hc1, hc2, Hcell⟩ := rdE_form hv hn
  rw [← hn] at htl
  have Hr := Lib.hid hr
  have Hall := Lib.hid hall
  clear hn hv ht hr hall
  go_enter Tryz.func61, Tryz.ntmps61
  go_wp2
  go_loopw [5, 6] (fun v5 v6 wr => RnRel t p n w v5 v6 wr) (fun _ v6 _ => n - (intOf v6).toNat)
  case atStart => exact ⟨0, rfl, Nat.zero_le _, World.ownsRow_nil _ _ _ _, Ext.refl _⟩
  case round =>
    obtain ⟨k, rfl, hkn, hrow, hE⟩ := hrel
    by_cases hlt : k < n
    · have hh : k < t.length := by have := Hn.out; omega
      obtain ⟨b, o, rfl, hcell⟩ := Hcell.out (List.ne_nil_of_length_pos (by omega))
      obtain ⟨q0, q1, q2, hf⟩ := hcell k hh
      obtain ⟨x, hx⟩ : ∃ x, t[k]'hh = x := ⟨_, rfl⟩
      rw [hx] at q0 q1 q2 hf
      have g0 := hE.cell q0
      obtain ⟨ys, z, hnm, e1, e2, e3, e4, e5⟩ := ent_names (Hall.out x (by rw [← hx]; exact List.getElem_mem hh)).1
      clear e1 e2 e3 e4 e5
      have hin : inP p x = if pathOf ys = p then some z else none := by
        rw [inP, hnm]
        simp
      have hnx := inT_next11 (p := p) hh
      rw [hx] at hnx
      have HP := fun W => RParent_any x.path ys z W hf.1 hnm
      have HS : ∀ W, Calls Tryz.prog 69 #[.string x.path] W fun e w' => ∃ v, e = .returned (.tuple #[v, .bool true]) ∧ RdS w' v (ys ++ [z]) ∧ Ext W w' := fun W => (RSplit_any x.path hf.1 W).mono fun e w' h => by
        rcases h with ⟨xs, v, h1, h2, h3, h4⟩ | ⟨h1, _⟩
        · rw [hnm] at h1
          cases h1
          exact ⟨v, h2, h3, h4⟩
        · rw [hnm] at h1
          cases h1
      have hpe := path_eqR (pathOf ys) p
      have Hlast := Lib.hid fun h => inT_last (p := p) (z := z) Hr.out hh (by rw [hx]; exact h)
      have hzs : z.size ≤ 8 := nameB_size (by
        have := (ValN.of hnm).1.1
        rw [List.all_append, Bool.and_eq_true] at this
        simpa using this.2)
      obtain ⟨q, hq⟩ : ∃ q, pathOf ys = q := ⟨_, rfl⟩
      rw [hq] at HP hpe hin
      have Hq0 := Lib.hid q0
      have Hrow := Lib.hid hrow
      clear q0 q1 q2 hcell hf hnm hx hq hrow
      by_cases hqp : q = p
      · rw [if_pos hqp] at hin
        rw [decide_eq_true hqp] at hpe
        rw [hin] at hnx
        have Hnx := Lib.hid hnx
        have Hlst := Lib.hid (Hlast.out hin)
        clear hin hnx hqp Hlast
        obtain ⟨m, hm⟩ : ∃ m, (inT (t.take k) p).length = m := ⟨_, rfl⟩
        have hm2 : m ≤ 1024 := by
          have h1 := List.length_filterMap_le (inP p) (t.take k)
          rw [List.length_take] at h1
          have h2 : (List.filterMap (inP p) (t.take k)).length = m := hm
          omega
        have Hrow := Lib.hid (by have h := Hrow.out; rw [hm] at h; exact h)
        have Hm := Lib.hid hm
        clear hm
        obtain ⟨A5, c5, rfl⟩ := own_form Hrow.out
        go_upto_region 7 with (first
          | (go_at_call 108; (with_reducible refine (HP _).mono ?_); rintro e W6 ⟨rfl, hE6⟩; have g0 := hE6.cell g0)
          | (go_at_call 69; (with_reducible refine (HS _).mono ?_); rintro e W7 ⟨v7, rfl, hv7, hE7⟩))
        have hE7w : Ext wr W7 := hE6.trans hE7
        have hE7t : Ext w W7 := hE.trans hE7w
        obtain ⟨b7, o7, c7, rfl, h71, h72, hc7⟩ := hv7.open_ (by simp)
        have hz7 := hc7 ys.length z (by simp)
        obtain ⟨l7, hl7⟩ : ∃ l7, ys.length = l7 := ⟨_, rfl⟩
        rw [hl7] at hz7
        rw [show (ys ++ [z]).length = l7 + 1 by rw [List.length_append, List.length_singleton, hl7]] at h71 ⊢
        clear hc7 hl7
        have hw7 : IntKind.i64.wrap (((l7 + 1 : Nat) : Int) - 1) = (l7 : Int) := by
          rw [IntKind.wrap_i64]
          omega
        have hrow7 := Lib.hid (own_ext Hrow.out hE7w)
        clear hE6 hE7 g0 hv7
        obtain ⟨L, hL⟩ : ∃ L, inT (t.take k) p = L := ⟨_, rfl⟩
        have hLz : ∀ y ∈ L, lt y z = true ∧ y.size ≤ 8 := by
          intro y hy
          rw [← hL] at hy
          refine ⟨Hlst.out y hy, ?_⟩
          rw [inT, List.mem_filterMap] at hy
          obtain ⟨x, _, h⟩ := hy
          exact nameB_size (inP_child h).2
        have HLz := Lib.hid hLz
        rw [hL] at Hnx Hm
        have hrow7 : Hid (W7.ownsRow w.heap.size 9 1 (.slice A5 m c5) m (L.map Value.string)) := by rw [← hL]; exact hrow7
        clear hL hLz Hlst Hrow
        go_upto_region 9 with (fail)
        go_loopw [10] (fun v10 wr2 => NkRel m W7 v10 wr2) (fun v10 _ => m - (intOf v10).toNat)
        case atStart => exact ⟨0, rfl, Nat.zero_le _, Ext.refl _⟩
        case round =>
          obtain ⟨j, rfl, hjm, hEj⟩ := hrel
          by_cases hj : j < m
          · obtain ⟨g5, rfl, hg5⟩ := own_slice11 hrow7.out (by omega)
            have hjL : j < L.length := by have := Hm.out; omega
            obtain ⟨y, hy⟩ : ∃ y, L[j]'hjL = y := ⟨_, rfl⟩
            have hyz := HLz.out y (by rw [← hy]; exact List.getElem_mem hjL)
            have c5j : W7.cell? ⟨g5, j, none⟩ = some (.string y) := (hrow7.out.cellAt j (by omega)).trans (by rw [List.getElem?_map, List.getElem?_eq_getElem hjL, hy, Option.map_some])
            have c5j := hEj.cell c5j
            have HL := fun W => RLess_any y z W (by omega) (by omega)
            rw [hyz.1] at HL
            clear hyz hy
            go_wp2_with (go_at_call 107; (with_reducible refine (HL _).mono ?_); rintro e W9 ⟨rfl, hE9⟩)
            exact ⟨⟨j + 1, by simp, by omega, hEj.trans hE9⟩, by simp [intOf]; omega⟩
          · have hjm2 : j = m := by omega
            subst hjm2
            go_upto_region 11 with (fail)
            have hrw := own_ext hrow7.out hEj
            have hN : Hid (w.heap.size ≤ wr.heap.size) := Lib.hid (hE7t.trans hEj).size
            have hEw := hE7t.trans hEj
            rcases hrw.2 with ⟨hA, h0⟩ | ⟨g5, cap, cur, hv, hg5, _, hcap, _⟩
            · simp only [Value.slice.injEq] at hA
              obtain ⟨rfl, rfl, rfl⟩ := hA
              clear h0
              have hL0 : L = [] := List.length_eq_zero_iff.1 Hm.out
              subst hL0
              have zA : ∀ W, Ext (wr.alloc (.cells #[] 9)) W → W.ownsRow w.heap.size 9 1 (.slice (some ⟨wr.heap.size, 0, none⟩) 0 0) 0 [] := fun W h => own_zero ((Blk.new wr 9 #[]).ext h) hN.out
              have zC : ∀ W, Ext ((wr.alloc (.cells #[.string z] 9)).alloc (.cells #[] 9)) W → W.ownsRow w.heap.size 9 1 (.slice (some ⟨wr.heap.size + 1, 0, none⟩) 0 0) 0 [] := fun W h => own_zero (by simpa using (Blk.new (wr.alloc (.cells #[.string z] 9)) 9 #[]).ext h) (by have := hN.out; omega)
              have nA : ∀ W, Ext ((wr.alloc (.cells #[] 9)).alloc (.cells #[.string z] 9)) W → ∀ j u, [Value.string z][j]? = some u → W.cell? ((⟨wr.heap.size + 1, 0, none⟩ : Addr).add j) = some u := fun W h => World.news_of_block (cs := #[.string z]) (t := 9) (fr := (0, 0)) (by have h2 := (Blk.new (wr.alloc (.cells #[] 9)) 9 #[.string z]).ext h; rw [World.size_alloc] at h2; exact h2)
              have nC : ∀ W, Ext (wr.alloc (.cells #[.string z] 9)) W → ∀ j u, [Value.string z][j]? = some u → W.cell? ((⟨wr.heap.size, 0, none⟩ : Addr).add j) = some u := fun W h => World.news_of_block (cs := #[.string z]) (t := 9) (fr := (0, 0)) ((Blk.new wr 9 #[.string z]).ext h)
              go_region_law (first
                | (refine stepS_nil rfl _ _ rfl w.heap.size _ 0 [] (zA _ (by first | ((repeat (first | exact Ext.refl _ | assumption | refine Ext.alloc ?_ _ | refine Ext.drew ?_ | refine Ext.drewN ?_ _ | refine Ext.setCell ?_ (by first | omega | (simp; done) | (simp; omega)) _ | refine Ext.trans ?_ (by assumption))); done) | fail)) (by first | (simp [Act.eval]; done) | fail) (by first | (simp [Act.eval]; done) | fail) ?_)
                | (refine stepS_nil rfl _ _ rfl w.heap.size _ 0 [] (zC _ (by first | ((repeat (first | exact Ext.refl _ | assumption | refine Ext.alloc ?_ _ | refine Ext.drew ?_ | refine Ext.drewN ?_ _ | refine Ext.setCell ?_ (by first | omega | (simp; done) | (simp; omega)) _ | refine Ext.trans ?_ (by assumption))); done) | fail)) (by first | (simp [Act.eval]; done) | fail) (by first | (simp [Act.eval]; done) | fail) ?_)
                | (refine stepS rfl _ _ rfl w.heap.size _ 0 [] (zA _ (by first | ((repeat (first | exact Ext.refl _ | assumption | refine Ext.alloc ?_ _ | refine Ext.drew ?_ | refine Ext.drewN ?_ _ | refine Ext.setCell ?_ (by first | omega | (simp; done) | (simp; omega)) _ | refine Ext.trans ?_ (by assumption))); done) | fail)) (by first | (simp [Act.eval]; done) | fail) ⟨wr.heap.size + 1, 0, none⟩ 1 1 [.string z] (by first | (simp [Act.eval]; done) | fail) rfl (nA _ (by first | ((repeat (first | exact Ext.refl _ | assumption | refine Ext.alloc ?_ _ | refine Ext.drew ?_ | refine Ext.drewN ?_ _ | refine Ext.setCell ?_ (by first | omega | (simp; done) | (simp; omega)) _ | refine Ext.trans ?_ (by assumption))); done) | fail)) (by simp [Value.oneCell']) (by decide) (by simp; have := hN.out; omega) ?_; intro v8 W8 hown8 hgrow8; have hE8 : Ext w W8 := Ext.grown (by first | ((repeat (first | exact Ext.refl _ | assumption | refine Ext.alloc ?_ _ | refine Ext.drew ?_ | refine Ext.drewN ?_ _ | refine Ext.setCell ?_ (by first | omega | (simp; done) | (simp; omega)) _ | refine Ext.trans ?_ (by assumption))); done) | fail) hgrow8 (fun i hi => by simp [Value.ownBlock] at hi; have := hN.out; omega))
                | (refine stepS rfl _ _ rfl w.heap.size _ 0 [] (zC _ (by first | ((repeat (first | exact Ext.refl _ | assumption | refine Ext.alloc ?_ _ | refine Ext.drew ?_ | refine Ext.drewN ?_ _ | refine Ext.setCell ?_ (by first | omega | (simp; done) | (simp; omega)) _ | refine Ext.trans ?_ (by assumption))); done) | fail)) (by first | (simp [Act.eval]; done) | fail) ⟨wr.heap.size, 0, none⟩ 1 1 [.string z] (by first | (simp [Act.eval]; done) | fail) rfl (nC _ (by first | ((repeat (first | exact Ext.refl _ | assumption | refine Ext.alloc ?_ _ | refine Ext.drew ?_ | refine Ext.drewN ?_ _ | refine Ext.setCell ?_ (by first | omega | (simp; done) | (simp; omega)) _ | refine Ext.trans ?_ (by assumption))); done) | fail)) (by simp [Value.oneCell']) (by decide) (by simp; have := hN.out; omega) ?_; intro v8 W8 hown8 hgrow8; have hE8 : Ext w W8 := Ext.grown (by first | ((repeat (first | exact Ext.refl _ | assumption | refine Ext.alloc ?_ _ | refine Ext.drew ?_ | refine Ext.drewN ?_ _ | refine Ext.setCell ?_ (by first | omega | (simp; done) | (simp; omega)) _ | refine Ext.trans ?_ (by assumption))); done) | fail) hgrow8 (fun i hi => by simp [Value.ownBlock] at hi; have := hN.out; omega))
                | (refine stepS_nil rfl _ _ rfl w.heap.size v8 1 [.string z] hown8 (by first | (simp [Act.eval]; done) | fail) (by first | (simp [Act.eval]; done) | fail) ?_))
              all_goals go_wp2
              all_goals exact rn_next hlt Hnx.out (by simpa using hown8) hE8
            · simp only [Value.slice.injEq] at hv
              obtain ⟨rfl, _, rfl⟩ := hv
              have zA : ∀ W, Ext (wr.alloc (.cells #[] 9)) W → W.ownsRow w.heap.size 9 1 (.slice (some ⟨wr.heap.size, 0, none⟩) 0 0) 0 [] := fun W h => own_zero ((Blk.new wr 9 #[]).ext h) hN.out
              have zC : ∀ W, Ext ((wr.alloc (.cells #[.string z] 9)).alloc (.cells #[] 9)) W → W.ownsRow w.heap.size 9 1 (.slice (some ⟨wr.heap.size + 1, 0, none⟩) 0 0) 0 [] := fun W h => own_zero (by simpa using (Blk.new (wr.alloc (.cells #[.string z] 9)) 9 #[]).ext h) (by have := hN.out; omega)
              have nG : ∀ W, Ext wr W → ∀ i u, (L.map Value.string)[i]? = some u → W.cell? ((⟨g5, 0, none⟩ : Addr).add i) = some u := fun W h i u hi => by
                have h1 := (List.getElem?_eq_some_iff.1 hi).1
                have h2 : i < j * 1 := by rw [List.length_map, Hm.out] at h1; omega
                rw [Addr.add_lit, Nat.zero_add, (own_ext hrw h).cellAt i h2, hi]
              have hLl : (L.map Value.string).length = j := by rw [List.length_map, Hm.out]
              have hL1 : ∀ u ∈ L.map Value.string, u.oneCell' = true := fun u hu => by
                obtain ⟨y, _, rfl⟩ := List.mem_map.1 hu
                rfl
              have bA : Blk ((wr.alloc (.cells #[] 9)).alloc (.cells #[.string z] 9)) (wr.heap.size + 1) 9 #[.string z] := by
                have h2 := Blk.new (wr.alloc (.cells #[] 9)) 9 #[.string z]
                rw [World.size_alloc] at h2
                exact h2
              have bC : Blk ((wr.alloc (.cells #[.string z] 9)).alloc (.cells #[] 9)) (wr.heap.size) 9 #[.string z] := (Blk.new wr 9 #[.string z]).ext ((Ext.refl _).alloc _)
              have hfin : ∀ (W : World) (v : Value) (q r : List Value), q = L.map Value.string → r = [] → W.ownsRow w.heap.size 9 1 v (0 + j + 1 + 0) ([] ++ q ++ [.string z] ++ r) → W.ownsRow w.heap.size 9 1 v (L ++ (some z).toList).length ((L ++ (some z).toList).map Value.string) := fun W v q r e1 e2 h => by
                subst e1 e2
                simpa [Hm.out] using h
              have Hc := Lib.hid hcap
              rcases Nat.lt_or_eq_of_le hcap with hlc | hlc
              · have hne : ¬ c5 = j := by omega
                go_region_law (first
                | (refine stepS rfl _ _ rfl w.heap.size _ 0 [] (zA _ (by first | ((repeat (first | exact Ext.refl _ | assumption | refine Ext.alloc ?_ _ | refine Ext.drew ?_ | refine Ext.drewN ?_ _ | refine Ext.setCell ?_ (by first | omega | (simp; done) | (simp; omega)) _ | refine Ext.trans ?_ (by assumption))); done) | fail)) (by first | (simp [Act.eval]; done) | fail) ⟨g5, 0, none⟩ j c5 (L.map Value.string) (by first | (simp [Act.eval]; done) | fail) hLl (nG _ (by first | ((repeat (first | exact Ext.refl _ | assumption | refine Ext.alloc ?_ _ | refine Ext.drew ?_ | refine Ext.drewN ?_ _ | refine Ext.setCell ?_ (by first | omega | (simp; done) | (simp; omega)) _ | refine Ext.trans ?_ (by assumption))); done) | fail)) hL1 (by omega) (by first | (simp; have := hN.out; omega) | fail) ?_; intro v4 W4 hown4 hgrow4; have hE4 : Ext wr W4 := Ext.grown (by first | ((repeat (first | exact Ext.refl _ | assumption | refine Ext.alloc ?_ _ | refine Ext.drew ?_ | refine Ext.drewN ?_ _ | refine Ext.setCell ?_ (by first | omega | (simp; done) | (simp; omega)) _ | refine Ext.trans ?_ (by assumption))); done) | fail) hgrow4 (fun i hi => by simp [Value.ownBlock] at hi; omega); have hE4w := hEw.trans hE4; have hs4 := hE4.size; have hN4 := hE4w.size; try (have b4 := bA.grown1 hgrow4 (by first | ((repeat (first | exact Ext.refl _ | assumption | refine Ext.alloc ?_ _ | refine Ext.drew ?_ | refine Ext.drewN ?_ _ | refine Ext.setCell ?_ (by first | omega | (simp; done) | (simp; omega)) _ | refine Ext.trans ?_ (by assumption))); done) | fail) (by simp [Value.ownBlock])))
                | (refine stepS rfl _ _ rfl w.heap.size _ 0 [] (zC _ (by first | ((repeat (first | exact Ext.refl _ | assumption | refine Ext.alloc ?_ _ | refine Ext.drew ?_ | refine Ext.drewN ?_ _ | refine Ext.setCell ?_ (by first | omega | (simp; done) | (simp; omega)) _ | refine Ext.trans ?_ (by assumption))); done) | fail)) (by first | (simp [Act.eval]; done) | fail) ⟨g5, 0, none⟩ j c5 (L.map Value.string) (by first | (simp [Act.eval]; done) | fail) hLl (nG _ (by first | ((repeat (first | exact Ext.refl _ | assumption | refine Ext.alloc ?_ _ | refine Ext.drew ?_ | refine Ext.drewN ?_ _ | refine Ext.setCell ?_ (by first | omega | (simp; done) | (simp; omega)) _ | refine Ext.trans ?_ (by assumption))); done) | fail)) hL1 (by omega) (by first | (simp; have := hN.out; omega) | fail) ?_; intro v4 W4 hown4 hgrow4; have hE4 : Ext wr W4 := Ext.grown (by first | ((repeat (first | exact Ext.refl _ | assumption | refine Ext.alloc ?_ _ | refine Ext.drew ?_ | refine Ext.drewN ?_ _ | refine Ext.setCell ?_ (by first | omega | (simp; done) | (simp; omega)) _ | refine Ext.trans ?_ (by assumption))); done) | fail) hgrow4 (fun i hi => by simp [Value.ownBlock] at hi; omega); have hE4w := hEw.trans hE4; have hs4 := hE4.size; have hN4 := hE4w.size; have b4 := bC.grown1 hgrow4 (by first | ((repeat (first | exact Ext.refl _ | assumption | refine Ext.alloc ?_ _ | refine Ext.drew ?_ | refine Ext.drewN ?_ _ | refine Ext.setCell ?_ (by first | omega | (simp; done) | (simp; omega)) _ | refine Ext.trans ?_ (by assumption))); done) | fail) (by simp [Value.ownBlock]))
                | (refine stepS rfl _ _ rfl w.heap.size v4 (0 + j) ([] ++ L.map Value.string) (own_ext hown4 (by first | ((repeat (first | exact Ext.refl _ | assumption | refine Ext.alloc ?_ _ | refine Ext.drew ?_ | refine Ext.drewN ?_ _ | refine Ext.setCell ?_ (by first | omega | (simp; done) | (simp; omega)) _ | refine Ext.trans ?_ (by assumption))); done) | fail)) (by first | (simp [Act.eval]; done) | fail) ⟨wr.heap.size + 1, 0, none⟩ 1 1 [.string z] (by first | (simp [Act.eval]; done) | fail) rfl (World.news_of_block (cs := #[.string z]) (t := 9) (fr := (0, 0)) (b4.ext (by first | ((repeat (first | exact Ext.refl _ | assumption | refine Ext.alloc ?_ _ | refine Ext.drew ?_ | refine Ext.drewN ?_ _ | refine Ext.setCell ?_ (by first | omega | (simp; done) | (simp; omega)) _ | refine Ext.trans ?_ (by assumption))); done) | fail))) (by simp [Value.oneCell']) (by omega) (by first | omega | (simp; omega) | fail) ?_; intro v8 W8 hown8 hgrow8; have hE8 : Ext w W8 := Ext.grown (by first | ((repeat (first | exact Ext.refl _ | assumption | refine Ext.alloc ?_ _ | refine Ext.drew ?_ | refine Ext.drewN ?_ _ | refine Ext.setCell ?_ (by first | omega | (simp; done) | (simp; omega)) _ | refine Ext.trans ?_ (by assumption))); done) | fail) hgrow8 (fun i hi => (hown4.lt i hi).1))
                | (refine stepS rfl _ _ rfl w.heap.size v4 (0 + j) ([] ++ L.map Value.string) (own_ext hown4 (by first | ((repeat (first | exact Ext.refl _ | assumption | refine Ext.alloc ?_ _ | refine Ext.drew ?_ | refine Ext.drewN ?_ _ | refine Ext.setCell ?_ (by first | omega | (simp; done) | (simp; omega)) _ | refine Ext.trans ?_ (by assumption))); done) | fail)) (by first | (simp [Act.eval]; done) | fail) ⟨wr.heap.size, 0, none⟩ 1 1 [.string z] (by first | (simp [Act.eval]; done) | fail) rfl (World.news_of_block (cs := #[.string z]) (t := 9) (fr := (0, 0)) (b4.ext (by first | ((repeat (first | exact Ext.refl _ | assumption | refine Ext.alloc ?_ _ | refine Ext.drew ?_ | refine Ext.drewN ?_ _ | refine Ext.setCell ?_ (by first | omega | (simp; done) | (simp; omega)) _ | refine Ext.trans ?_ (by assumption))); done) | fail))) (by simp [Value.oneCell']) (by omega) (by first | omega | (simp; omega) | fail) ?_; intro v8 W8 hown8 hgrow8; have hE8 : Ext w W8 := Ext.grown (by first | ((repeat (first | exact Ext.refl _ | assumption | refine Ext.alloc ?_ _ | refine Ext.drew ?_ | refine Ext.drewN ?_ _ | refine Ext.setCell ?_ (by first | omega | (simp; done) | (simp; omega)) _ | refine Ext.trans ?_ (by assumption))); done) | fail) hgrow8 (fun i hi => (hown4.lt i hi).1))
                | (refine stepS rfl _ _ rfl w.heap.size v4 (0 + j) ([] ++ L.map Value.string) (own_ext hown4 (by first | ((repeat (first | exact Ext.refl _ | assumption | refine Ext.alloc ?_ _ | refine Ext.drew ?_ | refine Ext.drewN ?_ _ | refine Ext.setCell ?_ (by first | omega | (simp; done) | (simp; omega)) _ | refine Ext.trans ?_ (by assumption))); done) | fail)) (by first | (simp [Act.eval]; done) | fail) ⟨W4.heap.size, 0, none⟩ 1 1 [.string z] (by first | (simp [Act.eval]; done) | fail) rfl (World.news_of_block (cs := #[.string z]) (t := 9) (fr := (0, 0)) ((Blk.new W4 _ _).ext (by first | ((repeat (first | exact Ext.refl _ | assumption | refine Ext.alloc ?_ _ | refine Ext.drew ?_ | refine Ext.drewN ?_ _ | refine Ext.setCell ?_ (by first | omega | (simp; done) | (simp; omega)) _ | refine Ext.trans ?_ (by assumption))); done) | fail))) (by simp [Value.oneCell']) (by omega) (by first | omega | (simp; omega) | fail) ?_; intro v8 W8 hown8 hgrow8; have hE8 : Ext w W8 := Ext.grown (by first | ((repeat (first | exact Ext.refl _ | assumption | refine Ext.alloc ?_ _ | refine Ext.drew ?_ | refine Ext.drewN ?_ _ | refine Ext.setCell ?_ (by first | omega | (simp; done) | (simp; omega)) _ | refine Ext.trans ?_ (by assumption))); done) | fail) hgrow8 (fun i hi => (hown4.lt i hi).1))
                | (refine stepS rfl _ _ rfl w.heap.size v8 (0 + j + 1) ([] ++ L.map Value.string ++ [.string z]) (own_ext hown8 (by first | ((repeat (first | exact Ext.refl _ | assumption | refine Ext.alloc ?_ _ | refine Ext.drew ?_ | refine Ext.drewN ?_ _ | refine Ext.setCell ?_ (by first | omega | (simp; done) | (simp; omega)) _ | refine Ext.trans ?_ (by assumption))); done) | fail)) (by first | (simp [Act.eval]; done) | fail) ⟨g5, j, none⟩ 0 (c5 - j) [] (by first | (simp [Act.eval]; done) | fail) rfl (fun i u hi => by simp at hi) (by simp) (by omega) (by first | (simp; done) | (have := hE8.size; omega) | fail) ?_; intro v9 W9 hown9 hgrow9; have hE9 : Ext w W9 := Ext.grown (by first | ((repeat (first | exact Ext.refl _ | assumption | refine Ext.alloc ?_ _ | refine Ext.drew ?_ | refine Ext.drewN ?_ _ | refine Ext.setCell ?_ (by first | omega | (simp; done) | (simp; omega)) _ | refine Ext.trans ?_ (by assumption))); done) | fail) hgrow9 (fun i hi => (hown8.lt i hi).1))
                | (fail))
                all_goals go_wp2
                all_goals exact rn_next hlt Hnx.out (hfin _ _ _ _ rfl rfl hown9) hE9
              · subst hlc
                go_region_law (first
                | (refine stepS rfl _ _ rfl w.heap.size _ 0 [] (zA _ (by first | ((repeat (first | exact Ext.refl _ | assumption | refine Ext.alloc ?_ _ | refine Ext.drew ?_ | refine Ext.drewN ?_ _ | refine Ext.setCell ?_ (by first | omega | (simp; done) | (simp; omega)) _ | refine Ext.trans ?_ (by assumption))); done) | fail)) (by first | (simp [Act.eval]; done) | fail) ⟨g5, 0, none⟩ j j (L.map Value.string) (by first | (simp [Act.eval]; done) | fail) hLl (nG _ (by first | ((repeat (first | exact Ext.refl _ | assumption | refine Ext.alloc ?_ _ | refine Ext.drew ?_ | refine Ext.drewN ?_ _ | refine Ext.setCell ?_ (by first | omega | (simp; done) | (simp; omega)) _ | refine Ext.trans ?_ (by assumption))); done) | fail)) hL1 (by omega) (by first | (simp; have := hN.out; omega) | fail) ?_; intro v4 W4 hown4 hgrow4; have hE4 : Ext wr W4 := Ext.grown (by first | ((repeat (first | exact Ext.refl _ | assumption | refine Ext.alloc ?_ _ | refine Ext.drew ?_ | refine Ext.drewN ?_ _ | refine Ext.setCell ?_ (by first | omega | (simp; done) | (simp; omega)) _ | refine Ext.trans ?_ (by assumption))); done) | fail) hgrow4 (fun i hi => by simp [Value.ownBlock] at hi; omega); have hE4w := hEw.trans hE4; have hs4 := hE4.size; have hN4 := hE4w.size; try (have b4 := bA.grown1 hgrow4 (by first | ((repeat (first | exact Ext.refl _ | assumption | refine Ext.alloc ?_ _ | refine Ext.drew ?_ | refine Ext.drewN ?_ _ | refine Ext.setCell ?_ (by first | omega | (simp; done) | (simp; omega)) _ | refine Ext.trans ?_ (by assumption))); done) | fail) (by simp [Value.ownBlock])))
                | (refine stepS rfl _ _ rfl w.heap.size _ 0 [] (zC _ (by first | ((repeat (first | exact Ext.refl _ | assumption | refine Ext.alloc ?_ _ | refine Ext.drew ?_ | refine Ext.drewN ?_ _ | refine Ext.setCell ?_ (by first | omega | (simp; done) | (simp; omega)) _ | refine Ext.trans ?_ (by assumption))); done) | fail)) (by first | (simp [Act.eval]; done) | fail) ⟨g5, 0, none⟩ j j (L.map Value.string) (by first | (simp [Act.eval]; done) | fail) hLl (nG _ (by first | ((repeat (first | exact Ext.refl _ | assumption | refine Ext.alloc ?_ _ | refine Ext.drew ?_ | refine Ext.drewN ?_ _ | refine Ext.setCell ?_ (by first | omega | (simp; done) | (simp; omega)) _ | refine Ext.trans ?_ (by assumption))); done) | fail)) hL1 (by omega) (by first | (simp; have := hN.out; omega) | fail) ?_; intro v4 W4 hown4 hgrow4; have hE4 : Ext wr W4 := Ext.grown (by first | ((repeat (first | exact Ext.refl _ | assumption | refine Ext.alloc ?_ _ | refine Ext.drew ?_ | refine Ext.drewN ?_ _ | refine Ext.setCell ?_ (by first | omega | (simp; done) | (simp; omega)) _ | refine Ext.trans ?_ (by assumption))); done) | fail) hgrow4 (fun i hi => by simp [Value.ownBlock] at hi; omega); have hE4w := hEw.trans hE4; have hs4 := hE4.size; have hN4 := hE4w.size; have b4 := bC.grown1 hgrow4 (by first | ((repeat (first | exact Ext.refl _ | assumption | refine Ext.alloc ?_ _ | refine Ext.drew ?_ | refine Ext.drewN ?_ _ | refine Ext.setCell ?_ (by first | omega | (simp; done) | (simp; omega)) _ | refine Ext.trans ?_ (by assumption))); done) | fail) (by simp [Value.ownBlock]))
                | (refine stepS rfl _ _ rfl w.heap.size v4 (0 + j) ([] ++ L.map Value.string) (own_ext hown4 (by first | ((repeat (first | exact Ext.refl _ | assumption | refine Ext.alloc ?_ _ | refine Ext.drew ?_ | refine Ext.drewN ?_ _ | refine Ext.setCell ?_ (by first | omega | (simp; done) | (simp; omega)) _ | refine Ext.trans ?_ (by assumption))); done) | fail)) (by first | (simp [Act.eval]; done) | fail) ⟨wr.heap.size + 1, 0, none⟩ 1 1 [.string z] (by first | (simp [Act.eval]; done) | fail) rfl (World.news_of_block (cs := #[.string z]) (t := 9) (fr := (0, 0)) (b4.ext (by first | ((repeat (first | exact Ext.refl _ | assumption | refine Ext.alloc ?_ _ | refine Ext.drew ?_ | refine Ext.drewN ?_ _ | refine Ext.setCell ?_ (by first | omega | (simp; done) | (simp; omega)) _ | refine Ext.trans ?_ (by assumption))); done) | fail))) (by simp [Value.oneCell']) (by omega) (by first | omega | (simp; omega) | fail) ?_; intro v8 W8 hown8 hgrow8; have hE8 : Ext w W8 := Ext.grown (by first | ((repeat (first | exact Ext.refl _ | assumption | refine Ext.alloc ?_ _ | refine Ext.drew ?_ | refine Ext.drewN ?_ _ | refine Ext.setCell ?_ (by first | omega | (simp; done) | (simp; omega)) _ | refine Ext.trans ?_ (by assumption))); done) | fail) hgrow8 (fun i hi => (hown4.lt i hi).1))
                | (refine stepS rfl _ _ rfl w.heap.size v4 (0 + j) ([] ++ L.map Value.string) (own_ext hown4 (by first | ((repeat (first | exact Ext.refl _ | assumption | refine Ext.alloc ?_ _ | refine Ext.drew ?_ | refine Ext.drewN ?_ _ | refine Ext.setCell ?_ (by first | omega | (simp; done) | (simp; omega)) _ | refine Ext.trans ?_ (by assumption))); done) | fail)) (by first | (simp [Act.eval]; done) | fail) ⟨wr.heap.size, 0, none⟩ 1 1 [.string z] (by first | (simp [Act.eval]; done) | fail) rfl (World.news_of_block (cs := #[.string z]) (t := 9) (fr := (0, 0)) (b4.ext (by first | ((repeat (first | exact Ext.refl _ | assumption | refine Ext.alloc ?_ _ | refine Ext.drew ?_ | refine Ext.drewN ?_ _ | refine Ext.setCell ?_ (by first | omega | (simp; done) | (simp; omega)) _ | refine Ext.trans ?_ (by assumption))); done) | fail))) (by simp [Value.oneCell']) (by omega) (by first | omega | (simp; omega) | fail) ?_; intro v8 W8 hown8 hgrow8; have hE8 : Ext w W8 := Ext.grown (by first | ((repeat (first | exact Ext.refl _ | assumption | refine Ext.alloc ?_ _ | refine Ext.drew ?_ | refine Ext.drewN ?_ _ | refine Ext.setCell ?_ (by first | omega | (simp; done) | (simp; omega)) _ | refine Ext.trans ?_ (by assumption))); done) | fail) hgrow8 (fun i hi => (hown4.lt i hi).1))
                | (refine stepS rfl _ _ rfl w.heap.size v4 (0 + j) ([] ++ L.map Value.string) (own_ext hown4 (by first | ((repeat (first | exact Ext.refl _ | assumption | refine Ext.alloc ?_ _ | refine Ext.drew ?_ | refine Ext.drewN ?_ _ | refine Ext.setCell ?_ (by first | omega | (simp; done) | (simp; omega)) _ | refine Ext.trans ?_ (by assumption))); done) | fail)) (by first | (simp [Act.eval]; done) | fail) ⟨W4.heap.size, 0, none⟩ 1 1 [.string z] (by first | (simp [Act.eval]; done) | fail) rfl (World.news_of_block (cs := #[.string z]) (t := 9) (fr := (0, 0)) ((Blk.new W4 _ _).ext (by first | ((repeat (first | exact Ext.refl _ | assumption | refine Ext.alloc ?_ _ | refine Ext.drew ?_ | refine Ext.drewN ?_ _ | refine Ext.setCell ?_ (by first | omega | (simp; done) | (simp; omega)) _ | refine Ext.trans ?_ (by assumption))); done) | fail))) (by simp [Value.oneCell']) (by omega) (by first | omega | (simp; omega) | fail) ?_; intro v8 W8 hown8 hgrow8; have hE8 : Ext w W8 := Ext.grown (by first | ((repeat (first | exact Ext.refl _ | assumption | refine Ext.alloc ?_ _ | refine Ext.drew ?_ | refine Ext.drewN ?_ _ | refine Ext.setCell ?_ (by first | omega | (simp; done) | (simp; omega)) _ | refine Ext.trans ?_ (by assumption))); done) | fail) hgrow8 (fun i hi => (hown4.lt i hi).1))
                | (refine stepS rfl _ _ rfl w.heap.size v8 (0 + j + 1) ([] ++ L.map Value.string ++ [.string z]) (own_ext hown8 (by first | ((repeat (first | exact Ext.refl _ | assumption | refine Ext.alloc ?_ _ | refine Ext.drew ?_ | refine Ext.drewN ?_ _ | refine Ext.setCell ?_ (by first | omega | (simp; done) | (simp; omega)) _ | refine Ext.trans ?_ (by assumption))); done) | fail)) (by first | (simp [Act.eval]; done) | fail) ⟨g5, 0, none⟩ 0 0 [] (by first | (simp [Act.eval]; done) | fail) rfl (fun i u hi => by simp at hi) (by simp) (by omega) (by first | (simp; done) | (have := hE8.size; omega) | fail) ?_; intro v9 W9 hown9 hgrow9; have hE9 : Ext w W9 := Ext.grown (by first | ((repeat (first | exact Ext.refl _ | assumption | refine Ext.alloc ?_ _ | refine Ext.drew ?_ | refine Ext.drewN ?_ _ | refine Ext.setCell ?_ (by first | omega | (simp; done) | (simp; omega)) _ | refine Ext.trans ?_ (by assumption))); done) | fail) hgrow9 (fun i hi => (hown8.lt i hi).1))
                | (fail))
                all_goals go_wp2
                all_goals exact rn_next hlt Hnx.out (hfin _ _ _ _ rfl rfl hown9) hE9
      · rw [if_neg hqp] at hin
        rw [decide_eq_false hqp] at hpe
        rw [hin, Option.toList_none, List.append_nil] at hnx
        have Hnx := Lib.hid hnx
        clear hin hnx hqp
        go_wp2_with (go_at_call 108; (with_reducible refine (HP _).mono ?_); rintro e W6 ⟨rfl, hE6⟩)
        exact rn_next hlt Hnx.out (own_ext Hrow.out hE6) (hE.trans hE6)
    · have hful : t.take k = t := List.take_of_length_le (by have := Hn.out; omega)
      rw [hful] at hrow
      have hlen : (inT t p).length ≤ 1024 := by
        have := List.length_filterMap_le (inP p) t
        have := Hn.out
        show (List.filterMap _ _).length ≤ _
        omega
      have Hrd := Lib.hid (RdS.of_own hrow (by omega))
      clear hful hrow hlen
      go_wp2
      go_ret
      exact ⟨_, rfl, Hrd.out, hE⟩
end Go.Proofs.YtknfaabhlcdeoaaGreatDoor
