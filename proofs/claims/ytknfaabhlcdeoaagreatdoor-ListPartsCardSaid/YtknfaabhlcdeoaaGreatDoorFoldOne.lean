/- fold.put and fold.one: an entry over a tree; slices.BinarySearchFunc, slices.Insert at entries. -/
import Derived.Test.YtknfaabhlcdeoaaGreatDoorUnder
import Derived.Test.YtknfaabhlcdeoaaGreatDoorDelE
import Derived.Test.YtknfaabhlcdeoaaGreatDoorInsE
import Derived.Test.YtknfaabhlcdeoaaGreatDoorLayer
import Derived.Laws.AppendOwnNone
import Derived.Deep.QuietTactic
import Derived.BigQuiet
import Derived.Lib.QuietBelow
namespace Go.Proofs.YtknfaabhlcdeoaaGreatDoor
open Go Go.RowKit Go.Shelf Go.Proofs

/-! ### The closures -/

theorem two_boxes {x y : Ent} {w W' : World} (h : Ext ((w.alloc (.cells #[.string x.path, .int .i64 x.kind, .string x.data] 33)).alloc (.cells #[.string y.path, .int .i64 y.kind, .string y.data] 33)) W') :
    Blk W' w.heap.size 33 #[.string x.path, .int .i64 x.kind, .string x.data] ∧ Blk W' (w.heap.size + 1) 33 #[.string y.path, .int .i64 y.kind, .string y.data] := by
  refine ⟨((Blk.new w _ _).ext ((Ext.refl _).alloc _)).ext h, ?_⟩
  have := Blk.new (w.alloc (.cells #[.string x.path, .int .i64 x.kind, .string x.data] 33)) 33 #[.string y.path, .int .i64 y.kind, .string y.data]
  rw [World.size_alloc] at this
  exact this.ext h

/-- What fold.put's closure answers. -/
def cmpI (a b : ByteArray) : Int := if lt a b = true then -1 else if lt b a = true then 1 else 0
theorem cmpI_lt {a b : ByteArray} (h : lt a b = true) : cmpI a b = -1 := if_pos h
theorem cmpI_gt {a b : ByteArray} (h1 : lt a b = false) (h2 : lt b a = true) : cmpI a b = 1 := by rw [cmpI, if_neg (by rw [h1]; simp), if_pos h2]
theorem cmpI_eq {a b : ByteArray} (h1 : lt a b = false) (h2 : lt b a = false) : cmpI a b = 0 := by rw [cmpI, if_neg (by rw [h1]; simp), if_neg (by rw [h2]; simp)]

set_option maxHeartbeats 2000000 in
theorem put1_any (x y : Ent) (w : World) :
    Calls Tryz.prog 230 #[.agg #[.string x.path, .int .i64 x.kind, .string x.data], .agg #[.string y.path, .int .i64 y.kind, .string y.data]] w fun e w' => e = .returned (.int .i64 (cmpI x.path y.path)) ∧ Ext w w' := by
  have H1 := fun w => Less_any x y w
  have H2 := fun w => Less_any y x w
  rcases h1 : lt x.path y.path with _ | _
  · rw [h1] at H1
    rcases h2 : lt y.path x.path with _ | _
    · rw [h2] at H2
      rw [cmpI_eq h1 h2]
      clear h1 h2
      go_enter Tryz.func230, Tryz.ntmps230
      go_wp2_with (first | (go_at_call 87; ((with_reducible refine (H1 _).mono ?_)); rintro e w1 ⟨rfl, hE1⟩; obtain ⟨b1, b2⟩ := two_boxes hE1; obtain ⟨⟨p0, _⟩, ⟨p1, _⟩, ⟨p2, _⟩⟩ := b1.three; obtain ⟨⟨r0, _⟩, ⟨r1, _⟩, ⟨r2, _⟩⟩ := b2.three) | (go_at_call 87; ((with_reducible refine (H2 _).mono ?_)); rintro e w2 ⟨rfl, hE2⟩))
      go_ret
      exact ⟨rfl, by exact (by repeat (first | exact Ext.refl _ | assumption | refine Ext.alloc ?_ _ | refine Ext.drew ?_ | refine Ext.drewN ?_ _ | refine Ext.setCell ?_ (by first | omega | (simp; done) | (simp; omega)) _ | refine Ext.trans ?_ (by assumption)))⟩
    · rw [h2] at H2
      rw [cmpI_gt h1 h2]
      clear h1 h2
      go_enter Tryz.func230, Tryz.ntmps230
      go_wp2_with (first | (go_at_call 87; ((with_reducible refine (H1 _).mono ?_)); rintro e w1 ⟨rfl, hE1⟩; obtain ⟨b1, b2⟩ := two_boxes hE1; obtain ⟨⟨p0, _⟩, ⟨p1, _⟩, ⟨p2, _⟩⟩ := b1.three; obtain ⟨⟨r0, _⟩, ⟨r1, _⟩, ⟨r2, _⟩⟩ := b2.three) | (go_at_call 87; ((with_reducible refine (H2 _).mono ?_)); rintro e w2 ⟨rfl, hE2⟩))
      go_ret
      exact ⟨rfl, by exact (by repeat (first | exact Ext.refl _ | assumption | refine Ext.alloc ?_ _ | refine Ext.drew ?_ | refine Ext.drewN ?_ _ | refine Ext.setCell ?_ (by first | omega | (simp; done) | (simp; omega)) _ | refine Ext.trans ?_ (by assumption)))⟩
  · rw [h1] at H1
    rw [cmpI_lt h1]
    clear h1
    go_enter Tryz.func230, Tryz.ntmps230
    go_wp2_with (go_at_call 87; ((with_reducible refine (H1 _).mono ?_)); rintro e w1 ⟨rfl, hE1⟩)
    go_ret
    exact ⟨rfl, by exact (by repeat (first | exact Ext.refl _ | assumption | refine Ext.alloc ?_ _ | refine Ext.drew ?_ | refine Ext.drewN ?_ _ | refine Ext.setCell ?_ (by first | omega | (simp; done) | (simp; omega)) _ | refine Ext.trans ?_ (by assumption)))⟩

set_option maxHeartbeats 4000000 in
theorem search3_any (v : Value) (l : List Ent) (y : Ent) (w : World) (hv : RdE w v l) (hs : Rising l) :
    Calls Tryz.prog 229 #[v, .agg #[.string y.path, .int .i64 y.kind, .string y.data], .func (.func 230) #[] #[]] w
      fun e w' => (∃ (k : Nat) (ok : Bool), e = .returned (.tuple #[.int .i64 k, .bool ok]) ∧ AtIs l y.path k ok) ∧ Ext w w' := by
  have hlen := Rd.len hv
  have eg : ∀ args w, (callFunc 230 args).run Tryz.prog w = .ok (.enter 230 args) w := enters_of Tryz.func230 (by kernel_rfl) rfl
  obtain ⟨n, hn⟩ : ∃ n, n = l.length := ⟨_, rfl⟩
  have Hn := Lib.hid hn
  obtain ⟨A, c, rfl, hc1, hc2, Hcell⟩ := rdE_form hv hn
  rw [← hn] at hlen
  clear hn hv
  have hB0 := Blk.new w 33 #[.string y.path, .int .i64 y.kind, .string y.data]
  have hE0 : Ext w (w.alloc (.cells #[.string y.path, .int .i64 y.kind, .string y.data] 33)) := (Ext.refl w).alloc _
  go_enter Tryz.func229, Tryz.ntmps229
  go_upto_region 3 with (fail)
  obtain ⟨yb, hyb⟩ : ∃ yb, w.heap.size = yb := ⟨_, rfl⟩
  rw [hyb] at hB0
  rw [hyb]
  clear hyb
  generalize w.alloc (.cells #[.string y.path, .int .i64 y.kind, .string y.data] 33) = W1 at hB0 hE0 ⊢
  go_loopw [9, 10] (fun i j wr => ∃ i' j' : Nat, i = .int .i64 i' ∧ j = .int .i64 j' ∧ i' ≤ j' ∧ j' ≤ n ∧ Bnd l y.path i' j' ∧ Ext W1 wr) (fun i j _ => (intOf j).toNat - (intOf i).toNat)
  case atStart => exact ⟨0, n, rfl, rfl, Nat.zero_le _, Nat.le_refl _, ⟨fun t _ h => by omega, fun t h h' => by have := Hn.out; omega⟩, Ext.refl W1⟩
  case round =>
    obtain ⟨i, j, rfl, rfl, hij, hjn, hB, hE⟩ := hrel
    obtain ⟨⟨y0, f0⟩, ⟨y1, f1⟩, ⟨y2, f2⟩⟩ := (hB0.ext hE).three
    have HB := Lib.hid hB
    clear hB
    by_cases hlt : i < j
    · have hh : (i + j) / 2 < l.length := by have := Hn.out; omega
      obtain ⟨b, o, rfl, hcell⟩ := Hcell.out (List.ne_nil_of_length_pos (by omega))
      obtain ⟨x, hx⟩ : ∃ x, l[(i + j) / 2]'hh = x := ⟨_, rfl⟩
      obtain ⟨q0, q1, q2, _⟩ := hcell _ hh
      rw [hx] at q0 q1 q2
      have g0 := (hE0.trans hE).cell q0
      have g1 := (hE0.trans hE).cell q1
      have g2 := (hE0.trans hE).cell q2
      have Hx := Lib.hid hx
      have HP := fun w => put1_any x y w
      clear q0 q1 q2 hx hcell
      have q0' := fun d os => cell_regrown g0 d os
      have q1' := fun d os => cell_regrown g1 d os
      have q2' := fun d os => cell_regrown g2 d os
      have y0' := fun d os => cell_regrown y0 d os
      have y1' := fun d os => cell_regrown y1 d os
      have y2' := fun d os => cell_regrown y2 d os
      rcases hl : lt x.path y.path with _ | _
      · have hc : ∃ k : Int, cmpI x.path y.path = k ∧ ¬ k < 0 := by
          rcases h2 : lt y.path x.path with _ | _
          · exact ⟨_, cmpI_eq hl h2, by decide⟩
          · exact ⟨_, cmpI_gt hl h2, by decide⟩
        obtain ⟨k, hk, hk0⟩ := hc
        rw [hk] at HP
        have Hl := Lib.hid hl
        clear hl hk
        go_upto_region 5 with (fail)
        (refine wp_region_quiet_below (by kernel_rfl) (by kernel_rfl) ?_; (repeat (go_big_quiet_step ((go_at_fn 230; exact Calls.regrown_of (HP _))))); refine wpQuiet_nil ?_; intro _ hq; obtain ⟨⟨dq, osq⟩, hq2⟩ := hq; subst hq2)
        have hE2 := below_regrown wr dq osq
        go_wp2
        go_roundw
        case rel =>
          refine ⟨i, (i + j) / 2, rfl, by go_num, by omega, by omega, ⟨HB.out.1, fun t ht h => ?_⟩, by first | exact hE.trans hE2 | exact (by repeat (first | exact Ext.refl _ | assumption | refine Ext.alloc ?_ _ | refine Ext.drew ?_ | refine Ext.drewN ?_ _ | refine Ext.setCell ?_ (by first | omega | (simp; done) | (simp; omega)) _ | refine Ext.trans ?_ (by assumption)))⟩
          rcases Nat.lt_or_ge ((i + j) / 2) t with h1 | h1
          · rcases hl2 : lt l[t].path y.path with _ | _
            · rfl
            · have := lt_trans (hs.at_ h1 ht) hl2
              rw [Hx.out, Hl.out] at this
              cases this
          · obtain rfl : t = (i + j) / 2 := by omega
            rw [Hx.out]; exact Hl.out
        case measure => simp [intOf]; omega
      · rw [cmpI_lt hl] at HP
        have Hl := Lib.hid hl
        clear hl
        go_upto_region 5 with (fail)
        (refine wp_region_quiet_below (by kernel_rfl) (by kernel_rfl) ?_; (repeat (go_big_quiet_step ((go_at_fn 230; exact Calls.regrown_of (HP _))))); refine wpQuiet_nil ?_; intro _ hq; obtain ⟨⟨dq, osq⟩, hq2⟩ := hq; subst hq2)
        have hE2 := below_regrown wr dq osq
        go_wp2
        go_roundw
        case rel =>
          refine ⟨(i + j) / 2 + 1, j, by go_num, rfl, by omega, hjn, ⟨fun t ht h => ?_, HB.out.2⟩, by first | exact hE.trans hE2 | exact (by repeat (first | exact Ext.refl _ | assumption | refine Ext.alloc ?_ _ | refine Ext.drew ?_ | refine Ext.drewN ?_ _ | refine Ext.setCell ?_ (by first | omega | (simp; done) | (simp; omega)) _ | refine Ext.trans ?_ (by assumption)))⟩
          rcases Nat.lt_or_ge t ((i + j) / 2) with h1 | h1
          · exact lt_trans (hs.at_ h1 hh) (by rw [Hx.out]; exact Hl.out)
          · obtain rfl : t = (i + j) / 2 := by omega
            rw [Hx.out]; exact Hl.out
        case measure => simp [intOf]; omega
    · obtain rfl : i = j := by omega
      by_cases hin : i < n
      · have hh : i < l.length := by have := Hn.out; omega
        obtain ⟨b, o, rfl, hcell⟩ := Hcell.out (List.ne_nil_of_length_pos (by omega))
        obtain ⟨x, hx⟩ : ∃ x, l[i]'hh = x := ⟨_, rfl⟩
        obtain ⟨q0, q1, q2, _⟩ := hcell _ hh
        rw [hx] at q0 q1 q2
        have g0 := (hE0.trans hE).cell q0
        have g1 := (hE0.trans hE).cell q1
        have g2 := (hE0.trans hE).cell q2
        have Hx := Lib.hid hx
        have HP := fun w => put1_any x y w
        have hxy : lt x.path y.path = false := by rw [← hx]; exact HB.out.2 i hh (Nat.le_refl _)
        obtain ⟨ok, hok⟩ : ∃ ok : Bool, (cmpI x.path y.path == 0) = ok := ⟨_, rfl⟩
        obtain ⟨k, hk⟩ : ∃ k : Int, cmpI x.path y.path = k := ⟨_, rfl⟩
        have Hok : Hid (ok = true ↔ x.path = y.path) := Lib.hid (by
          rw [← hok, beq_iff_eq]
          rcases h2 : lt y.path x.path with _ | _
          · rw [cmpI_eq hxy h2]
            exact ⟨fun _ => lt_total hxy h2, fun _ => rfl⟩
          · rw [cmpI_gt hxy h2]
            exact ⟨fun h => absurd h (by decide), fun h => absurd h.symm (lt_ne h2)⟩)
        rw [hk] at HP hok
        clear q0 q1 q2 hx hcell hxy hk
        have q0' := fun d os => cell_regrown g0 d os
        have q1' := fun d os => cell_regrown g1 d os
        have q2' := fun d os => cell_regrown g2 d os
        have y0' := fun d os => cell_regrown y0 d os
        have y1' := fun d os => cell_regrown y1 d os
        have y2' := fun d os => cell_regrown y2 d os
        go_upto_region 8 with (fail)
        (refine wp_region_quiet_below (by kernel_rfl) (by kernel_rfl) ?_; (repeat (go_big_quiet_step ((go_at_fn 230; exact Calls.regrown_of (HP _))))); refine wpQuiet_nil ?_; intro _ hq; obtain ⟨⟨dq, osq⟩, hq2⟩ := hq; subst hq2)
        have hE2 := below_regrown wr dq osq
        go_wp2
        go_ret2
        refine ⟨⟨i, ok, rfl, by have := Hn.out; omega, HB.out.1, HB.out.2, ?_⟩, by first | exact hE0.trans (hE.trans hE2) | exact (by repeat (first | exact Ext.refl _ | assumption | refine Ext.alloc ?_ _ | refine Ext.drew ?_ | refine Ext.drewN ?_ _ | refine Ext.setCell ?_ (by first | omega | (simp; done) | (simp; omega)) _ | refine Ext.trans ?_ (by assumption)))⟩
        rw [Hok.out]
        constructor
        · intro h
          exact ⟨hh, by rw [Hx.out]; exact h⟩
        · rintro ⟨_, h⟩
          rw [Hx.out] at h
          exact h
      · go_upto_region 8 with (fail)
        go_quiet (fail)
        go_wp2
        go_ret2
        exact ⟨⟨i, false, rfl, by have := Hn.out; omega, HB.out.1, HB.out.2, ⟨fun h => (by cases h), fun ⟨h, _⟩ => absurd h (by have := Hn.out; omega)⟩⟩, hE0.trans (hE.drewN _)⟩

/-! ### fold.put -/

theorem ins_false {l : List Ent} {x : Ent} {k : Nat} (hr : Rising l) (h : AtIs l x.path k false) : l.take k ++ x :: l.drop k = insT l x := by
  obtain ⟨h1, h2, h3, h4⟩ := h
  have hne : ∀ y ∈ l, y.path ≠ x.path := any_none hr ⟨h1, h2, h3, h4⟩
  have e1 : l.filter (fun y => lt y.path x.path) = l.take k := by
    have e : l.filter (fun y => lt y.path x.path) = (l.take k ++ l.drop k).filter (fun y => lt y.path x.path) := by rw [List.take_append_drop]
    rw [e, List.filter_append, List.filter_eq_self.2, List.filter_eq_nil_iff.2, List.append_nil]
    · intro y hy
      obtain ⟨j, hj, rfl⟩ := List.getElem_of_mem hy
      rw [List.length_drop] at hj
      rw [List.getElem_drop, h3 _ (by omega) (by omega)]
      simp
    · intro y hy
      obtain ⟨j, hj, rfl⟩ := List.getElem_of_mem hy
      rw [List.length_take] at hj
      rw [List.getElem_take]
      exact h2 _ (by omega) (by omega)
  have e2 : l.filter (fun y => lt x.path y.path) = l.drop k := by
    have e : l.filter (fun y => lt x.path y.path) = (l.take k ++ l.drop k).filter (fun y => lt x.path y.path) := by rw [List.take_append_drop]
    rw [e, List.filter_append, List.filter_eq_nil_iff.2, List.filter_eq_self.2, List.nil_append]
    · intro y hy
      have hm := List.mem_of_mem_drop hy
      obtain ⟨j, hj, rfl⟩ := List.getElem_of_mem hy
      rw [List.length_drop] at hj
      have h5 := h3 (k + j) (by omega) (by omega)
      have h6 := hne _ hm
      rw [List.getElem_drop] at h6 ⊢
      rcases h7 : lt x.path l[k + j].path with _ | _
      · exact absurd (lt_total h5 h7) h6
      · rfl
    · intro y hy
      obtain ⟨j, hj, rfl⟩ := List.getElem_of_mem hy
      rw [List.length_take] at hj
      rw [List.getElem_take, lt_asymm (h2 _ (by omega) (by omega))]
      simp
  rw [insT, e1, e2]

theorem ins_true {l : List Ent} {x : Ent} {k : Nat} (hr : Rising l) (h : AtIs l x.path k true) : ∃ hk : k < l.length, l.set k x = insT l x := by
  obtain ⟨hk, e, hu⟩ := at_one hr h
  refine ⟨hk, ?_⟩
  have hset : Rising (l.set k x) := by
    rw [Rising, List.pairwise_iff_getElem]
    intro i j hi hj hij
    rw [List.length_set] at hi hj
    have h5 := hr.at_ hij hj
    rw [List.getElem_set, List.getElem_set]
    split <;> split
    · omega
    · rename_i h1 h2
      subst h1
      rw [e] at h5
      exact h5
    · rename_i h1 h2
      subst h2
      rw [e] at h5
      exact h5
    · exact h5
  refine rising_ext hset (rising_insT hr x) fun y => ?_
  rw [mem_insT]
  constructor
  · intro hy
    obtain ⟨j, hj, rfl⟩ := List.getElem_of_mem hy
    rw [List.length_set] at hj
    rw [List.getElem_set]
    split
    · exact .inl rfl
    · rename_i h1
      refine .inr ⟨List.getElem_mem _, fun e2 => h1 ?_⟩
      have h6 := rising_one hr (List.getElem_mem hj) (List.getElem_mem hk) (by rw [e2, e])
      rcases Nat.lt_trichotomy j k with h7 | h7 | h7
      · have := hr.at_ h7 hk
        rw [h6, lt_irrefl] at this
        cases this
      · exact h7.symm
      · have := hr.at_ h7 hj
        rw [h6, lt_irrefl] at this
        cases this
  · rintro (rfl | ⟨h1, h2⟩)
    · exact List.mem_iff_getElem.2 ⟨k, by rw [List.length_set]; exact hk, by simp⟩
    · obtain ⟨j, hj, rfl⟩ := List.getElem_of_mem h1
      have hjk : k ≠ j := fun e2 => by
        subst e2
        exact h2 e
      exact List.mem_iff_getElem.2 ⟨j, by rw [List.length_set]; exact hj, by rw [List.getElem_set, if_neg hjk]⟩

set_option maxHeartbeats 4000000 in
set_option maxRecDepth 20000 in
theorem Put_any (base : Nat) (v : Value) (l : List Ent) (x : Ent) (w0 w : World) (hE0 : Ext w0 w) (hb0 : w0.heap.size ≤ base) (hbw : base ≤ w.heap.size) (hrow : w.ownsRow base 33 3 v l.length (flatE l)) (hl : l.length ≤ 1000000) (hf : ∀ y ∈ l, y.fits) (hr : Rising l) :
    Calls Tryz.prog 182 #[v, .agg #[.string x.path, .int .i64 x.kind, .string x.data]] w (InsAns base w0 (insT l x)) := by
  have hrd := RdE.of_own hrow (by omega) hf
  have HS := fun W h => search3_any v l x W h hr
  have Hrd := Lib.hid hrd
  have Hr := Lib.hid hr
  have Hrow := Lib.hid hrow
  obtain ⟨n, hn⟩ : ∃ n, l.length = n := ⟨_, rfl⟩
  have Hn := Lib.hid hn
  have hEb : Ext w (w.alloc (.cells #[.string x.path, .int .i64 x.kind, .string x.data] 33)) := (Ext.refl w).alloc _
  have hB := Blk.new w 33 #[.string x.path, .int .i64 x.kind, .string x.data]
  have hxp : x.cells = [.string x.path, .int .i64 x.kind, .string x.data] := rfl
  rw [hn] at hl
  obtain ⟨⟨z0, f0⟩, ⟨z1, f1⟩, ⟨z2, f2⟩⟩ := hB.three
  obtain ⟨A, cap, rfl⟩ := own_form hrow
  rw [hn] at HS ⊢
  rw [hn] at Hrow Hrd
  clear hrd hrow hf hr hn
  have HSk : ∃ (K : Nat → Bool → Prop), K = fun k ok => AtIs l x.path k ok := ⟨_, rfl⟩
  go_enter Tryz.func182, Tryz.ntmps182
  go_upto_region 2 with (go_at_call 229; refine (HS _ (Hrd.out.ext hEb)).mono ?_; rintro e W1 ⟨⟨k, ok, rfl, hk⟩, hE1⟩)
  have hE01 := hE0.trans (hEb.trans hE1)
  have hB1 := hB.ext hE1
  have hrow1 := own_ext (own_ext Hrow.out hEb) hE1
  have hbw1 : base ≤ W1.heap.size := Nat.le_trans hbw (hEb.trans hE1).size
  have hwb : w.heap.size < W1.heap.size := hB1.lt
  have hgb : ∀ g, A = some ⟨g, 0, none⟩ → g < w.heap.size := fun g e => (Hrow.out.lt g (by rw [e]; rfl)).2
  obtain ⟨eb, heb⟩ : ∃ eb, w.heap.size = eb := ⟨_, rfl⟩
  rw [heb] at hB1 hwb hgb ⊢
  have Hrow1 := Lib.hid hrow1
  have Hhb1 := Lib.hid hB1
  clear z0 z1 z2 f0 f1 f2 hrow1
  obtain ⟨⟨z0, f0⟩, ⟨z1, f1⟩, ⟨z2, f2⟩⟩ := hB1.three
  clear HS hEb hB hE1 heb hB1
  rcases ok with _ | _
  · have hins := ins_false Hr.out hk
    have hkl : k ≤ l.length := hk.1
    have HI := fun W vb h1 h2 h3 h4 h5 => InsE_any (xs := l) (x := x) base (.slice A n cap) k vb w0 W h1 hb0 h2 (by rw [Hn.out]; exact h3) (by rw [Hn.out]; exact hl) hkl h4 h5
    rw [hins] at HI
    have HII := Lib.hid HI
    clear hk hins HI
    go_wp2_with (go_at_call 231; refine (HII.out _ _ (hE01.alloc _) (by rw [World.size_alloc]; omega) (Hrow1.out.alloc _) (Blk.new W1 _ _) (fun e => by have := (Hrow1.out.lt _ e).2; omega)).mono ?_; rintro e W3 ⟨v3, rfl, hrow3, hE3⟩)
    go_ret
    exact ⟨_, rfl, hrow3, hE3⟩
  · obtain ⟨hkl, hset⟩ := ins_true Hr.out hk
    rw [Hn.out] at hkl
    obtain ⟨g, rfl⟩ : ∃ g, A = some ⟨g, 0, none⟩ := by
      rcases Hrow.out.2 with ⟨e, h0⟩ | ⟨gb, _, _, e, _⟩
      · cases e; omega
      · cases e; exact ⟨_, rfl⟩
    have hgb := hgb g rfl
    have hbg : base ≤ g := (Hrow.out.lt g rfl).1
    have hrow1 := Hrow1.out
    have hcell : ∀ j, j < n * 3 → ∃ u, W1.cell? ⟨g, j, none⟩ = some u := fun j hj => ⟨_, (hrow1.cellAt j hj).trans (List.getElem?_eq_getElem (by rw [ents_length, Hn.out]; exact hj))⟩
    obtain ⟨u0, c0⟩ := hcell (k * 3) (by omega)
    obtain ⟨u1, c1⟩ := hcell (k * 3 + 1) (by omega)
    obtain ⟨u2, c2⟩ := hcell (k * 3 + 2) (by omega)
    have g0 := hrow1.frozenAt (k * 3)
    have g1 := hrow1.frozenAt (k * 3 + 1)
    have g2 := hrow1.frozenAt (k * 3 + 2)
    have s1 := hrow1.stored (k * 3) (.string x.path)
    have s2 := s1.1.stored (k * 3 + 1) (.int .i64 x.kind)
    have s3 := s2.1.stored (k * 3 + 2) (.string x.data)
    have s4 := s3.1
    rw [← flat_set l x k (by rw [Hn.out]; exact hkl), hset] at s4
    have hil : (insT l x).length = n := by rw [← hset, List.length_set, Hn.out]
    have Hs4 := Lib.hid s4
    have Hil := Lib.hid hil
    have hgeb : ¬ g = eb := by omega
    clear hk hset s1 s2 s3 s4 hil hrow1 hcell
    go_wp2
    go_ret
    exact ⟨_, rfl, by rw [Hil.out]; exact Hs4.out, (((hE01.setCell (p := ⟨g, k * 3, none⟩) (Nat.le_trans hb0 hbg) _).setCell (p := ⟨g, k * 3 + 1, none⟩) (Nat.le_trans hb0 hbg) _).setCell (p := ⟨g, k * 3 + 2, none⟩) (Nat.le_trans hb0 hbg) _)⟩
end Go.Proofs.YtknfaabhlcdeoaaGreatDoor
