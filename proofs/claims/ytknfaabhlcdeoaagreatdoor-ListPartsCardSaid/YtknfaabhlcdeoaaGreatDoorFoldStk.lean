/- fold.one, fold.Over and fold.Stack: what a stack folds to; for every stack. -/
import Derived.Test.YtknfaabhlcdeoaaGreatDoorFoldOne
import Derived.Test.YtknfaabhlcdeoaaGreatDoorFoldTree
import Derived.Test.YtknfaabhlcdeoaaGreatDoorLUnd
namespace Go.Proofs.YtknfaabhlcdeoaaGreatDoor
open Go Go.RowKit Go.Shelf Go.Proofs

set_option maxHeartbeats 2000000 in
theorem one1_any (cb : Nat) (y x : Ent) (W : World) (hy : y.path.size ≤ 70368744177664) (hx : x.fits) (hq : Blk W cb 33 #[.string y.path, .int .i64 y.kind, .string y.data]) :
    Calls Tryz.prog 180 #[.agg #[.string x.path, .int .i64 x.kind, .string x.data], .pointer (some ⟨cb, 0, none⟩)] W fun e w' => e = .returned (.bool (decide (x.path = y.path) || underB x.path y.path)) ∧ Ext W w' := by
  have HU := fun w => Under_any x.path y.path w hx.1 hy
  obtain ⟨⟨b0, _⟩, ⟨b1, _⟩, ⟨b2, _⟩⟩ := (hq.ext ((Ext.refl W).alloc (.cells #[.string x.path, .int .i64 x.kind, .string x.data] 33))).three
  have hp : (x.path.toList == y.path.toList) = decide (x.path = y.path) := by
    rw [Bool.eq_iff_iff, beq_iff_eq, decide_eq_true_eq]
    exact ⟨fun h => data_inj (by rw [← toList_eq, h, toList_eq]), fun h => by rw [h]⟩
  obtain ⟨d, hd⟩ : ∃ d, decide (x.path = y.path) = d := ⟨_, rfl⟩
  rw [hd] at hp ⊢
  have Hq := Lib.hid hq
  clear hq hd
  rcases d with _ | _
  · go_enter Tryz.func180, Tryz.ntmps180
    go_wp2_with (go_at_call 90; refine (HU _).mono ?_; rintro e w1 ⟨rfl, hE1⟩)
    go_ret
    exact ⟨by first | rfl | simp, by exact (by repeat (first | exact Ext.refl _ | assumption | refine Ext.alloc ?_ _ | refine Ext.drew ?_ | refine Ext.drewN ?_ _ | refine Ext.setCell ?_ (by first | omega | (simp; done) | (simp; omega)) _ | refine Ext.trans ?_ (by assumption)))⟩
  · go_enter Tryz.func180, Tryz.ntmps180
    go_wp2
    go_ret
    exact ⟨by first | rfl | simp, by exact (by repeat (first | exact Ext.refl _ | assumption | refine Ext.alloc ?_ _ | refine Ext.drew ?_ | refine Ext.drewN ?_ _ | refine Ext.setCell ?_ (by first | omega | (simp; done) | (simp; omega)) _ | refine Ext.trans ?_ (by assumption)))⟩

theorem asks_one1 (cb : Nat) (y : Ent) (hy : y.path.size ≤ 70368744177664) : Asks 180 cb (fun x => decide (x.path = y.path) || underB x.path y.path) (fun W => Blk W cb 33 #[.string y.path, .int .i64 y.kind, .string y.data]) where
  enter := enters_of Tryz.func180 (by kernel_rfl) rfl
  call := fun x W hx hq => one1_any cb y x W hy hx hq
  ext := fun W W' h he => h.ext he

set_option maxHeartbeats 2000000 in
theorem one2_any (cb : Nat) (y x : Ent) (W : World) (hq : Blk W cb 33 #[.string y.path, .int .i64 y.kind, .string y.data]) :
    Calls Tryz.prog 181 #[.agg #[.string x.path, .int .i64 x.kind, .string x.data], .pointer (some ⟨cb, 0, none⟩)] W fun e w' => e = .returned (.bool (decide (x.path = y.path) && decide (x.kind = 1))) ∧ Ext W w' := by
  obtain ⟨⟨b0, _⟩, ⟨b1, _⟩, ⟨b2, _⟩⟩ := (hq.ext ((Ext.refl W).alloc (.cells #[.string x.path, .int .i64 x.kind, .string x.data] 33))).three
  have hp : (x.path.toList == y.path.toList) = decide (x.path = y.path) := by
    rw [Bool.eq_iff_iff, beq_iff_eq, decide_eq_true_eq]
    exact ⟨fun h => data_inj (by rw [← toList_eq, h, toList_eq]), fun h => by rw [h]⟩
  have hk : (x.kind == 1) = decide (x.kind = 1) := by
    rw [Bool.eq_iff_iff, beq_iff_eq, decide_eq_true_eq]
  obtain ⟨d, hd⟩ : ∃ d, decide (x.path = y.path) = d := ⟨_, rfl⟩
  obtain ⟨d2, hd2⟩ : ∃ d, decide (x.kind = 1) = d := ⟨_, rfl⟩
  rw [hd] at hp ⊢
  rw [hd2] at hk ⊢
  have Hq := Lib.hid hq
  clear hq hd hd2
  rcases d with _ | _
  · go_enter Tryz.func181, Tryz.ntmps181
    go_wp2
    go_ret
    exact ⟨by first | rfl | simp, by exact (by repeat (first | exact Ext.refl _ | assumption | refine Ext.alloc ?_ _ | refine Ext.drew ?_ | refine Ext.drewN ?_ _ | refine Ext.setCell ?_ (by first | omega | (simp; done) | (simp; omega)) _ | refine Ext.trans ?_ (by assumption)))⟩
  · go_enter Tryz.func181, Tryz.ntmps181
    go_wp2
    go_ret
    exact ⟨by first | rfl | simp, by exact (by repeat (first | exact Ext.refl _ | assumption | refine Ext.alloc ?_ _ | refine Ext.drew ?_ | refine Ext.drewN ?_ _ | refine Ext.setCell ?_ (by first | omega | (simp; done) | (simp; omega)) _ | refine Ext.trans ?_ (by assumption)))⟩

theorem asks_one2 (cb : Nat) (y : Ent) : Asks 181 cb (fun x => decide (x.path = y.path) && decide (x.kind = 1)) (fun W => Blk W cb 33 #[.string y.path, .int .i64 y.kind, .string y.data]) where
  enter := enters_of Tryz.func181 (by kernel_rfl) rfl
  call := fun x W _ hq => one2_any cb y x W hq
  ext := fun W W' h he => h.ext he

theorem goes_dir {e : Ent} (h : e.kind = 2) : (fun x => goesB e x) = fun x => decide (x.path = e.path) && decide (x.kind = 1) := by
  funext x; rw [goesB, if_pos h]
theorem goes_other {e : Ent} (h : e.kind ≠ 2) : (fun x => goesB e x) = fun x => decide (x.path = e.path) || underB x.path e.path := by
  funext x; rw [goesB, if_neg h]

theorem row_other {w : World} {base e size n b i : Nat} {v : Value} {xs : List Value} (h : w.ownsRow base e size v n xs) (hne : v.ownBlock ≠ some b) (u : Value) : (w.setCell ⟨b, i, none⟩ u).ownsRow base e size v n xs := by
  obtain ⟨h1, h2⟩ := h
  refine ⟨h1, h2.elim .inl fun ⟨g, cap, cur, e1, hb, hh, r⟩ => .inr ⟨g, cap, cur, e1, hb, ?_, r⟩⟩
  exact (Below.heap_setCell _ _ _ _ (fun e2 => hne (by subst e1; first | exact congrArg some e2 | exact congrArg some e2.symm))).trans hh

/-- What stays of a tree. -/
def stayT (l : List Ent) (e : Ent) : List Ent := l.filter fun x => !goesB e x

set_option maxHeartbeats 8000000 in
set_option maxRecDepth 20000 in
theorem One_any (base : Nat) (v : Value) (l : List Ent) (y : Ent) (w0 w : World) (hE0 : Ext w0 w) (hb0 : w0.heap.size ≤ base) (hbw : base ≤ w.heap.size) (hrow : w.ownsRow base 33 3 v l.length (flatE l)) (hl : l.length ≤ 100000) (hf : ∀ x ∈ l, x.fits) (hr : Rising l) (hy : y.path.size ≤ 70368744177664) :
    Calls Tryz.prog 123 #[v, .agg #[.string y.path, .int .i64 y.kind, .string y.data]] w (InsAns base w0 (oneT l y)) := by
  have hB := Blk.new w 33 #[.string y.path, .int .i64 y.kind, .string y.data]
  have hEb : Ext w (w.alloc (.cells #[.string y.path, .int .i64 y.kind, .string y.data] 33)) := (Ext.refl w).alloc _
  have hrowb := own_ext hrow hEb
  have hgne : ∀ g, v.ownBlock = some g → g < w.heap.size := fun g e => (hrow.lt g e).2
  have hEw : Ext w0 (w.alloc (.cells #[.string y.path, .int .i64 y.kind, .string y.data] 33)) := hE0.trans hEb
  have hQs : ∀ (W : World) (gb j : Nat) (u : Value), v.ownBlock = some gb → Blk W w.heap.size 33 #[.string y.path, .int .i64 y.kind, .string y.data] → Blk (W.setCell ⟨gb, j, none⟩ u) w.heap.size 33 #[.string y.path, .int .i64 y.kind, .string y.data] := fun W gb j u hgb h => by
    have h1 := hgne gb hgb
    exact (Below.heap_setCell _ _ _ _ (fun e => absurd (show gb = w.heap.size from by first | exact e | exact e.symm) (by omega))).trans h
  have hst : (l.filter fun x => !goesB y x) = stayT l y := rfl
  have HD1 : y.kind ≠ 2 → Calls Tryz.prog 150 #[v, .func (.func 180) #[] #[.pointer (some ⟨w.heap.size, 0, none⟩)]] (w.alloc (.cells #[.string y.path, .int .i64 y.kind, .string y.data] 33)) (DelAnsF (fun x => goesB y x) (fun W => Blk W w.heap.size 33 #[.string y.path, .int .i64 y.kind, .string y.data]) l base w0 v) := fun hk => by
    rw [goes_other hk]
    exact DelF_any (asks_one1 w.heap.size y hy) base v hQs l w0 _ hEw hb0 hrowb (by omega) hf hB
  have HD2 : y.kind = 2 → Calls Tryz.prog 150 #[v, .func (.func 181) #[] #[.pointer (some ⟨w.heap.size, 0, none⟩)]] (w.alloc (.cells #[.string y.path, .int .i64 y.kind, .string y.data] 33)) (DelAnsF (fun x => goesB y x) (fun W => Blk W w.heap.size 33 #[.string y.path, .int .i64 y.kind, .string y.data]) l base w0 v) := fun hk => by
    rw [goes_dir hk]
    exact DelF_any (asks_one2 w.heap.size y) base v hQs l w0 _ hEw hb0 hrowb (by omega) hf hB
  have hsl : (stayT l y).length ≤ 100000 := Nat.le_trans (List.length_filter_le _ _) hl
  have hsf : ∀ x ∈ stayT l y, x.fits := fun x hx => hf x (List.mem_filter.1 hx).1
  have hsr : Rising (stayT l y) := List.Pairwise.filter _ hr
  have hput : ∀ (z : Ent) (W : World) (v2 : Value), Ext w0 W → base ≤ W.heap.size → W.ownsRow base 33 3 v2 (stayT l y).length (flatE (stayT l y)) → Calls Tryz.prog 182 #[v2, .agg #[.string z.path, .int .i64 z.kind, .string z.data]] W (InsAns base w0 (insT (stayT l y) z)) := fun z W v2 h1 h2 h3 => Put_any base v2 (stayT l y) z w0 W h1 hb0 h2 h3 (by omega) hsf hsr
  have hone : oneT l y = if y.kind = 3 then stayT l y else insT (stayT l y) (if y.kind = 4 then ⟨y.path, 2, y.data⟩ else y) := rfl
  obtain ⟨⟨z0, f0⟩, ⟨z1, f1⟩, ⟨z2, f2⟩⟩ := hB.three
  have hvf : ∃ A c, v = .slice A l.length c := own_form hrow
  obtain ⟨A, c, rfl⟩ := hvf
  have Hput := Lib.hid hput
  have Hb := Lib.hid hbw
  have Hsl := Lib.hid hst
  have Hgne := Lib.hid hgne
  obtain ⟨eb, heb⟩ : ∃ eb, w.heap.size = eb := ⟨_, rfl⟩
  have hbe : base ≤ eb := by omega
  rw [heb] at HD1 HD2 z0 z1 z2 f0 f1 f2
  obtain ⟨W1, hW1⟩ : ∃ W1, w.alloc (.cells #[.string y.path, .int .i64 y.kind, .string y.data] 33) = W1 := ⟨_, rfl⟩
  rw [hW1] at HD1 HD2
  rw [hW1] at z0 z1 z2 f0 f1 f2
  clear hB hEb hrowb hgne hEw hQs hst hput hsf hsr hrow hf hr
  by_cases hk2 : y.kind = 2
  · have hkk : (y.kind == 2) = true := by simpa using hk2
    have hk3 : (y.kind == 3) = false := by rw [hk2]; rfl
    have hk4 : (y.kind == 4) = false := by rw [hk2]; rfl
    have HD := HD2 hk2
    rw [if_neg (by omega), if_neg (by omega)] at hone
    have Hone := Lib.hid hone
    clear hk2 HD1 HD2 hone
    go_enter Tryz.func123, Tryz.ntmps123
    go_upto_region 4 with (fail)
    try rw [heb]
    try rw [hW1]
    go_wp2_with (first | (go_at_call 150; refine HD.mono ?_; rintro e W2 ⟨v2, rfl, hrow2, hE2, hB2, hob⟩; obtain ⟨⟨b0, _⟩, ⟨b1, _⟩, ⟨b2, _⟩⟩ := hB2.three; have hW2 := hB2.lt) | (go_at_call 182; refine (Hput.out y _ _ hE2 (by omega) hrow2).mono ?_; rintro e W3 ⟨v3, rfl, hrow3, hE3⟩))
    go_ret
    rw [Hone.out]
    exact ⟨_, rfl, hrow3, hE3⟩
  · have hkk : (y.kind == 2) = false := by simpa using hk2
    have HD := HD1 hk2
    by_cases hk3 : y.kind = 3
    · have hk3' : (y.kind == 3) = true := by simpa using hk3
      rw [if_pos hk3] at hone
      have Hone := Lib.hid hone
      clear hk2 hk3 HD1 HD2 hone
      go_enter Tryz.func123, Tryz.ntmps123
      go_upto_region 4 with (fail)
      try rw [heb]
      try rw [hW1]
      go_wp2_with (go_at_call 150; refine HD.mono ?_; rintro e W2 ⟨v2, rfl, hrow2, hE2, hB2, hob⟩; obtain ⟨⟨b0, c0⟩, ⟨b1, c1⟩, ⟨b2, c2⟩⟩ := hB2.three; have hW2 := hB2.lt)
      go_ret
      rw [Hone.out]
      exact ⟨_, rfl, hrow2, hE2⟩
    · have hk3' : (y.kind == 3) = false := by simpa using hk3
      rw [if_neg hk3] at hone
      by_cases hk4 : y.kind = 4
      · have hk4' : (y.kind == 4) = true := by simpa using hk4
        rw [if_pos hk4] at hone
        have Hone := Lib.hid hone
        have Hp4 : Hid (∀ (W : World) (v2 : Value), Ext w0 W → base ≤ W.heap.size → W.ownsRow base 33 3 v2 (stayT l y).length (flatE (stayT l y)) → Calls Tryz.prog 182 #[v2, .agg #[.string y.path, .int .i64 2, .string y.data]] W (InsAns base w0 (insT (stayT l y) ⟨y.path, 2, y.data⟩))) := Lib.hid fun W v2 => Hput.out ⟨y.path, 2, y.data⟩ W v2
        clear hk2 hk3 hk4 HD1 HD2 hone
        go_enter Tryz.func123, Tryz.ntmps123
        go_upto_region 4 with (fail)
        try rw [heb]
        try rw [hW1]
        go_wp2_with (first | (go_at_call 150; refine HD.mono ?_; rintro e W2 ⟨v2, rfl, hrow2, hE2, hB2, hob⟩; obtain ⟨⟨b0, c0⟩, ⟨b1, c1⟩, ⟨b2, c2⟩⟩ := hB2.three; have hW2 := hB2.lt) | (go_at_call 182; refine (Hp4.out _ _ (hE2.setCell (p := ⟨eb, 1, none⟩) (by show w0.heap.size ≤ eb; omega) _) (by rw [World.size_setCell]; omega) (row_other hrow2 (fun e => by rw [hob] at e; have := Hgne.out eb e; omega) _)).mono ?_; rintro e W3 ⟨v3, rfl, hrow3, hE3⟩))
        go_ret
        rw [Hone.out]
        exact ⟨_, rfl, hrow3, hE3⟩
      · have hk4' : (y.kind == 4) = false := by simpa using hk4
        rw [if_neg hk4] at hone
        have Hone := Lib.hid hone
        clear hk2 hk3 hk4 HD1 HD2 hone
        go_enter Tryz.func123, Tryz.ntmps123
        go_upto_region 4 with (fail)
        try rw [heb]
        try rw [hW1]
        go_wp2_with (first | (go_at_call 150; refine HD.mono ?_; rintro e W2 ⟨v2, rfl, hrow2, hE2, hB2, hob⟩; obtain ⟨⟨b0, c0⟩, ⟨b1, c1⟩, ⟨b2, c2⟩⟩ := hB2.three; have hW2 := hB2.lt) | (go_at_call 182; refine (Hput.out y _ _ hE2 (by omega) hrow2).mono ?_; rintro e W3 ⟨v3, rfl, hrow3, hE3⟩))
        go_ret
        rw [Hone.out]
        exact ⟨_, rfl, hrow3, hE3⟩

/-! ### fold.Over, fold.Stack -/

def OverRel (t l : List Ent) (n : Nat) (w : World) (v5 i : Value) (wr : World) : Prop :=
  ∃ k : Nat, i = .int .i64 k ∧ k ≤ n ∧ wr.ownsRow w.heap.size 33 3 v5 (overT t (l.take k)).length (flatE (overT t (l.take k))) ∧ Ext w wr

theorem over_next {t l : List Ent} {n k : Nat} {w W : World} {v5 : Value} (hlt : k < n) (hrow : W.ownsRow w.heap.size 33 3 v5 (overT t (l.take (k + 1))).length (flatE (overT t (l.take (k + 1))))) (hE : Ext w W) :
    OverRel t l n w v5 (.int .i64 ((k : Int) + 1)) W ∧ n - (intOf (.int .i64 ((k : Int) + 1))).toNat < n - (intOf (.int .i64 (k : Int))).toNat :=
  ⟨⟨k + 1, by simp, by omega, hrow, hE⟩, by simp [intOf]; omega⟩

theorem rising_over {t : List Ent} (hr : Rising t) : ∀ l : List Ent, Rising (overT t l) := fun l => by
  induction l generalizing t with
  | nil => exact hr
  | cons e l ih => exact ih (rising_one_ t hr e)

theorem mem_fits {t : List Ent} (h : MemT t) : ∀ x ∈ t, x.fits := fun x hx => entOk_fits (h x hx).1

theorem path_size {e : Ent} (h : entOk e = true) : e.path.size ≤ 55 := by
  obtain ⟨ys, z, _, _, h3, h4, h5, h6⟩ := ent_names h
  rw [h6]
  exact pathOf_size (by rw [List.all_append, h3]; simpa using h4) (by rw [List.length_append, List.length_singleton]; omega)

def RdAns (l : List Ent) (w : World) (e : Ending) (w' : World) : Prop := ∃ v, e = .returned v ∧ RdE w' v l ∧ Ext w w'

set_option maxHeartbeats 8000000 in
set_option maxRecDepth 20000 in
theorem Over_any13 (v u : Value) (t l : List Ent) (w : World) (hv : RdE w v t) (hu : RdE w u l) (ht : treeOk t = true) (hl : layerOk l = true) (hlen : t.length + l.length ≤ 1024) :
    Calls Tryz.prog 73 #[v, u] w (RdAns (overT t l) w) := by
  obtain ⟨_, hr, hall⟩ := treeOk_iff.1 ht
  obtain ⟨_, _, hlall⟩ := layerOk_iff.1 hl
  have hfin := over_tree ht hl hlen
  have hmem : ∀ k, MemT (overT t (l.take k)) := fun k => mem_over (fun e he => (hlall e (List.mem_of_mem_take he)).1) fun x hx => ⟨(hall x hx).1, (hall x hx).2.1⟩
  have hln : ∀ k, (overT t (l.take k)).length ≤ 1024 := fun k => by
    have h1 := over_len t (l.take k)
    rw [List.length_take] at h1
    omega
  have HT := fun W h => Tree_any v t W h
  rw [ht] at HT
  have HR := fun W h => LRight_any u l W h
  rw [hl] at HR
  have HC := fun W h => CloneE_any v t W h (by omega)
  have HF := fun W v' h => Tree_any v' (overT t l) W h
  rw [hfin] at HF
  have hoF := fun (W : World) (base : Nat) (v' : Value) (h : W.ownsRow base 33 3 v' (overT t l).length (flatE (overT t l))) => RdE.of_own h (by have := hln l.length; rw [List.take_length] at this; omega) (by have := mem_fits (hmem l.length); rwa [List.take_length] at this)
  have Hv := Lib.hid hv
  have Hu := Lib.hid hu
  obtain ⟨n, hn⟩ : ∃ n, n = l.length := ⟨_, rfl⟩
  have Hn := Lib.hid hn
  have hlu := Rd.len hu
  obtain ⟨A, c, rfl, _, _, _⟩ := rdE_form hv rfl
  obtain ⟨A2, c2, rfl, hd1, hd2, Hcell⟩ := rdE_form hu hn
  rw [← hn] at hlu
  have Hmem := Lib.hid hmem
  have Hln := Lib.hid hln
  have Hlall := Lib.hid hlall
  have Hro := Lib.hid fun k => rising_over hr (l.take k)
  have HFh := Lib.hid HF
  have HoF := Lib.hid hoF
  clear hv hu ht hl hr hall hlall hfin hmem hln hlen hn HF hoF
  go_enter Tryz.func73, Tryz.ntmps73
  go_upto_region 5 with (first | (go_at_call 40; ((with_reducible refine (HT _ ?ht).mono ?_)); (case ht => exact Hv.out.ext (by exact (by repeat (first | exact Ext.refl _ | assumption | refine Ext.alloc ?_ _ | refine Ext.drew ?_ | refine Ext.drewN ?_ _ | refine Ext.setCell ?_ (by first | omega | (simp; done) | (simp; omega)) _ | refine Ext.trans ?_ (by assumption))))); rintro e w1 ⟨rfl, hE1⟩) | (go_at_call 41; refine (HR _ (Hu.out.ext (by exact (by repeat (first | exact Ext.refl _ | assumption | refine Ext.alloc ?_ _ | refine Ext.drew ?_ | refine Ext.drewN ?_ _ | refine Ext.setCell ?_ (by first | omega | (simp; done) | (simp; omega)) _ | refine Ext.trans ?_ (by assumption)))))).mono ?_; rintro e w2 ⟨rfl, hE2⟩) | (go_at_call 84; refine (HC _ (Hv.out.ext (by exact (by repeat (first | exact Ext.refl _ | assumption | refine Ext.alloc ?_ _ | refine Ext.drew ?_ | refine Ext.drewN ?_ _ | refine Ext.setCell ?_ (by first | omega | (simp; done) | (simp; omega)) _ | refine Ext.trans ?_ (by assumption)))))).mono ?_; rintro e w3 ⟨v3, rfl, hrow3, hE3⟩))
  have hE : Ext w w2 := by exact (by repeat (first | exact Ext.refl _ | assumption | refine Ext.alloc ?_ _ | refine Ext.drew ?_ | refine Ext.drewN ?_ _ | refine Ext.setCell ?_ (by first | omega | (simp; done) | (simp; omega)) _ | refine Ext.trans ?_ (by assumption)))
  go_loopw [5, 20] (fun v5 i wr => OverRel t l n w2 v5 i wr) (fun _ i _ => n - (intOf i).toNat)
  case atStart => exact ⟨0, rfl, Nat.zero_le _, by simpa [overT] using hrow3, hE3⟩
  case round =>
    obtain ⟨k, rfl, hkn, hrow, hEr⟩ := hrel
    by_cases hlt : k < n
    · have hh : k < l.length := by have := Hn.out; omega
      obtain ⟨b, o, rfl, hcell⟩ := Hcell.out (List.ne_nil_of_length_pos (by omega))
      obtain ⟨q0, q1, q2, hf⟩ := hcell k hh
      obtain ⟨x, hx⟩ : ∃ x, l[k]'hh = x := ⟨_, rfl⟩
      rw [hx] at q0 q1 q2
      have g0 := (hE.trans hEr).cell q0
      have g1 := (hE.trans hEr).cell q1
      have g2 := (hE.trans hEr).cell q2
      have hox := path_size (Hlall.out x (by rw [← hx]; exact List.getElem_mem hh)).1
      have hstep := overT_take t hh
      rw [hx] at hstep
      have HO := fun (W : World) (h1 : Ext w2 W) (h2 : W.ownsRow w2.heap.size 33 3 u5 (overT t (l.take k)).length (flatE (overT t (l.take k)))) => One_any w2.heap.size u5 (overT t (l.take k)) x w2 W h1 (Nat.le_refl _) h1.size h2 (by have := Hln.out k; omega) (mem_fits (Hmem.out k)) (Hro.out k) (by omega)
      rw [← hstep] at HO
      have HOh := Lib.hid HO
      have Hrow := Lib.hid hrow
      obtain ⟨A5, c5, rfl⟩ := own_form hrow
      clear q0 q1 q2 hx hcell hstep HO hrow hox hf
      go_wp2_with (go_at_call 123; refine (HOh.out _ (hEr.trans (by exact (by repeat (first | exact Ext.refl _ | assumption | refine Ext.alloc ?_ _ | refine Ext.drew ?_ | refine Ext.drewN ?_ _ | refine Ext.setCell ?_ (by first | omega | (simp; done) | (simp; omega)) _ | refine Ext.trans ?_ (by assumption))))) (own_ext Hrow.out (by exact (by repeat (first | exact Ext.refl _ | assumption | refine Ext.alloc ?_ _ | refine Ext.drew ?_ | refine Ext.drewN ?_ _ | refine Ext.setCell ?_ (by first | omega | (simp; done) | (simp; omega)) _ | refine Ext.trans ?_ (by assumption)))))).mono ?_; rintro e W4 ⟨v4, rfl, hrow4, hE4⟩)
      exact over_next hlt hrow4 hE4
    · have hkn' : k = n := by omega
      have hrow' : wr.ownsRow w2.heap.size 33 3 u5 (overT t l).length (flatE (overT t l)) := by
        rw [List.take_of_length_le (by have := Hn.out; omega)] at hrow
        exact hrow
      have hrd := HoF.out _ _ _ hrow'
      have Hrd := Lib.hid hrd
      obtain ⟨A5, c5, rfl⟩ := own_form hrow'
      clear hrow hrow' hrd
      go_wp2_with (go_at_call 40; refine (HFh.out _ _ Hrd.out).mono ?_; rintro e W6 ⟨rfl, hE6⟩)
      go_ret
      exact ⟨_, rfl, Hrd.out.ext hE6, hE.trans (hEr.trans hE6)⟩

def StkRel (s : List (List Ent)) (n : Nat) (w : World) (v3 i : Value) (wr : World) : Prop :=
  ∃ k : Nat, i = .int .i64 k ∧ k ≤ n ∧ Hid (∀ l ∈ s.take k, layerOk l = true) ∧ Hid (RdE wr v3 (foldT (s.take k))) ∧ Ext w wr

theorem stk_next {s : List (List Ent)} {n k : Nat} {w W : World} {v3 : Value} (hlt : k < n) (hh : k < s.length) (hall : Hid (∀ l ∈ s.take k, layerOk l = true)) (hl : layerOk s[k] = true) (hr : RdE W v3 (foldT (s.take (k + 1)))) (hE : Ext w W) :
    StkRel s n w v3 (.int .i64 ((k : Int) + 1)) W ∧ n - (intOf (.int .i64 ((k : Int) + 1))).toNat < n - (intOf (.int .i64 (k : Int))).toNat := by
  refine ⟨⟨k + 1, by simp, by omega, Lib.hid fun l hl2 => ?_, Lib.hid hr, hE⟩, by simp [intOf]; omega⟩
  rw [← List.take_append_getElem hh] at hl2
  rcases List.mem_append.1 hl2 with h | h
  · exact hall.out l h
  · rw [List.mem_singleton] at h
    rw [h]
    exact hl

theorem walk_bad {s : List (List Ent)} {k : Nat} (hh : k < s.length) (h : layerOk s[k] = false) : walkT s = [] := by
  rw [walkT, if_neg]
  intro h2
  rw [(stackOk_layers h2).2 _ (List.getElem_mem hh)] at h
  cases h

set_option maxHeartbeats 4000000 in
set_option maxRecDepth 20000 in
/-- fold.Stack, for every stack. -/
theorem FStack_any (v : Value) (s : List (List Ent)) (w : World) (hv : RdK w v s) : Calls Tryz.prog 32 #[v] w (RdAns (walkT s) w) := by
  obtain ⟨n, hn⟩ : ∃ n, n = s.length := ⟨_, rfl⟩
  have Hn := Lib.hid hn
  have hlen := Rd.len hv
  obtain ⟨A, c, rfl, hc1, hc2, Hcell⟩ := RdK.form hv hn
  rw [← hn] at hlen
  clear hn hv
  by_cases h9 : n ≤ 9
  · have h9' : ¬ (9 : Int) < (n : Int) := by omega
    go_enter Tryz.func32, Tryz.ntmps32
    go_wp2
    go_loopw [3, 11] (fun v3 i wr => StkRel s n w v3 i wr) (fun _ i _ => n - (intOf i).toNat)
    case atStart => exact ⟨0, rfl, Nat.zero_le _, Lib.hid (fun l hl => by simp at hl), Lib.hid (Rd.nil _ _ _), Ext.refl _⟩
    case round =>
      obtain ⟨k, rfl, hkn, hall, hrd, hE⟩ := hrel
      by_cases hlt : k < n
      · have hh : k < s.length := by have := Hn.out; omega
        obtain ⟨b, o, rfl, hcell⟩ := Hcell.out (List.ne_nil_of_length_pos (by omega))
        obtain ⟨u, q0, hu⟩ := hcell k hh
        have g0 := hE.cell q0
        have hu' := hu.ext hE
        have HR := fun W h => LRight_any u (s[k]'hh) W h
        have Hu := Lib.hid hu'
        clear q0 hu hcell hu'
        rcases hl : layerOk s[k] with _ | _
        · have hbad := Lib.hid (walk_bad hh hl)
          rw [hl] at HR
          clear hl
          go_wp2_with (go_at_call 41; refine (HR _ Hu.out).mono ?_; rintro e W2 ⟨rfl, hE2⟩)
          go_ret
          exact ⟨_, rfl, by rw [hbad.out]; exact Rd.nil _ _ _, hE.trans hE2⟩
        · rw [hl] at HR
          have Hl := Lib.hid hl
          have hft : treeOk (foldT (s.take k)) = true ∧ (foldT (s.take k)).length ≤ 64 * k := by
            have hs : ∀ l ∈ s.take (k + 1), layerOk l = true := fun l hl2 => by
              rw [← List.take_append_getElem hh] at hl2
              rcases List.mem_append.1 hl2 with h | h
              · exact hall.out l h
              · rw [List.mem_singleton] at h
                rw [h]
                exact hl
            have h1 := fold_take hs (by rw [List.length_take]; omega) k (by rw [List.length_take]; omega)
            rw [List.take_take, Nat.min_eq_left (by omega)] at h1
            exact ⟨h1.1, h1.2.1⟩
          have h64 := layerOk_len hl
          have HO := fun W h1 h2 => Over_any13 u3 u (foldT (s.take k)) (s[k]'hh) W h1 h2 hft.1 hl (by have := hft.2; omega)
          rw [← foldT_take hh] at HO
          have HOh := Lib.hid HO
          clear hl hft h64 HO
          go_wp2_with (first | (go_at_call 41; refine (HR _ Hu.out).mono ?_; rintro e W2 ⟨rfl, hE2⟩) | (go_at_call 73; refine (HOh.out _ (hrd.out.ext (by exact (by repeat (first | exact Ext.refl _ | assumption | refine Ext.alloc ?_ _ | refine Ext.drew ?_ | refine Ext.drewN ?_ _ | refine Ext.setCell ?_ (by first | omega | (simp; done) | (simp; omega)) _ | refine Ext.trans ?_ (by assumption))))) (Hu.out.ext (by exact (by repeat (first | exact Ext.refl _ | assumption | refine Ext.alloc ?_ _ | refine Ext.drew ?_ | refine Ext.drewN ?_ _ | refine Ext.setCell ?_ (by first | omega | (simp; done) | (simp; omega)) _ | refine Ext.trans ?_ (by assumption)))))).mono ?_; rintro e W3 ⟨v4, rfl, hrd4, hE3⟩))
          exact stk_next hlt hh hall Hl.out hrd4 (by exact (by repeat (first | exact Ext.refl _ | assumption | refine Ext.alloc ?_ _ | refine Ext.drew ?_ | refine Ext.drewN ?_ _ | refine Ext.setCell ?_ (by first | omega | (simp; done) | (simp; omega)) _ | refine Ext.trans ?_ (by assumption))))
      · have hkn' : k = n := by omega
        have hw : walkT s = foldT (s.take k) := by
          rw [walkT, if_pos, List.take_of_length_le (by have := Hn.out; omega)]
          rw [stackOk, Bool.and_eq_true, decide_eq_true_eq, List.all_eq_true]
          refine ⟨by have := Hn.out; omega, fun l hl => ?_⟩
          have := hall.out l
          rw [List.take_of_length_le (by have := Hn.out; omega)] at this
          exact this hl
        have Hw := Lib.hid hw
        clear hw
        go_wp2
        go_ret
        exact ⟨_, rfl, by rw [Hw.out]; exact hrd.out, hE⟩
  · have h9' : (9 : Int) < (n : Int) := by omega
    have hw : walkT s = [] := by
      rw [walkT, if_neg]
      intro h
      have := (stackOk_layers h).1
      have := Hn.out
      omega
    have Hw := Lib.hid hw
    clear hw
    go_enter Tryz.func32, Tryz.ntmps32
    go_wp2
    go_ret
    exact ⟨_, rfl, by rw [Hw.out]; exact Rd.nil _ _ _, Ext.refl _⟩
end Go.Proofs.YtknfaabhlcdeoaaGreatDoor
