/- Joined: edit's Right, deeds, On, done; edit; A stack of one layer of one file '/a'; shalelaw14's awake, Of, with; shalelaw09; Plain laws of what is cut and read -/
import Derived.Test.YtneefmgidplbcaaGreatDoorJE7
import Derived.Test.YtneefmgidplbcaaGreatDoorJE6
import Derived.Test.YtneefmgidplbcaaGreatDoorJE1
import Derived.Test.YtneefmgidplbcaaGreatDoorJE2
import Derived.Test.YtneefmgidplbcaaGreatDoorJE0
import Derived.Laws.StructEq
import Derived.BigQuiet
import Derived.Test.YtneefmgidplbcaaGreatDoorJE3
/-! EditD -/
namespace Go.Proofs.YtneefmgidplbcaaGreatDoor
open Go Go.RowKit Go.Shelf Go.Proofs Go.Maps

/-- edit.Right. -/
def rightOp (x : OpT) : Bool := decide (0 ≤ x.act) && (decide (x.act ≤ 6) && (decide (x.p.size ≤ 54) && (decide (x.q.size ≤ 54) && decide (x.s.size ≤ 256))))
theorem rightOp_iff {x : OpT} : rightOp x = true ↔ 0 ≤ x.act ∧ x.act ≤ 6 ∧ x.p.size ≤ 54 ∧ x.q.size ≤ 54 ∧ x.s.size ≤ 256 := by simp [rightOp]

set_option maxHeartbeats 4000000 in
set_option maxRecDepth 20000 in
theorem EdRight_any (x : OpT) (w : World) :
    Calls Tryz.prog 51 #[.agg #[.int .i64 x.act, .string x.p, .string x.q, .int .i64 x.n, .string x.s]] w fun e w' => e = .returned (.bool (rightOp x)) ∧ Ext w w' := by
  obtain ⟨act, p, q, n, s⟩ := x
  by_cases h1 : (0 : Int) ≤ act
  · by_cases h2 : act ≤ 6
    · by_cases h3 : (p.size : Int) ≤ 54
      · by_cases h4 : (q.size : Int) ≤ 54
        · by_cases h5 : (s.size : Int) ≤ 256
          · have hr : rightOp ⟨act, p, q, n, s⟩ = true := rightOp_iff.2 ⟨h1, h2, by show p.size ≤ _; omega, by show q.size ≤ _; omega, by show s.size ≤ _; omega⟩
            rw [hr]
            clear hr
            go_enter Tryz.func51, Tryz.ntmps51
            go_wp2
            go_ret
            exact ⟨rfl, (by repeat (first | exact Ext.refl _ | assumption | refine Ext.alloc ?_ _ | refine Ext.drew ?_ | refine Ext.drewN ?_ _ | refine Ext.setCell ?_ (by first | omega | (simp; done) | (simp; omega)) _ | refine Ext.trans ?_ (by assumption)))⟩
          · have hr : rightOp ⟨act, p, q, n, s⟩ = false := by simp [rightOp]; omega
            rw [hr]
            clear hr
            go_enter Tryz.func51, Tryz.ntmps51
            go_wp2
            go_ret
            exact ⟨rfl, (by repeat (first | exact Ext.refl _ | assumption | refine Ext.alloc ?_ _ | refine Ext.drew ?_ | refine Ext.drewN ?_ _ | refine Ext.setCell ?_ (by first | omega | (simp; done) | (simp; omega)) _ | refine Ext.trans ?_ (by assumption)))⟩
        · have hr : rightOp ⟨act, p, q, n, s⟩ = false := by simp [rightOp]; omega
          rw [hr]
          clear hr
          go_enter Tryz.func51, Tryz.ntmps51
          go_wp2
          go_ret
          exact ⟨rfl, (by repeat (first | exact Ext.refl _ | assumption | refine Ext.alloc ?_ _ | refine Ext.drew ?_ | refine Ext.drewN ?_ _ | refine Ext.setCell ?_ (by first | omega | (simp; done) | (simp; omega)) _ | refine Ext.trans ?_ (by assumption)))⟩
      · have hr : rightOp ⟨act, p, q, n, s⟩ = false := by simp [rightOp]; omega
        rw [hr]
        clear hr
        go_enter Tryz.func51, Tryz.ntmps51
        go_wp2
        go_ret
        exact ⟨rfl, (by repeat (first | exact Ext.refl _ | assumption | refine Ext.alloc ?_ _ | refine Ext.drew ?_ | refine Ext.drewN ?_ _ | refine Ext.setCell ?_ (by first | omega | (simp; done) | (simp; omega)) _ | refine Ext.trans ?_ (by assumption)))⟩
    · have hr : rightOp ⟨act, p, q, n, s⟩ = false := by simp [rightOp]; omega
      rw [hr]
      clear hr
      go_enter Tryz.func51, Tryz.ntmps51
      go_wp2
      go_ret
      exact ⟨rfl, (by repeat (first | exact Ext.refl _ | assumption | refine Ext.alloc ?_ _ | refine Ext.drew ?_ | refine Ext.drewN ?_ _ | refine Ext.setCell ?_ (by first | omega | (simp; done) | (simp; omega)) _ | refine Ext.trans ?_ (by assumption)))⟩
  · have hr : rightOp ⟨act, p, q, n, s⟩ = false := by simp [rightOp]; omega
    rw [hr]
    clear hr
    go_enter Tryz.func51, Tryz.ntmps51
    go_wp2
    go_ret
    exact ⟨rfl, (by repeat (first | exact Ext.refl _ | assumption | refine Ext.alloc ?_ _ | refine Ext.drew ?_ | refine Ext.drewN ?_ _ | refine Ext.setCell ?_ (by first | omega | (simp; done) | (simp; omega)) _ | refine Ext.trans ?_ (by assumption)))⟩

/-! ### deeds -/

def deedV (g : Nat) : Value := .agg #[.func (.func g) #[] #[]]
def deedsL : List (Int × Value) := [((0 : Int), deedV 98), ((1 : Int), deedV 100), ((2 : Int), deedV 102), ((3 : Int), deedV 103), ((4 : Int), deedV 105), ((5 : Int), deedV 107), ((6 : Int), deedV 109)]
theorem dmap_ext {w w' : World} {k : TypeId} {R : Value → Option (DataW Value × List MemPlace)} {b n : Nat} {D : DataW Value} (h : w.ownsMap Tryz.prog k R b n D) (he : Ext w w') : w'.ownsMap Tryz.prog k R b n D := by
  have hlt := World.ownsMap.lt h
  obtain ⟨es, clock, hh, r⟩ := h
  exact ⟨es, clock, (Below.block he b hlt).trans hh, r⟩
theorem dmap_turned {w0 w w' : World} {b : Nat} (h : Ext w0 w) (hb : w0.heap.size ≤ b) (ht : w.mapTurned w' b) : Ext w0 w' := Below.grown h ht.grown h.size (fun k e => by cases e; exact hb)

set_option maxHeartbeats 8000000 in
set_option maxRecDepth 100000 in
theorem deeds_any (w : World) :
    Calls Tryz.prog 64 #[] w fun e w' => ∃ b, e = .returned (.map (some b)) ∧ w'.ownsMap Tryz.prog 3 RH b 7 (Tab deedsL) ∧ Ext w w' := by
  have hmm := @run_makeMap Tryz.prog
  have o0 : (w.alloc (.map #[] 0)).ownsMap Tryz.prog 3 RH w.heap.size 0 (Tab []) := World.ownsMap_made w _ _ _
  have e0 : Ext w (w.alloc (.map #[] 0)) := (by repeat (first | exact Ext.refl _ | assumption | refine Ext.alloc ?_ _ | refine Ext.drew ?_ | refine Ext.drewN ?_ _ | refine Ext.setCell ?_ (by first | omega | (simp; done) | (simp; omega)) _ | refine Ext.trans ?_ (by assumption)))
  obtain ⟨w1, r1, o1', t1⟩ := o0.store (e := 124) (t := 125) law_int Tryz.underlying125 (by unfold maxLen; omega) (key := .int .i64 0) (val := deedV 98) (keyOf_int_mk Tryz.underlying3 (by decide)) (d := .held (deedV 98)) (ps := []) rfl
  have o1 : w1.ownsMap Tryz.prog 3 RH w.heap.size 1 (Tab [((0 : Int), deedV 98)]) := by
    have h := tab_put [] 0 (deedV 98) (by simp)
    rw [h] at o1'
    exact o1'
  have e1 := dmap_turned e0 (Nat.le_refl _) t1
  clear o0 o1' e0 t1
  obtain ⟨w2, r2, o2', t2⟩ := o1.store (e := 124) (t := 125) law_int Tryz.underlying125 (by unfold maxLen; omega) (key := .int .i64 1) (val := deedV 100) (keyOf_int_mk Tryz.underlying3 (by decide)) (d := .held (deedV 100)) (ps := []) rfl
  have o2 : w2.ownsMap Tryz.prog 3 RH w.heap.size 2 (Tab [((0 : Int), deedV 98), ((1 : Int), deedV 100)]) := by
    have h := tab_put [((0 : Int), deedV 98)] 1 (deedV 100) (by simp)
    rw [h] at o2'
    exact o2'
  have e2 := dmap_turned e1 (Nat.le_refl _) t2
  clear o1 o2' e1 t2
  obtain ⟨w3, r3, o3', t3⟩ := o2.store (e := 124) (t := 125) law_int Tryz.underlying125 (by unfold maxLen; omega) (key := .int .i64 2) (val := deedV 102) (keyOf_int_mk Tryz.underlying3 (by decide)) (d := .held (deedV 102)) (ps := []) rfl
  have o3 : w3.ownsMap Tryz.prog 3 RH w.heap.size 3 (Tab [((0 : Int), deedV 98), ((1 : Int), deedV 100), ((2 : Int), deedV 102)]) := by
    have h := tab_put [((0 : Int), deedV 98), ((1 : Int), deedV 100)] 2 (deedV 102) (by simp)
    rw [h] at o3'
    exact o3'
  have e3 := dmap_turned e2 (Nat.le_refl _) t3
  clear o2 o3' e2 t3
  obtain ⟨w4, r4, o4', t4⟩ := o3.store (e := 124) (t := 125) law_int Tryz.underlying125 (by unfold maxLen; omega) (key := .int .i64 3) (val := deedV 103) (keyOf_int_mk Tryz.underlying3 (by decide)) (d := .held (deedV 103)) (ps := []) rfl
  have o4 : w4.ownsMap Tryz.prog 3 RH w.heap.size 4 (Tab [((0 : Int), deedV 98), ((1 : Int), deedV 100), ((2 : Int), deedV 102), ((3 : Int), deedV 103)]) := by
    have h := tab_put [((0 : Int), deedV 98), ((1 : Int), deedV 100), ((2 : Int), deedV 102)] 3 (deedV 103) (by simp)
    rw [h] at o4'
    exact o4'
  have e4 := dmap_turned e3 (Nat.le_refl _) t4
  clear o3 o4' e3 t4
  obtain ⟨w5, r5, o5', t5⟩ := o4.store (e := 124) (t := 125) law_int Tryz.underlying125 (by unfold maxLen; omega) (key := .int .i64 4) (val := deedV 105) (keyOf_int_mk Tryz.underlying3 (by decide)) (d := .held (deedV 105)) (ps := []) rfl
  have o5 : w5.ownsMap Tryz.prog 3 RH w.heap.size 5 (Tab [((0 : Int), deedV 98), ((1 : Int), deedV 100), ((2 : Int), deedV 102), ((3 : Int), deedV 103), ((4 : Int), deedV 105)]) := by
    have h := tab_put [((0 : Int), deedV 98), ((1 : Int), deedV 100), ((2 : Int), deedV 102), ((3 : Int), deedV 103)] 4 (deedV 105) (by simp)
    rw [h] at o5'
    exact o5'
  have e5 := dmap_turned e4 (Nat.le_refl _) t5
  clear o4 o5' e4 t5
  obtain ⟨w6, r6, o6', t6⟩ := o5.store (e := 124) (t := 125) law_int Tryz.underlying125 (by unfold maxLen; omega) (key := .int .i64 5) (val := deedV 107) (keyOf_int_mk Tryz.underlying3 (by decide)) (d := .held (deedV 107)) (ps := []) rfl
  have o6 : w6.ownsMap Tryz.prog 3 RH w.heap.size 6 (Tab [((0 : Int), deedV 98), ((1 : Int), deedV 100), ((2 : Int), deedV 102), ((3 : Int), deedV 103), ((4 : Int), deedV 105), ((5 : Int), deedV 107)]) := by
    have h := tab_put [((0 : Int), deedV 98), ((1 : Int), deedV 100), ((2 : Int), deedV 102), ((3 : Int), deedV 103), ((4 : Int), deedV 105)] 5 (deedV 107) (by simp)
    rw [h] at o6'
    exact o6'
  have e6 := dmap_turned e5 (Nat.le_refl _) t6
  clear o5 o6' e5 t6
  obtain ⟨w7, r7, o7', t7⟩ := o6.store (e := 124) (t := 125) law_int Tryz.underlying125 (by unfold maxLen; omega) (key := .int .i64 6) (val := deedV 109) (keyOf_int_mk Tryz.underlying3 (by decide)) (d := .held (deedV 109)) (ps := []) rfl
  have o7 : w7.ownsMap Tryz.prog 3 RH w.heap.size 7 (Tab [((0 : Int), deedV 98), ((1 : Int), deedV 100), ((2 : Int), deedV 102), ((3 : Int), deedV 103), ((4 : Int), deedV 105), ((5 : Int), deedV 107), ((6 : Int), deedV 109)]) := by
    have h := tab_put [((0 : Int), deedV 98), ((1 : Int), deedV 100), ((2 : Int), deedV 102), ((3 : Int), deedV 103), ((4 : Int), deedV 105), ((5 : Int), deedV 107)] 6 (deedV 109) (by simp)
    rw [h] at o7'
    exact o7'
  have e7 := dmap_turned e6 (Nat.le_refl _) t7
  clear o6 o7' e6 t7
  simp only [deedV] at r1 r2 r3 r4 r5 r6 r7
  go_enter Tryz.func64, Tryz.ntmps64
  go_wp2
  go_ret
  exact ⟨_, rfl, o7, e7⟩

theorem deeds_look {W : World} {b m g : Nat} (h : W.ownsMap Tryz.prog 3 RH b 7 (Tab deedsL)) (hm : m < 7) (hg : deedsL.find? (fun x => decide (x.1 = (m : Int))) = some ((m : Int), deedV g)) :
    (Instr.lookup 125 (.map (some b)) (.int .i64 m) false).run Tryz.prog W = .ok (.agg #[.func (.func g) #[] #[]]) W := by
  have hz : ∀ w, (zeroValue 124).run Tryz.prog w = .ok (.agg #[.nilFunc]) w := fun w => by kernel_rfl
  obtain ⟨u, ps, hrun, hu⟩ := h.lookup (t := 125) (e := 124) law_int Tryz.underlying125 (hz W) (zd := .held (.agg #[.nilFunc])) (zp := []) rfl (key := .int .i64 m) (keyOf_int_mk Tryz.underlying3 (WalkArith.wf_i64 ⟨by omega, by omega⟩))
  rw [tab_at, hg] at hu
  simp only [RH, Option.some.injEq, Prod.mk.injEq, DataW.held.injEq] at hu
  rw [hrun, hu.1]
  rfl

/-! ### the deeds -/
set_option maxHeartbeats 4000000 in
set_option maxRecDepth 20000 in
theorem deed0_any (v : Value) (t : List Ent) (x : OpT) (w : World) (hv : RdE w v t) (hx : x.fits) (_hl : t.length ≤ 1000000) :
    Calls Tryz.prog 98 #[v, .agg #[.int .i64 x.act, .string x.p, .string x.q, .int .i64 x.n, .string x.s]] w (TAns (doT t 0 x) w) := by
  have Hv := Lib.hid hv
  obtain ⟨A, c, rfl, _, _, _⟩ := rdE_form hv rfl
  obtain ⟨hp, hq, hs⟩ := hx
  have H0 := fun w h => Create_any (.slice A t.length c) t x.p w h hp
  clear hv
  obtain ⟨K, hK⟩ : ∃ K, TAns (doT t 0 x) w = K := ⟨_, rfl⟩
  rw [hK]
  have HK := Lib.hid hK
  clear hK
  go_enter Tryz.func98, Tryz.ntmps98
  go_wp2_with (go_at_call 99; refine (H0 _ (Hv.out.ext (by exact (by repeat (first | exact Ext.refl _ | assumption | refine Ext.alloc ?_ _ | refine Ext.drew ?_ | refine Ext.drewN ?_ _ | refine Ext.setCell ?_ (by first | omega | (simp; done) | (simp; omega)) _ | refine Ext.trans ?_ (by assumption)))))).mono ?_; rintro e W1 h1; obtain ⟨a, b, rfl⟩ := h1.pair; have hres := Lib.hid (h1.back (w := w) (by exact (by repeat (first | exact Ext.refl _ | assumption | refine Ext.alloc ?_ _ | refine Ext.drew ?_ | refine Ext.drewN ?_ _ | refine Ext.setCell ?_ (by first | omega | (simp; done) | (simp; omega)) _ | refine Ext.trans ?_ (by assumption))))); clear h1)
  rw [← HK.out]
  exact hres.out

set_option maxHeartbeats 4000000 in
set_option maxRecDepth 20000 in
theorem deed1_any (v : Value) (t : List Ent) (x : OpT) (w : World) (hv : RdE w v t) (hx : x.fits) (_hl : t.length ≤ 1000000) :
    Calls Tryz.prog 100 #[v, .agg #[.int .i64 x.act, .string x.p, .string x.q, .int .i64 x.n, .string x.s]] w (TAns (doT t 1 x) w) := by
  have Hv := Lib.hid hv
  obtain ⟨A, c, rfl, _, _, _⟩ := rdE_form hv rfl
  obtain ⟨hp, hq, hs⟩ := hx
  have H0 := fun w h => Mkdir_any (.slice A t.length c) t x.p w h hp
  clear hv
  obtain ⟨K, hK⟩ : ∃ K, TAns (doT t 1 x) w = K := ⟨_, rfl⟩
  rw [hK]
  have HK := Lib.hid hK
  clear hK
  go_enter Tryz.func100, Tryz.ntmps100
  go_wp2_with (go_at_call 101; refine (H0 _ (Hv.out.ext (by exact (by repeat (first | exact Ext.refl _ | assumption | refine Ext.alloc ?_ _ | refine Ext.drew ?_ | refine Ext.drewN ?_ _ | refine Ext.setCell ?_ (by first | omega | (simp; done) | (simp; omega)) _ | refine Ext.trans ?_ (by assumption)))))).mono ?_; rintro e W1 h1; obtain ⟨a, b, rfl⟩ := h1.pair; have hres := Lib.hid (h1.back (w := w) (by exact (by repeat (first | exact Ext.refl _ | assumption | refine Ext.alloc ?_ _ | refine Ext.drew ?_ | refine Ext.drewN ?_ _ | refine Ext.setCell ?_ (by first | omega | (simp; done) | (simp; omega)) _ | refine Ext.trans ?_ (by assumption))))); clear h1)
  rw [← HK.out]
  exact hres.out

set_option maxHeartbeats 4000000 in
set_option maxRecDepth 20000 in
theorem deed2_any (v : Value) (t : List Ent) (x : OpT) (w : World) (hv : RdE w v t) (hx : x.fits) (_hl : t.length ≤ 1000000) :
    Calls Tryz.prog 102 #[v, .agg #[.int .i64 x.act, .string x.p, .string x.q, .int .i64 x.n, .string x.s]] w (TAns (doT t 2 x) w) := by
  have Hv := Lib.hid hv
  obtain ⟨A, c, rfl, _, _, _⟩ := rdE_form hv rfl
  obtain ⟨hp, hq, hs⟩ := hx
  have H0 := fun w h => Write_any (.slice A t.length c) t x.p x.n x.s w h hp
  clear hv
  obtain ⟨K, hK⟩ : ∃ K, TAns (doT t 2 x) w = K := ⟨_, rfl⟩
  rw [hK]
  have HK := Lib.hid hK
  clear hK
  go_enter Tryz.func102, Tryz.ntmps102
  go_wp2_with (go_at_call 34; refine (H0 _ (Hv.out.ext (by exact (by repeat (first | exact Ext.refl _ | assumption | refine Ext.alloc ?_ _ | refine Ext.drew ?_ | refine Ext.drewN ?_ _ | refine Ext.setCell ?_ (by first | omega | (simp; done) | (simp; omega)) _ | refine Ext.trans ?_ (by assumption)))))).mono ?_; rintro e W1 h1; obtain ⟨a, b, rfl⟩ := h1.pair; have hres := Lib.hid (h1.back (w := w) (by exact (by repeat (first | exact Ext.refl _ | assumption | refine Ext.alloc ?_ _ | refine Ext.drew ?_ | refine Ext.drewN ?_ _ | refine Ext.setCell ?_ (by first | omega | (simp; done) | (simp; omega)) _ | refine Ext.trans ?_ (by assumption))))); clear h1)
  rw [← HK.out]
  exact hres.out

set_option maxHeartbeats 4000000 in
set_option maxRecDepth 20000 in
theorem deed3_any (v : Value) (t : List Ent) (x : OpT) (w : World) (hv : RdE w v t) (hx : x.fits) (_hl : t.length ≤ 1000000) :
    Calls Tryz.prog 103 #[v, .agg #[.int .i64 x.act, .string x.p, .string x.q, .int .i64 x.n, .string x.s]] w (TAns (doT t 3 x) w) := by
  have Hv := Lib.hid hv
  obtain ⟨A, c, rfl, _, _, _⟩ := rdE_form hv rfl
  obtain ⟨hp, hq, hs⟩ := hx
  have H0 := fun w h => Cut_any (.slice A t.length c) t x.p x.n w h hp
  clear hv
  obtain ⟨K, hK⟩ : ∃ K, TAns (doT t 3 x) w = K := ⟨_, rfl⟩
  rw [hK]
  have HK := Lib.hid hK
  clear hK
  go_enter Tryz.func103, Tryz.ntmps103
  go_wp2_with (go_at_call 104; refine (H0 _ (Hv.out.ext (by exact (by repeat (first | exact Ext.refl _ | assumption | refine Ext.alloc ?_ _ | refine Ext.drew ?_ | refine Ext.drewN ?_ _ | refine Ext.setCell ?_ (by first | omega | (simp; done) | (simp; omega)) _ | refine Ext.trans ?_ (by assumption)))))).mono ?_; rintro e W1 h1; obtain ⟨a, b, rfl⟩ := h1.pair; have hres := Lib.hid (h1.back (w := w) (by exact (by repeat (first | exact Ext.refl _ | assumption | refine Ext.alloc ?_ _ | refine Ext.drew ?_ | refine Ext.drewN ?_ _ | refine Ext.setCell ?_ (by first | omega | (simp; done) | (simp; omega)) _ | refine Ext.trans ?_ (by assumption))))); clear h1)
  rw [← HK.out]
  exact hres.out

set_option maxHeartbeats 4000000 in
set_option maxRecDepth 20000 in
theorem deed4_any (v : Value) (t : List Ent) (x : OpT) (w : World) (hv : RdE w v t) (hx : x.fits) (hl : t.length ≤ 1000000) :
    Calls Tryz.prog 105 #[v, .agg #[.int .i64 x.act, .string x.p, .string x.q, .int .i64 x.n, .string x.s]] w (TAns (doT t 4 x) w) := by
  have Hv := Lib.hid hv
  obtain ⟨A, c, rfl, _, _, _⟩ := rdE_form hv rfl
  obtain ⟨hp, hq, hs⟩ := hx
  have H0 := fun w h => Unlink_any (.slice A t.length c) t x.p w h hp hl
  clear hv
  obtain ⟨K, hK⟩ : ∃ K, TAns (doT t 4 x) w = K := ⟨_, rfl⟩
  rw [hK]
  have HK := Lib.hid hK
  clear hK
  go_enter Tryz.func105, Tryz.ntmps105
  go_wp2_with (go_at_call 106; refine (H0 _ (Hv.out.ext (by exact (by repeat (first | exact Ext.refl _ | assumption | refine Ext.alloc ?_ _ | refine Ext.drew ?_ | refine Ext.drewN ?_ _ | refine Ext.setCell ?_ (by first | omega | (simp; done) | (simp; omega)) _ | refine Ext.trans ?_ (by assumption)))))).mono ?_; rintro e W1 h1; obtain ⟨a, b, rfl⟩ := h1.pair; have hres := Lib.hid (h1.back (w := w) (by exact (by repeat (first | exact Ext.refl _ | assumption | refine Ext.alloc ?_ _ | refine Ext.drew ?_ | refine Ext.drewN ?_ _ | refine Ext.setCell ?_ (by first | omega | (simp; done) | (simp; omega)) _ | refine Ext.trans ?_ (by assumption))))); clear h1)
  rw [← HK.out]
  exact hres.out

set_option maxHeartbeats 4000000 in
set_option maxRecDepth 20000 in
theorem deed5_any (v : Value) (t : List Ent) (x : OpT) (w : World) (hv : RdE w v t) (hx : x.fits) (_hl : t.length ≤ 1000000) :
    Calls Tryz.prog 107 #[v, .agg #[.int .i64 x.act, .string x.p, .string x.q, .int .i64 x.n, .string x.s]] w (TAns (doT t 5 x) w) := by
  have Hv := Lib.hid hv
  obtain ⟨A, c, rfl, _, _, _⟩ := rdE_form hv rfl
  obtain ⟨hp, hq, hs⟩ := hx
  have H0 := fun w h => Rmdir_any (.slice A t.length c) t x.p w h hp
  clear hv
  obtain ⟨K, hK⟩ : ∃ K, TAns (doT t 5 x) w = K := ⟨_, rfl⟩
  rw [hK]
  have HK := Lib.hid hK
  clear hK
  go_enter Tryz.func107, Tryz.ntmps107
  go_wp2_with (go_at_call 108; refine (H0 _ (Hv.out.ext (by exact (by repeat (first | exact Ext.refl _ | assumption | refine Ext.alloc ?_ _ | refine Ext.drew ?_ | refine Ext.drewN ?_ _ | refine Ext.setCell ?_ (by first | omega | (simp; done) | (simp; omega)) _ | refine Ext.trans ?_ (by assumption)))))).mono ?_; rintro e W1 h1; obtain ⟨a, b, rfl⟩ := h1.pair; have hres := Lib.hid (h1.back (w := w) (by exact (by repeat (first | exact Ext.refl _ | assumption | refine Ext.alloc ?_ _ | refine Ext.drew ?_ | refine Ext.drewN ?_ _ | refine Ext.setCell ?_ (by first | omega | (simp; done) | (simp; omega)) _ | refine Ext.trans ?_ (by assumption))))); clear h1)
  rw [← HK.out]
  exact hres.out

set_option maxHeartbeats 4000000 in
set_option maxRecDepth 20000 in
theorem deed6_any (v : Value) (t : List Ent) (x : OpT) (w : World) (hv : RdE w v t) (hx : x.fits) (_hl : t.length ≤ 1000000) :
    Calls Tryz.prog 109 #[v, .agg #[.int .i64 x.act, .string x.p, .string x.q, .int .i64 x.n, .string x.s]] w (TAns (doT t 6 x) w) := by
  have Hv := Lib.hid hv
  obtain ⟨A, c, rfl, _, _, _⟩ := rdE_form hv rfl
  obtain ⟨hp, hq, hs⟩ := hx
  have H0 := fun w h => Rename_any (.slice A t.length c) t x.p x.q w h hp hq
  clear hv
  obtain ⟨K, hK⟩ : ∃ K, TAns (doT t 6 x) w = K := ⟨_, rfl⟩
  rw [hK]
  have HK := Lib.hid hK
  clear hK
  go_enter Tryz.func109, Tryz.ntmps109
  go_wp2_with (go_at_call 110; refine (H0 _ (Hv.out.ext (by exact (by repeat (first | exact Ext.refl _ | assumption | refine Ext.alloc ?_ _ | refine Ext.drew ?_ | refine Ext.drewN ?_ _ | refine Ext.setCell ?_ (by first | omega | (simp; done) | (simp; omega)) _ | refine Ext.trans ?_ (by assumption)))))).mono ?_; rintro e W1 h1; obtain ⟨a, b, rfl⟩ := h1.pair; have hres := Lib.hid (h1.back (w := w) (by exact (by repeat (first | exact Ext.refl _ | assumption | refine Ext.alloc ?_ _ | refine Ext.drew ?_ | refine Ext.drewN ?_ _ | refine Ext.setCell ?_ (by first | omega | (simp; done) | (simp; omega)) _ | refine Ext.trans ?_ (by assumption))))); clear h1)
  rw [← HK.out]
  exact hres.out

theorem tans_ext {r : Except Int (List Ent)} {w w' : World} {e : Ending} (h : TAns r w e w') : Ext w w' := by
  rcases r with c | l
  · obtain ⟨_, _, _, _, h⟩ := h
    exact h
  · obtain ⟨_, _, _, h⟩ := h
    exact h

/-! ### On -/

/-- edit.On. -/
def onT (t : List Ent) (x : OpT) : Except Int (List Ent) := if rightOp x = true then doT t x.act.toNat x else .error 1

theorem deed_enter : ∀ g, g ∈ [98, 100, 102, 103, 105, 107, 109] → ∀ args w, (callFunc g args).run Tryz.prog w = .ok (.enter g args) w := by
  intro g hg
  simp only [List.mem_cons, List.not_mem_nil, or_false] at hg
  rcases hg with rfl | rfl | rfl | rfl | rfl | rfl | rfl
  · exact enters_of Tryz.func98 (by kernel_rfl) rfl
  · exact enters_of Tryz.func100 (by kernel_rfl) rfl
  · exact enters_of Tryz.func102 (by kernel_rfl) rfl
  · exact enters_of Tryz.func103 (by kernel_rfl) rfl
  · exact enters_of Tryz.func105 (by kernel_rfl) rfl
  · exact enters_of Tryz.func107 (by kernel_rfl) rfl
  · exact enters_of Tryz.func109 (by kernel_rfl) rfl

set_option maxHeartbeats 8000000 in
set_option maxRecDepth 20000 in
theorem On_walk (v : Value) (t : List Ent) (m : Nat) (g : Nat) (x : OpT) (w : World) (hm : m < 7) (ha : x.act = (m : Int)) (hr : rightOp x = true) (eg : ∀ args w, (callFunc g args).run Tryz.prog w = .ok (.enter g args) w)
    (hg : deedsL.find? (fun x => decide (x.1 = (m : Int))) = some ((m : Int), deedV g)) (hv : RdE w v t)
    (HD : ∀ w, RdE w v t → Calls Tryz.prog g #[v, .agg #[.int .i64 x.act, .string x.p, .string x.q, .int .i64 x.n, .string x.s]] w (TAns (doT t m x) w)) :
    Calls Tryz.prog 32 #[v, .agg #[.int .i64 x.act, .string x.p, .string x.q, .int .i64 x.n, .string x.s]] w (TAns (doT t m x) w) := by
  have HR := fun w => EdRight_any x w
  rw [hr] at HR
  have Hv := Lib.hid hv
  obtain ⟨A, c, rfl, _, _, _⟩ := rdE_form hv rfl
  have Hg := Lib.hid hg
  obtain ⟨K, hK⟩ : ∃ K, TAns (doT t m x) w = K := ⟨_, rfl⟩
  rw [hK]
  have HK := Lib.hid hK
  have HDh := Lib.hid HD
  clear hv hg hK hr HD
  rw [ha] at HR HDh ⊢
  clear ha
  have hfield : ∀ w, (Instr.field 124 (.agg #[.func (.func g) #[] #[]]) 0).run Tryz.prog w = .ok (.func (.func g) #[] #[]) w := fun w => by first | kernel_rfl | rfl
  go_enter Tryz.func32, Tryz.ntmps32
  go_upto_region 3 with (go_at_call 51; refine (HR _).mono ?_; rintro e W1 ⟨rfl, hE1⟩)
  have hE1' : Ext w W1 := Ext.trans (by exact (by repeat (first | exact Ext.refl _ | assumption | refine Ext.alloc ?_ _ | refine Ext.drew ?_ | refine Ext.drewN ?_ _ | refine Ext.setCell ?_ (by first | omega | (simp; done) | (simp; omega)) _ | refine Ext.trans ?_ (by assumption)))) hE1
  have hB := (Blk.new w 60 #[.int .i64 m, .string x.p, .string x.q, .int .i64 x.n, .string x.s]).ext hE1
  obtain ⟨ob, hob⟩ : ∃ ob, w.heap.size = ob := ⟨_, rfl⟩
  rw [hob] at hB ⊢
  clear hob hE1
  obtain ⟨⟨x0, _⟩, ⟨x1, _⟩, ⟨x2, _⟩, ⟨x3, _⟩, ⟨x4, _⟩⟩ := hB.five
  have HD2 : Hid (∀ W, Ext W1 W → Calls Tryz.prog g #[.slice A t.length c, .agg #[.int .i64 m, .string x.p, .string x.q, .int .i64 x.n, .string x.s]] W (TAns (doT t m x) W)) := Lib.hid fun W he => HDh.out W (Hv.out.ext (hE1'.trans he))
  clear HDh
  go_region_held3 (fun w' => w'.cell? ⟨ob, 0, none⟩ = some (.int .i64 m) ∧ w'.cell? ⟨ob, 1, none⟩ = some (.string x.p) ∧ w'.cell? ⟨ob, 2, none⟩ = some (.string x.q) ∧ w'.cell? ⟨ob, 3, none⟩ = some (.int .i64 x.n) ∧ w'.cell? ⟨ob, 4, none⟩ = some (.string x.s))
    (first | go_keep | exact ⟨hE2.cell x0, hE2.cell x1, hE2.cell x2, hE2.cell x3, hE2.cell x4⟩ | exact ⟨hE3.cell x0, hE3.cell x1, hE3.cell x2, hE3.cell x3, hE3.cell x4⟩)
    (first
      | (go_at_call 64; refine (deeds_any _).mono ?_; rintro e W2 ⟨db, rfl, hmap, hE2'⟩; have hE2 : Ext W1 W2 := Ext.trans (by exact (by repeat (first | exact Ext.refl _ | assumption | refine Ext.alloc ?_ _ | refine Ext.drew ?_ | refine Ext.drewN ?_ _ | refine Ext.setCell ?_ (by first | omega | (simp; done) | (simp; omega)) _ | refine Ext.trans ?_ (by assumption)))) hE2'; have hlook := deeds_look hmap hm Hg.out)
      | (go_at_fn g; refine (HD2.out _ hE2).mono ?_; rintro e W3 h3; obtain ⟨a, b, rfl⟩ := h3.pair; have hE3' := Lib.hid h3; have hE3 : Ext W1 W3 := hE2.trans (tans_ext h3); clear h3))
  all_goals
    go_wp2
    rw [← HK.out]
    exact hE3'.out.back (hE1'.trans hE2)

theorem On_any (v : Value) (t : List Ent) (x : OpT) (w : World) (hv : RdE w v t) (hx : x.fits) (hl : t.length ≤ 1000000) :
    Calls Tryz.prog 32 #[v, .agg #[.int .i64 x.act, .string x.p, .string x.q, .int .i64 x.n, .string x.s]] w (TAns (onT t x) w) := by
  rcases hr : rightOp x with _ | _
  · have hon : onT t x = .error 1 := by rw [onT, hr]; rfl
    rw [hon]
    show Calls _ _ _ _ (TBad 1 w)
    have HR := fun w => EdRight_any x w
    rw [hr] at HR
    obtain ⟨A, c, rfl, _, _, _⟩ := rdE_form hv rfl
    clear hr hon hv
    go_enter Tryz.func32, Tryz.ntmps32
    go_wp2_with (first
      | (go_at_call 51; refine (HR _).mono ?_; rintro e W1 ⟨rfl, hE1⟩; have hB := (Blk.new w 60 #[.int .i64 x.act, .string x.p, .string x.q, .int .i64 x.n, .string x.s]).ext hE1; obtain ⟨⟨x0, _⟩, ⟨x1, _⟩, ⟨x2, _⟩, ⟨x3, _⟩, ⟨x4, _⟩⟩ := hB.five)
      | (go_at_call 38; refine (fail_At_c _ _ _ _).mono ?_; rintro e W2 ⟨⟨a, rfl, hv2⟩, hE2⟩))
    go_ret2
    exact ⟨_, 1, rfl, hv2, Ext.trans (by exact (by repeat (first | exact Ext.refl _ | assumption | refine Ext.alloc ?_ _ | refine Ext.drew ?_ | refine Ext.drewN ?_ _ | refine Ext.setCell ?_ (by first | omega | (simp; done) | (simp; omega)) _ | refine Ext.trans ?_ (by assumption)))) hE2⟩
  · have hon : onT t x = doT t x.act.toNat x := by rw [onT, hr]; rfl
    rw [hon]
    obtain ⟨h1, h2, _⟩ := rightOp_iff.1 hr
    have h7 : x.act = 0 ∨ x.act = 1 ∨ x.act = 2 ∨ x.act = 3 ∨ x.act = 4 ∨ x.act = 5 ∨ x.act = 6 := by omega
    rcases h7 with h | h | h | h | h | h | h
    · have hm : x.act.toNat = 0 := by rw [h]; rfl
      rw [hm]
      exact On_walk v t 0 98 x w (by decide) h hr (deed_enter _ (by decide)) (by rfl) hv fun w hv => deed0_any v t x w hv hx hl
    · have hm : x.act.toNat = 1 := by rw [h]; rfl
      rw [hm]
      exact On_walk v t 1 100 x w (by decide) h hr (deed_enter _ (by decide)) (by rfl) hv fun w hv => deed1_any v t x w hv hx hl
    · have hm : x.act.toNat = 2 := by rw [h]; rfl
      rw [hm]
      exact On_walk v t 2 102 x w (by decide) h hr (deed_enter _ (by decide)) (by rfl) hv fun w hv => deed2_any v t x w hv hx hl
    · have hm : x.act.toNat = 3 := by rw [h]; rfl
      rw [hm]
      exact On_walk v t 3 103 x w (by decide) h hr (deed_enter _ (by decide)) (by rfl) hv fun w hv => deed3_any v t x w hv hx hl
    · have hm : x.act.toNat = 4 := by rw [h]; rfl
      rw [hm]
      exact On_walk v t 4 105 x w (by decide) h hr (deed_enter _ (by decide)) (by rfl) hv fun w hv => deed4_any v t x w hv hx hl
    · have hm : x.act.toNat = 5 := by rw [h]; rfl
      rw [hm]
      exact On_walk v t 5 107 x w (by decide) h hr (deed_enter _ (by decide)) (by rfl) hv fun w hv => deed5_any v t x w hv hx hl
    · have hm : x.act.toNat = 6 := by rw [h]; rfl
      rw [hm]
      exact On_walk v t 6 109 x w (by decide) h hr (deed_enter _ (by decide)) (by rfl) hv fun w hv => deed6_any v t x w hv hx hl

/-! ### done -/

theorem putU_len (l : List Ent) (e : Ent) : (putU l e).length ≤ l.length + ((namesD e.path).length - 1) + 1 := by
  rw [putU, insT_len]
  have h1 := dirsU_len l (namesD e.path) ((namesD e.path).length - 1)
  have h2 := delT_len (dirsU l (namesD e.path) ((namesD e.path).length - 1)) e.path
  omega
theorem namesD_len (p : ByteArray) : (namesD p).length ≤ 6 := by
  rw [namesD]
  rcases h : names p with _ | ns
  · simp
  · exact (ValN.of h).1.2
theorem removeU_len (low : List (List Ent)) (l : List Ent) (p : ByteArray) : (removeU low l p).length ≤ l.length + 6 := by
  have h1 : (outU l p).length ≤ l.length := List.length_filter_le _ _
  rw [removeU]
  split
  · have h2 := putU_len (outU l p) ⟨p, 3, ⟨#[]⟩⟩
    have h3 := namesD_len p
    have h4 : (namesD (⟨p, 3, ⟨#[]⟩⟩ : Ent).path).length ≤ 6 := h3
    omega
  · omega
theorem removeU_rising {low : List (List Ent)} {l : List Ent} {p : ByteArray} (hr : Rising l) : Rising (removeU low l p) := by
  rw [removeU]
  split
  · exact (put_find (out_rising hr p) _).1
  · exact out_rising hr p

set_option maxHeartbeats 8000000 in
set_option maxRecDepth 20000 in
theorem uDone_any {w0 w : World} {ub : Nat} {lv v tv : Value} {l t : List Ent} (low : List (List Ent)) (m : Nat) (x : OpT) (h : Up w0 ub lv v l w) (hlow : RdK w0 lv low) (hll : low.length ≤ 1000) (ht : RdE w0 tv t) (hl : l.length ≤ 1000) (hr : Rising l) (hm : m < 7)
    (hp : ∃ ns, names x.p = some ns ∧ ns ≠ []) (hq : m = 6 → ∃ ns, names x.q = some ns ∧ ns ≠ []) :
    Calls Tryz.prog 56 #[.pointer (some ⟨ub, 0, none⟩), tv, .agg #[.int .i64 m, .string x.p, .string x.q, .int .i64 x.n, .string x.s]] w (UpAns w0 ub lv v (doneU low t l m x) w) := by
  obtain ⟨nsp, hnp, hp0⟩ := hp
  have hE1 : Ext w (w.alloc (.cells #[.int .i64 m, .string x.p, .string x.q, .int .i64 x.n, .string x.s] 60)) := (Ext.refl w).alloc _
  have hB := Blk.new w 60 #[.int .i64 m, .string x.p, .string x.q, .int .i64 x.n, .string x.s]
  have h1 := h.step hE1
  have hold := h.old (Nat.le_refl w.heap.size)
  have HM := uMake_any x.p nsp h1 (by omega) hr hnp hp0
  have HR := uRemove_any low x.p nsp h1 hlow hll (by omega) hr hnp hp0
  have HF := uFile_any x.p nsp h1 ht (by omega) hr hnp hp0
  have HFq : m = 6 → ∀ (W : World) (v2 : Value), Up w0 ub lv v2 (removeU low l x.p) W → Calls Tryz.prog 93 #[.pointer (some ⟨ub, 0, none⟩), tv, .string x.q] W (UpAns w0 ub lv v2 (fileU t (removeU low l x.p) x.q) W) := fun h6 W v2 hu => by
    obtain ⟨nsq, hnq, hq0⟩ := hq h6
    exact uFile_any x.q nsq hu ht (by have := removeU_len low l x.p; omega) (removeU_rising hr) hnq hq0
  have HFqh := Lib.hid HFq
  have Hold := Lib.hid hold
  have HBh := Lib.hid hB
  have HE1 := Lib.hid hE1
  obtain ⟨A, c, rfl, _, _, _⟩ := rdE_form ht rfl
  obtain ⟨⟨x0, _⟩, ⟨x1, _⟩, ⟨x2, _⟩, ⟨x3, _⟩, ⟨x4, _⟩⟩ := hB.five
  clear h h1 hlow ht hr hnp hp0 hq HFq hold hB hE1
  have h7 : m = 0 ∨ m = 1 ∨ m = 2 ∨ m = 3 ∨ m = 4 ∨ m = 5 ∨ m = 6 := by omega
  rcases h7 with rfl | rfl | rfl | rfl | rfl | rfl | rfl
  · show Calls _ _ _ _ (UpAns w0 ub lv v (fileU t l x.p) w)
    go_enter Tryz.func56, Tryz.ntmps56
    go_wp2_with (go_at_call 93; refine HF.mono ?_; rintro e W1 ⟨rfl, v1, hup1, hmv1⟩)
    go_end0
    exact ⟨rfl, v1, hup1, (Moved.of_ext HE1.out).trans hmv1⟩
  · show Calls _ _ _ _ (UpAns w0 ub lv v (makeU l x.p) w)
    go_enter Tryz.func56, Tryz.ntmps56
    go_wp2_with (go_at_call 91; refine HM.mono ?_; rintro e W1 ⟨rfl, v1, hup1, hmv1⟩)
    go_end0
    exact ⟨rfl, v1, hup1, (Moved.of_ext HE1.out).trans hmv1⟩
  · show Calls _ _ _ _ (UpAns w0 ub lv v (fileU t l x.p) w)
    go_enter Tryz.func56, Tryz.ntmps56
    go_wp2_with (go_at_call 93; refine HF.mono ?_; rintro e W1 ⟨rfl, v1, hup1, hmv1⟩)
    go_end0
    exact ⟨rfl, v1, hup1, (Moved.of_ext HE1.out).trans hmv1⟩
  · show Calls _ _ _ _ (UpAns w0 ub lv v (fileU t l x.p) w)
    go_enter Tryz.func56, Tryz.ntmps56
    go_wp2_with (go_at_call 93; refine HF.mono ?_; rintro e W1 ⟨rfl, v1, hup1, hmv1⟩)
    go_end0
    exact ⟨rfl, v1, hup1, (Moved.of_ext HE1.out).trans hmv1⟩
  · show Calls _ _ _ _ (UpAns w0 ub lv v (removeU low l x.p) w)
    go_enter Tryz.func56, Tryz.ntmps56
    go_wp2_with (go_at_call 92; refine HR.mono ?_; rintro e W1 ⟨rfl, v1, hup1, hmv1⟩)
    go_end0
    exact ⟨rfl, v1, hup1, (Moved.of_ext HE1.out).trans hmv1⟩
  · show Calls _ _ _ _ (UpAns w0 ub lv v (removeU low l x.p) w)
    go_enter Tryz.func56, Tryz.ntmps56
    go_wp2_with (go_at_call 92; refine HR.mono ?_; rintro e W1 ⟨rfl, v1, hup1, hmv1⟩)
    go_end0
    exact ⟨rfl, v1, hup1, (Moved.of_ext HE1.out).trans hmv1⟩
  · show Calls _ _ _ _ (UpAns w0 ub lv v (fileU t (removeU low l x.p) x.q) w)
    go_enter Tryz.func56, Tryz.ntmps56
    go_wp2_with (first
      | (go_at_call 92; refine HR.mono ?_; rintro e W1 ⟨rfl, v1, hup1, hmv1⟩; obtain ⟨⟨y0, _⟩, ⟨y1, _⟩, ⟨y2, _⟩, ⟨y3, _⟩, ⟨y4, _⟩⟩ := (hmv1.blk HBh.out Hold.out.1 Hold.out.2).five)
      | (go_at_call 93; refine (HFqh.out (by first | rfl | trivial) _ _ hup1).mono ?_; rintro e W2 ⟨rfl, v2, hup2, hmv2⟩))
    go_end0
    exact ⟨rfl, v2, hup2, (Moved.of_ext HE1.out).trans (hmv1.trans hmv2)⟩

/-- What goes well has paths. -/
theorem doT_names {t t' : List Ent} {m : Nat} {x : OpT} (ht : treeOk t = true) (hm : m < 7) (h : doT t m x = .ok t') : (∃ ns, names x.p = some ns ∧ ns ≠ []) ∧ (m = 6 → ∃ ns, names x.q = some ns ∧ ns ≠ []) := by
  have mk : ∀ {p : ByteArray}, (∃ ys z, names p = some (ys ++ [z])) → ∃ ns, names p = some ns ∧ ns ≠ [] := fun ⟨ys, z, h⟩ => ⟨_, h, by simp⟩
  rw [doT] at h
  have h7 : m = 0 ∨ m = 1 ∨ m = 2 ∨ m = 3 ∨ m = 4 ∨ m = 5 ∨ m = 6 := by omega
  rcases h7 with rfl | rfl | rfl | rfl | rfl | rfl | rfl
  · have h : madeT t x.p 1 = .ok t' := h
    obtain ⟨_, hp, _⟩ := made_all h (.inl rfl)
    exact ⟨mk (place_zero hp ht).1, fun h => by omega⟩
  · have h : madeT t x.p 2 = .ok t' := h
    obtain ⟨_, hp, _⟩ := made_all h (.inr rfl)
    exact ⟨mk (place_zero hp ht).1, fun h => by omega⟩
  · have h : writeT t x.p x.n x.s = .ok t' := h
    rw [writeT] at h
    split at h
    · cases h
    · rename_i e hf
      exact ⟨mk (fileT_find hf).2.2.2.2, fun h => by omega⟩
  · have h : cutT t x.p x.n = .ok t' := h
    rw [cutT] at h
    split at h
    · cases h
    · rename_i e hf
      exact ⟨mk (fileT_find hf).2.2.2.2, fun h => by omega⟩
  · have h : unlinkT t x.p = .ok t' := h
    rw [unlinkT] at h
    split at h
    · cases h
    · rename_i e hf
      exact ⟨mk (fileT_find hf).2.2.2.2, fun h => by omega⟩
  · have h : rmdirT t x.p = .ok t' := h
    rw [rmdirT] at h
    split at h
    · cases h
    · rename_i c hf
      split at h
      · rename_i hc
        subst hc
        obtain ⟨_, e, _, _, hn⟩ := fileT_dir hf
        exact ⟨mk hn, fun h => by omega⟩
      · cases h
  · have h : renameT t x.p x.q = .ok t' := h
    obtain ⟨e, hf, _, _, _, hfz, _⟩ := moved h
    exact ⟨mk (fileT_find hf).2.2.2.2, fun _ => mk (fileT_find hfz).2.2.2.2⟩
end Go.Proofs.YtneefmgidplbcaaGreatDoor

/-! EditO -/
namespace Go.Proofs.YtneefmgidplbcaaGreatDoor
open Go Go.RowKit Go.Shelf Go.Proofs Go.Maps

/-- The first layer that isn't right, or -1. -/
def badI (s : List (List Ent)) : Int := match s.findIdx? (fun l => !layerOk l) with
  | some k => k
  | none => -1
theorem badI_none {s : List (List Ent)} (h : ∀ l ∈ s, layerOk l = true) : badI s = -1 := by
  have : s.findIdx? (fun l => !layerOk l) = none := List.findIdx?_eq_none_iff.2 fun x hx => by simp [h x hx]
  rw [badI, this]
theorem badI_some {s : List (List Ent)} {k : Nat} (hk : k < s.length) (h : layerOk s[k] = false) (hb : ∀ (t : Nat) (h : t < s.length), t < k → layerOk s[t] = true) : badI s = k := by
  have : s.findIdx? (fun l => !layerOk l) = some k := by
    rw [List.findIdx?_eq_some_iff_getElem]
    refine ⟨hk, by simp [h], fun j hj => ?_⟩
    simp [hb j (by omega) hj]
  rw [badI, this]

set_option maxHeartbeats 1000000 in
theorem Do1_any (v : Value) (l : List Ent) (W : World) (hv : RdE W v l) : Calls Tryz.prog 53 #[v] W fun e w' => e = .returned (.bool (!layerOk l)) ∧ Ext W w' := by
  have HR := LRight_any v l W hv
  obtain ⟨A, c, rfl, _, _, _⟩ := rdE_form hv rfl
  obtain ⟨b, hb⟩ : ∃ b, layerOk l = b := ⟨_, rfl⟩
  rw [hb] at HR ⊢
  clear hv hb
  go_enter Tryz.func53, Tryz.ntmps53
  go_wp2_with (go_at_call 26; refine HR.mono ?_; rintro e W1 ⟨rfl, hE1⟩)
  go_ret
  exact ⟨rfl, hE1⟩

theorem rdK_form2 {w : World} {v : Value} {s : List (List Ent)} {n : Nat} (hv : RdK w v s) (hn : n = s.length) :
    ∃ A c, v = .slice A n c ∧ n ≤ c ∧ c ≤ 9223372036854775807 ∧ Hid (s ≠ [] → ∃ b o, A = some ⟨b, o, none⟩ ∧ ∀ (j : Nat) (h : j < s.length), ∃ A' c', w.cell? ⟨b, o + j, Option.none⟩ = some (.slice A' s[j].length c') ∧ RdE w (.slice A' s[j].length c') s[j]) := by
  by_cases h0 : s = []
  · obtain ⟨A, c, e, h1, h2, _⟩ := hv
    rw [← hn] at e h1
    exact ⟨A, c, e, h1, h2, Lib.hid fun h => absurd h0 h⟩
  · obtain ⟨b, o, c, e, h1, h2, hc⟩ := RdK.open_ hv h0
    rw [← hn] at e h1
    refine ⟨_, c, e, h1, h2, Lib.hid fun _ => ⟨b, o, rfl, fun j hj => ?_⟩⟩
    obtain ⟨u, h3, h4⟩ := hc j hj
    obtain ⟨A', c', rfl, _⟩ := id h4
    exact ⟨A', c', h3, h4⟩

set_option maxHeartbeats 2000000 in
theorem IdxK_any (v : Value) (s : List (List Ent)) (w : World) (hv : RdK w v s) :
    Calls Tryz.prog 86 #[v, .func (.func 53) #[] #[]] w fun e w' => e = .returned (.int .i64 (badI s)) ∧ Ext w w' := by
  obtain ⟨n, hn⟩ : ∃ n, n = s.length := ⟨_, rfl⟩
  have Hn := Lib.hid hn
  have hlen := Rd.len hv
  obtain ⟨A, c, rfl, hc1, hc2, Hcell⟩ := rdK_form2 hv hn
  rw [← hn] at hlen
  have eg : ∀ args w, (callFunc 53 args).run Tryz.prog w = .ok (.enter 53 args) w := enters_of Tryz.func53 (by kernel_rfl) rfl
  clear hn hv
  go_enter Tryz.func86, Tryz.ntmps86
  go_wp2
  go_loopw [8] (fun i wr => ∃ k : Nat, i = .int .i64 k ∧ k ≤ n ∧ Hid (∀ (t : Nat) (h : t < s.length), t < k → layerOk s[t] = true) ∧ Ext w wr) (fun i _ => n - (intOf i).toNat)
  case atStart => exact ⟨0, rfl, Nat.zero_le _, Lib.hid fun t _ h => absurd h (Nat.not_lt_zero t), Ext.refl _⟩
  case round =>
    obtain ⟨k, rfl, hkn, hall, hE⟩ := hrel
    by_cases hlt : k < n
    · have hh : k < s.length := by have := Hn.out; omega
      obtain ⟨b, o, rfl, hcell⟩ := Hcell.out (List.ne_nil_of_length_pos (by omega))
      obtain ⟨A', c', q0, hrd⟩ := hcell k hh
      obtain ⟨x, hx⟩ : ∃ x, s[k]'hh = x := ⟨_, rfl⟩
      rw [hx] at q0 hrd
      have g0 := hE.cell q0
      have Hx := Lib.hid hx
      have HC := Do1_any _ x wr (hrd.ext hE)
      clear q0 hx hcell hrd
      rcases hp : layerOk x with _ | _
      · rw [hp] at HC
        have HC2 : Calls Tryz.prog 53 #[.slice A' x.length c'] wr fun e w' => e = .returned (.bool true) ∧ Ext wr w' := HC
        have hi : badI s = k := badI_some hh (by rw [Hx.out]; exact hp) hall.out
        clear hp HC
        go_wp2_with (go_at_fn 53; refine HC2.mono ?_; rintro e W2 ⟨rfl, hE2⟩)
        go_ret
        exact ⟨by first | rfl | (rw [hi]; rfl), hE.trans hE2⟩
      · rw [hp] at HC
        have HC2 : Calls Tryz.prog 53 #[.slice A' x.length c'] wr fun e w' => e = .returned (.bool false) ∧ Ext wr w' := HC
        have Hp := Lib.hid hp
        clear hp HC
        go_wp2_with (go_at_fn 53; refine HC2.mono ?_; rintro e W2 ⟨rfl, hE2⟩)
        refine ⟨⟨k + 1, by simp, by omega, Lib.hid fun t ht htk => ?_, hE.trans hE2⟩, by simp [intOf]; omega⟩
        by_cases e : t = k
        · subst e; rw [Hx.out]; exact Hp.out
        · exact hall.out t ht (by omega)
    · have hi : badI s = -1 := badI_none fun x hx => by
        obtain ⟨t, ht, rfl⟩ := List.getElem_of_mem hx
        exact hall.out t ht (by have := Hn.out; omega)
      go_wp2
      go_ret
      exact ⟨by first | rfl | (rw [hi]; rfl), hE⟩

theorem badI_all (s : List (List Ent)) : (badI s = -1 ∧ ∀ l ∈ s, layerOk l = true) ∨ ∃ k : Nat, badI s = (k : Int) ∧ ¬ ∀ l ∈ s, layerOk l = true := by
  rcases h : s.findIdx? (fun l => !layerOk l) with _ | k
  · left
    rw [badI, h]
    refine ⟨rfl, fun l hl => ?_⟩
    have := List.findIdx?_eq_none_iff.1 h l hl
    simpa using this
  · right
    obtain ⟨hk, h1, _⟩ := List.findIdx?_eq_some_iff_getElem.1 h
    refine ⟨k, by rw [badI, h], fun ha => ?_⟩
    rw [ha _ (List.getElem_mem hk)] at h1
    cases h1

set_option maxHeartbeats 1000000 in
theorem ContK_any (v : Value) (s : List (List Ent)) (w : World) (hv : RdK w v s) :
    Calls Tryz.prog 52 #[v, .func (.func 53) #[] #[]] w fun e w' => e = .returned (.bool (!s.all layerOk)) ∧ Ext w w' := by
  have HI := IdxK_any v s w hv
  obtain ⟨A, c, rfl, _, _, _⟩ := rdK_form2 hv rfl
  clear hv
  rcases badI_all s with ⟨h1, h2⟩ | ⟨k, h1, h2⟩
  · have ha : s.all layerOk = true := by rw [List.all_eq_true]; exact h2
    rw [h1] at HI
    rw [ha]
    have hge : ¬ ((0 : Int) ≤ -1) := by decide
    clear h1 h2 ha
    go_enter Tryz.func52, Tryz.ntmps52
    go_wp2_with (go_at_call 86; refine HI.mono ?_; rintro e W1 ⟨rfl, hE1⟩)
    go_ret
    exact ⟨rfl, hE1⟩
  · have ha : s.all layerOk = false := by
      rcases h : s.all layerOk with _ | _
      · rfl
      · exact absurd (List.all_eq_true.1 h) h2
    rw [h1] at HI
    rw [ha]
    have hge : (0 : Int) ≤ (k : Int) := by omega
    clear h1 h2 ha
    go_enter Tryz.func52, Tryz.ntmps52
    go_wp2_with (go_at_call 86; refine HI.mono ?_; rintro e W1 ⟨rfl, hE1⟩)
    go_ret
    exact ⟨by first | rfl | simp, hE1⟩

/-! ### Do -/

/-- edit.Do. -/
def doE (low : List (List Ent)) (up : List Ent) (x : OpT) : Except Int (List Ent) :=
  if rightOp x = true then (if stackOk (low ++ [up]) = true then (match doT (foldT (low ++ [up])) x.act.toNat x with
    | .error c => .error c
    | .ok t => if layerOk (doneU low t up x.act.toNat x) = true then .ok (doneU low t up x.act.toNat x) else .error 9) else .error 16) else .error 1

theorem stackOk_all {low : List (List Ent)} {up : List Ent} : stackOk (low ++ [up]) = (decide (low.length ≤ 8) && (low ++ [up]).all layerOk) := by
  rw [stackOk, List.length_append, List.length_singleton]
  congr 1
  rw [Bool.eq_iff_iff, decide_eq_true_eq, decide_eq_true_eq]
  omega

theorem fileU_len (t l : List Ent) (p : ByteArray) : (fileU t l p).length ≤ l.length + 6 := by
  have h2 := putU_len l ⟨p, 1, dataT t p⟩
  have h4 : (namesD (⟨p, 1, dataT t p⟩ : Ent).path).length ≤ 6 := namesD_len p
  rw [fileU]
  omega
theorem makeU_len (l : List Ent) (p : ByteArray) : (makeU l p).length ≤ l.length + 6 := by
  have h2 := putU_len l ⟨p, if whiteB l p = true then 4 else 2, ⟨#[]⟩⟩
  have h4 : (namesD (⟨p, if whiteB l p = true then 4 else 2, ⟨#[]⟩⟩ : Ent).path).length ≤ 6 := namesD_len p
  rw [makeU]
  omega
theorem doneU_len (low : List (List Ent)) (t l : List Ent) (m : Nat) (x : OpT) : (doneU low t l m x).length ≤ l.length + 12 := by
  rw [doneU]
  split
  · have := makeU_len l x.p; omega
  · split
    · have := fileU_len t (removeU low l x.p) x.q
      have := removeU_len low l x.p
      omega
    · split
      · have := removeU_len low l x.p; omega
      · have := fileU_len t l x.p; omega

set_option maxHeartbeats 16000000 in
set_option maxRecDepth 20000 in
theorem EdDo_any (v u : Value) (low : List (List Ent)) (up : List Ent) (x : OpT) (w : World) (hv : RdK w v low) (hu : RdE w u up) (hx : x.fits) (hll : low.length ≤ 1000) :
    Calls Tryz.prog 23 #[v, u, .agg #[.int .i64 x.act, .string x.p, .string x.q, .int .i64 x.n, .string x.s]] w (TAns (doE low up x) w) := by
  have hE0 : Ext w (w.alloc (.cells #[.int .i64 x.act, .string x.p, .string x.q, .int .i64 x.n, .string x.s] 60)) := (Ext.refl w).alloc _
  have HCl := CloneK_any v low (w.alloc (.cells #[.int .i64 x.act, .string x.p, .string x.q, .int .i64 x.n, .string x.s] 60)) (hv.ext hE0) (by omega)
  have HR := fun w => EdRight_any x w
  have hB := Blk.new w 60 #[.int .i64 x.act, .string x.p, .string x.q, .int .i64 x.n, .string x.s]
  have Hv := Lib.hid hv
  have Hu := Lib.hid hu
  have Hx := Lib.hid hx
  have HB := Lib.hid hB
  have HE0 := Lib.hid hE0
  obtain ⟨i0, hi, hz0, hz1, hz2⟩ := info_parts info_lay
  obtain ⟨n, hn⟩ : ∃ n, n = low.length := ⟨_, rfl⟩
  have Hn := Lib.hid hn
  obtain ⟨A, c, rfl, _, _, _⟩ := rdK_form2 hv hn
  obtain ⟨A2, c2, rfl, _, _, _⟩ := rdE_form hu rfl
  rw [← hn] at hll
  obtain ⟨K, hK⟩ : ∃ K, TAns (doE low up x) w = K := ⟨_, rfl⟩
  rw [hK]
  have HK := Lib.hid hK
  obtain ⟨ob, hob⟩ : ∃ ob, w.heap.size = ob := ⟨_, rfl⟩
  have Hob := Lib.hid hob
  clear hv hu hx hB hE0 hn hK hob
  go_enter Tryz.func23, Tryz.ntmps23
  go_upto_region 2 with (first
    | (go_at_call 50; refine HCl.mono ?_; rintro e W1 ⟨v1, us, rfl, hul, hown, hur, hE1⟩; have Hul := Lib.hid hul; have Hown := Lib.hid hown; clear hul hown; obtain ⟨A1, c1, rfl⟩ := own_form Hown.out)
    | (at_builtin; refine wpList_append_own _ rfl _ _ 22 rfl _ 54 i0 (.slice none 0 0) 1 24 Tryz.underlying22 hi hz0 hz1 hz2 rfl (by decide) _ _ _ rfl (Hown.out.alloc _) ⟨W1.heap.size, 0, none⟩ 1 1 [.slice A2 up.length c2] rfl rfl (World.news_of_block (cs := #[.slice A2 up.length c2]) (t := 54) (fr := (0, 0)) (Blk.new W1 _ _)) (by simp [Value.oneCell']) (by have := Hul.out; have := Hn.out; unfold maxLen; omega) (by have := Hul.out; have := Hn.out; omega) (Nat.le_trans hE1.size (by rw [World.size_alloc]; omega)) ?_; intro v3 W3 hown3 hgrow3 hnil3))
  have hE3 := Ext.grown (hE1.alloc (.cells #[.slice A2 up.length c2] 54)) hgrow3 (fun k hk => (Hown.out.lt k hk).1)
  have hEw3 : Ext w W3 := HE0.out.trans hE3
  have hrk := rdK_snoc hown3 Hul.out (by have := Hn.out; omega) hur hE3 (Hu.out.ext hEw3)
  have hB3 := HB.out.ext hE3
  rw [Hob.out] at hB3 ⊢
  obtain ⟨A3, c3, rfl⟩ := own_form hown3
  obtain ⟨⟨x0, _⟩, ⟨x1, _⟩, ⟨x2, _⟩, ⟨x3, _⟩, ⟨x4, _⟩⟩ := hB3.five
  obtain ⟨n1, hn1⟩ : ∃ n1, us.length + 1 = n1 := ⟨_, rfl⟩
  rw [hn1] at hrk ⊢
  have Hrk := Lib.hid hrk
  have HB3 := Lib.hid hB3
  clear hown3 hgrow3 hnil3 hE3 hur HCl hE1 Hown hrk hB3 hn1 Hul hi hz0 hz1 hz2
  have HCn := fun (W : World) (he : Ext W3 W) => ContK_any _ (low ++ [up]) W (Hrk.out.ext he)
  rcases hr : rightOp x with _ | _
  · have hd : doE low up x = .error 1 := by rw [doE, hr]; rfl
    have Hd := Lib.hid hd
    rw [hr] at HR
    clear hr hd HCn
    go_wp2_with (first
      | (go_at_call 51; refine (HR _).mono ?_; rintro e W4 ⟨rfl, hE4⟩; have z0 := hE4.cell x0; have z1 := hE4.cell x1; have z2 := hE4.cell x2; have z3 := hE4.cell x3; have z4 := hE4.cell x4)
      | (go_at_call 38; refine (fail_At_c _ _ _ _).mono ?_; rintro e W5 ⟨⟨a, rfl, hv5⟩, hE5⟩))
    rw [← HK.out, Hd.out]
    exact ⟨_, 1, rfl, hv5, hEw3.trans (hE4.trans hE5)⟩
  · have hm : ∃ m : Nat, x.act = (m : Int) ∧ m < 7 := by
      obtain ⟨h1, h2, _⟩ := rightOp_iff.1 hr
      exact ⟨x.act.toNat, by omega, by omega⟩
    obtain ⟨m, hm1, hm7⟩ := hm
    have hmn : x.act.toNat = m := by rw [hm1]; rfl
    rw [hr] at HR
    by_cases h8 : n ≤ 8
    · have h8' : ¬ ((8 : Int) < (n : Int)) := by omega
      rcases hall : (low ++ [up]).all layerOk with _ | _
      · have hst : stackOk (low ++ [up]) = false := by rw [stackOk_all, hall, Bool.and_false]
        have hd : doE low up x = .error 16 := by rw [doE, if_pos hr, if_neg (by rw [hst]; simp)]
        have Hd := Lib.hid hd
        rw [hall] at HCn
        have HCn2 : ∀ W, Ext W3 W → Calls Tryz.prog 52 #[.slice A3 n1 c3, .func (.func 53) #[] #[]] W fun e w' => e = .returned (.bool true) ∧ Ext W w' := HCn
        clear hr hd hst hall HCn hm1 hmn
        go_wp2_with (first
          | (go_at_call 51; refine (HR _).mono ?_; rintro e W4 ⟨rfl, hE4⟩)
          | (go_at_call 52; refine (HCn2 _ hE4).mono ?_; rintro e W6 ⟨rfl, hE6⟩; have z0 := (hE4.trans hE6).cell x0; have z1 := (hE4.trans hE6).cell x1; have z2 := (hE4.trans hE6).cell x2; have z3 := (hE4.trans hE6).cell x3; have z4 := (hE4.trans hE6).cell x4)
          | (go_at_call 38; refine (fail_At_c _ _ _ _).mono ?_; rintro e W5 ⟨⟨a, rfl, hv5⟩, hE5⟩))
        rw [← HK.out, Hd.out]
        exact ⟨_, 1, rfl, hv5, hEw3.trans ((hE4.trans hE6).trans hE5)⟩
      · have hst : stackOk (low ++ [up]) = true := by rw [stackOk_all, hall, ← Hn.out]; simp [h8]
        have hdd : doE low up x = match doT (foldT (low ++ [up])) m x with | .error c => .error c | .ok t => if layerOk (doneU low t up m x) = true then .ok (doneU low t up m x) else .error 9 := by
          rw [doE, if_pos hr, if_pos hst, hmn]
        have Hdd := Lib.hid hdd
        have hwalk : walkT (low ++ [up]) = foldT (low ++ [up]) := by rw [walkT, if_pos hst]
        have htree := (fold_show hst).1
        have HW : ∀ W, Ext W3 W → Calls Tryz.prog 54 #[.slice A3 n1 c3] W (RdAns (foldT (low ++ [up])) W) := fun W he =>
          (Walk_any _ (low ++ [up]) W (Hrk.out.ext he)).mono fun e w' ⟨v, h1, h2, h3⟩ => ⟨v, h1, by rw [hwalk] at h2; exact h2, h3⟩
        have htl := tree_small htree
        have HOn := fun (W : World) (v' : Value) (h : RdE W v' (foldT (low ++ [up]))) => On_any v' (foldT (low ++ [up])) x W h Hx.out (by omega)
        have hon : onT (foldT (low ++ [up])) x = doT (foldT (low ++ [up])) m x := by rw [onT, if_pos hr, hmn]
        rw [hon] at HOn
        rw [hall] at HCn
        have HCn2 : ∀ W, Ext W3 W → Calls Tryz.prog 52 #[.slice A3 n1 c3, .func (.func 53) #[] #[]] W fun e w' => e = .returned (.bool false) ∧ Ext W w' := HCn
        have Hst := Lib.hid hst
        have Htree := Lib.hid htree
        have Hm1 := Lib.hid hm1
        rw [hm1] at HR HOn x0 ⊢
        clear hr hdd hst hall HCn hm1 hmn hwalk htree hon
        go_upto_region 6 with (first
          | (go_at_call 51; refine (HR _).mono ?_; rintro e W4 ⟨rfl, hE4⟩)
          | (go_at_call 52; refine (HCn2 _ hE4).mono ?_; rintro e W6 ⟨rfl, hE6⟩))
        have hE36 := hE4.trans hE6
        have y0 := hE36.cell x0
        have y1 := hE36.cell x1
        have y2 := hE36.cell x2
        have y3 := hE36.cell x3
        have y4 := hE36.cell x4
        clear x0 x1 x2 x3 x4
        have hEw6 : Ext w W6 := hEw3.trans hE36
        have Hll : Hid (low.length ≤ 1000) := Lib.hid (by rw [← Hn.out]; exact hll)
        rcases hdo : doT (foldT (low ++ [up])) m x with cc | t'
        · have hd : doE low up x = .error cc := by rw [Hdd.out, hdo]
          have Hd := Lib.hid hd
          rw [hdo] at HOn
          have HOn2 : ∀ W v', RdE W v' (foldT (low ++ [up])) → Calls Tryz.prog 32 #[v', .agg #[.int .i64 m, .string x.p, .string x.q, .int .i64 x.n, .string x.s]] W (TBad cc W) := HOn
          clear hdo hd HOn
          go_region_held3 (fun w' => w'.cell? ⟨ob, 0, none⟩ = some (.int .i64 m) ∧ w'.cell? ⟨ob, 1, none⟩ = some (.string x.p) ∧ w'.cell? ⟨ob, 2, none⟩ = some (.string x.q) ∧ w'.cell? ⟨ob, 3, none⟩ = some (.int .i64 x.n) ∧ w'.cell? ⟨ob, 4, none⟩ = some (.string x.s))
            (first | go_keep | exact ⟨hE7.cell y0, hE7.cell y1, hE7.cell y2, hE7.cell y3, hE7.cell y4⟩ | exact ⟨hE8.cell y0, hE8.cell y1, hE8.cell y2, hE8.cell y3, hE8.cell y4⟩)
            (first
              | (go_at_call 54; refine (HW _ (hE36.trans (by exact (by repeat (first | exact Ext.refl _ | assumption | refine Ext.alloc ?_ _ | refine Ext.drew ?_ | refine Ext.drewN ?_ _ | refine Ext.setCell ?_ (by first | omega | (simp; done) | (simp; omega)) _ | refine Ext.trans ?_ (by assumption)))))).mono ?_; rintro e W7 ⟨v7, rfl, hr7, hE7'⟩; have hE7 : Ext W6 W7 := Ext.trans (by exact (by repeat (first | exact Ext.refl _ | assumption | refine Ext.alloc ?_ _ | refine Ext.drew ?_ | refine Ext.drewN ?_ _ | refine Ext.setCell ?_ (by first | omega | (simp; done) | (simp; omega)) _ | refine Ext.trans ?_ (by assumption)))) hE7')
              | (go_at_call 32; refine (HOn2 _ _ hr7).mono ?_; rintro e W8 ⟨v8, n8, rfl, hEr8, hE8'⟩; have hE8 : Ext W6 W8 := Ext.trans hE7 hE8'; obtain ⟨T8, u8, rfl⟩ := errN_iface hEr8))
          all_goals
            go_wp2
            rw [← HK.out, Hd.out]
            exact ⟨_, n8, rfl, hEr8, hEw6.trans hE8⟩
        · have ht' := doT_tree Htree.out hdo
          obtain ⟨hnp, hnq⟩ := doT_names Htree.out hm7 hdo
          have hd : doE low up x = if layerOk (doneU low t' up m x) = true then .ok (doneU low t' up m x) else .error 9 := by rw [Hdd.out, hdo]
          have Hd := Lib.hid hd
          obtain ⟨_, hla⟩ := stackOk_layers Hst.out
          have hup := hla up (by simp)
          have hup64 := layerOk_len hup
          have Hrise := Lib.hid (layerOk_rising hup)
          have Hnp := Lib.hid hnp
          have Hnq := Lib.hid hnq
          rw [hdo] at HOn
          have HOn2 : ∀ W v', RdE W v' (foldT (low ++ [up])) → Calls Tryz.prog 32 #[v', .agg #[.int .i64 m, .string x.p, .string x.q, .int .i64 x.n, .string x.s]] W (WithOk t' W) := HOn
          have HCE := fun (W : World) (he : Ext w W) => CloneE_any (.slice A2 up.length c2) up W (Hu.out.ext he) (by omega)
          clear hdo hd HOn hnp hnq hla hup ht'
          go_region_held3 (fun w' => w'.cell? ⟨ob, 0, none⟩ = some (.int .i64 m) ∧ w'.cell? ⟨ob, 1, none⟩ = some (.string x.p) ∧ w'.cell? ⟨ob, 2, none⟩ = some (.string x.q) ∧ w'.cell? ⟨ob, 3, none⟩ = some (.int .i64 x.n) ∧ w'.cell? ⟨ob, 4, none⟩ = some (.string x.s))
            (first | go_keep | exact ⟨hE7.cell y0, hE7.cell y1, hE7.cell y2, hE7.cell y3, hE7.cell y4⟩ | exact ⟨hE8.cell y0, hE8.cell y1, hE8.cell y2, hE8.cell y3, hE8.cell y4⟩)
            (first
              | (go_at_call 54; refine (HW _ (hE36.trans (by exact (by repeat (first | exact Ext.refl _ | assumption | refine Ext.alloc ?_ _ | refine Ext.drew ?_ | refine Ext.drewN ?_ _ | refine Ext.setCell ?_ (by first | omega | (simp; done) | (simp; omega)) _ | refine Ext.trans ?_ (by assumption)))))).mono ?_; rintro e W7 ⟨v7, rfl, hr7, hE7'⟩; have hE7 : Ext W6 W7 := Ext.trans (by exact (by repeat (first | exact Ext.refl _ | assumption | refine Ext.alloc ?_ _ | refine Ext.drew ?_ | refine Ext.drewN ?_ _ | refine Ext.setCell ?_ (by first | omega | (simp; done) | (simp; omega)) _ | refine Ext.trans ?_ (by assumption)))) hE7')
              | (go_at_call 32; refine (HOn2 _ _ hr7).mono ?_; rintro e W8 ⟨v8, rfl, hr8, hE8'⟩; have hE8 : Ext W6 W8 := Ext.trans hE7 hE8'))
          all_goals
            have Hr8 := Lib.hid hr8
            have hEw8 : Ext w W8 := hEw6.trans hE8
            clear hr8 hr7 y0 y1 y2 y3 y4
            go_upto_region 10 with (go_at_call 55; refine (HCE _ hEw8).mono ?_; rintro e W9 ⟨v9, rfl, hrow9, hE9⟩; obtain ⟨A9, c9, rfl⟩ := own_form hrow9)
            have hupE : Up W8 W9.heap.size (.slice A n c) (.slice A9 up.length c9) up (W9.alloc (.cells #[.slice A n c, .slice A9 up.length c9] 112)) := ⟨Blk.new W9 _ _, own_ext hrow9 ((Ext.refl W9).alloc _), hE9.alloc _, hE9.size, RdE.fits Hu.out⟩
            have Hup := Lib.hid hupE
            have hE9a : Ext W6 (W9.alloc (.cells #[.slice A n c, .slice A9 up.length c9] 112)) := (hE8.trans hE9).alloc _
            obtain ⟨⟨z0, _⟩, ⟨z1, _⟩, ⟨z2, _⟩, ⟨z3, _⟩, ⟨z4, _⟩⟩ := (HB3.out.ext (hE36.trans hE9a)).five
            rw [Hm1.out] at z0
            have HDn := uDone_any low m x Hup.out (Hv.out.ext hEw8) Hll.out Hr8.out (by omega) Hrise.out hm7 Hnp.out Hnq.out
            clear hupE hrow9
            go_upto_region 11 with (go_at_call 56; refine HDn.mono ?_; rintro e W11 ⟨rfl, v11, hup11, hmv11⟩)
            have Hup11 := Lib.hid hup11
            obtain ⟨⟨b0, _⟩, ⟨b1, _⟩⟩ := hup11.blk.two
            obtain ⟨A11, c11, rfl⟩ := own_form hup11.row
            have hlen := doneU_len low t' up m x
            have hrd := hup11.rd (by omega)
            have Hrd := Lib.hid hrd
            have HLR := LRight_any _ _ _ hrd
            have hE611 : Ext W6 W11 := hE8.trans hup11.ext
            obtain ⟨⟨y0, _⟩, ⟨y1, _⟩, ⟨y2, _⟩, ⟨y3, _⟩, ⟨y4, _⟩⟩ := (HB3.out.ext (hE36.trans hE611)).five
            rw [Hm1.out] at y0
            obtain ⟨n11, hn11⟩ : ∃ n11, (doneU low t' up m x).length = n11 := ⟨_, rfl⟩
            rw [hn11] at HLR b1
            have Hn11 := Lib.hid hn11
            clear hup11 hmv11 hrd hlen hn11 z0 z1 z2 z3 z4 HDn
            rcases hok : layerOk (doneU low t' up m x) with _ | _
            · rw [hok] at HLR
              have hfin : doE low up x = .error 9 := by rw [Hd.out, hok]; rfl
              have Hfin := Lib.hid hfin
              clear hok hfin
              go_wp2_with (first
                | (go_at_call 26; refine HLR.mono ?_; rintro e W12 ⟨rfl, hE12⟩; have z0 := hE12.cell y0; have z1 := hE12.cell y1; have z2 := hE12.cell y2; have z3 := hE12.cell y3; have z4 := hE12.cell y4)
                | (go_at_call 38; refine (fail_At_c _ _ _ _).mono ?_; rintro e W13 ⟨⟨a, rfl, hv13⟩, hE13⟩))
              rw [← HK.out, Hfin.out]
              exact ⟨_, 1, rfl, hv13, hEw6.trans (hE611.trans (hE12.trans hE13))⟩
            · rw [hok] at HLR
              have hfin : doE low up x = .ok (doneU low t' up m x) := by rw [Hd.out, hok]; rfl
              have Hfin := Lib.hid hfin
              clear hok hfin
              go_wp2_with (go_at_call 26; refine HLR.mono ?_; rintro e W12 ⟨rfl, hE12⟩; have b1' := hE12.cell b1)
              rw [← HK.out, Hfin.out]
              have hrd12 := Hrd.out.ext hE12
              rw [Hn11.out] at hrd12
              exact ⟨_, rfl, hrd12, hEw6.trans (hE611.trans hE12)⟩
    · have h8' : (8 : Int) < (n : Int) := by omega
      have hst : stackOk (low ++ [up]) = false := by rw [stackOk_all, ← Hn.out, decide_eq_false h8, Bool.false_and]
      have hd : doE low up x = .error 16 := by rw [doE, if_pos hr, if_neg (by rw [hst]; simp)]
      have Hd := Lib.hid hd
      clear hr hd hst HCn hm1 hmn
      go_wp2_with (first
        | (go_at_call 51; refine (HR _).mono ?_; rintro e W4 ⟨rfl, hE4⟩; have z0 := hE4.cell x0; have z1 := hE4.cell x1; have z2 := hE4.cell x2; have z3 := hE4.cell x3; have z4 := hE4.cell x4)
        | (go_at_call 38; refine (fail_At_c _ _ _ _).mono ?_; rintro e W5 ⟨⟨a, rfl, hv5⟩, hE5⟩))
      rw [← HK.out, Hd.out]
      exact ⟨_, 1, rfl, hv5, hEw3.trans (hE4.trans hE5)⟩
end Go.Proofs.YtneefmgidplbcaaGreatDoor

/-! One -/
namespace Go.Proofs.YtneefmgidplbcaaGreatDoor
open Go Go.RowKit Go.Shelf Go.Proofs Go.Maps

def pa : ByteArray := ⟨#[47, 97]⟩
def oneE (d : ByteArray) : Ent := ⟨pa, 1, d⟩

theorem names_pa : names pa = some [⟨#[97]⟩] := by decide
theorem dir_pa : dirOf pa = ⟨#[47]⟩ := by
  rw [dirOf, names_pa]
  rfl
theorem one_ok {d : ByteArray} (h : d.size ≤ 256) : layerOk [oneE d] = true := by
  refine layerOk_of (by simp) fun t ht => ?_
  have : t = 0 := by simp at ht; omega
  subst this
  have h1 : headOk [oneE d] 0 (oneE d) = true := by
    rw [headOk_zero, entOk]
    simp [oneE, deep, names_pa, h]
  rw [List.getElem_cons_zero, okAt_dir h1, holds_of_dir dir_pa]
theorem one_find {d : ByteArray} (h : d.size ≤ 256) : findE [oneE d] pa = some (oneE d) := by
  rw [findE, if_pos (one_ok h)]
  simp [oneE]
theorem one_look {d : ByteArray} (h : d.size ≤ 256) : lookE [[oneE d]] pa = .ok (oneE d, 0) := by
  have hs : stackOk [[oneE d]] = true := by simp [stackOk, one_ok h]
  have ht : pathOf ((([⟨#[97]⟩] : List ByteArray)).take 1) = pa := by decide
  have ha : askE [[oneE d]] pa 0 = ((oneE d, 0), true) := by
    simp only [askE, List.length_cons, List.length_nil, askR]
    have hk : (oneE d).kind = 1 := rfl
    simp [one_find h, hk]
  rw [lookE, if_pos hs, names_pa]
  simp only [List.length_cons, List.length_nil, lookN, Nat.zero_add]
  rw [ht, ha]
  simp

theorem rd_one {w : World} {b : Nat} {t : TypeId} {x : Ent} (h : Blk w b t #[.string x.path, .int .i64 x.kind, .string x.data]) (hf : x.fits) : RdE w (.slice (some ⟨b, 0, none⟩) 1 1) [x] := by
  refine ⟨_, _, rfl, Nat.le_refl _, by omega, by simp, fun _ => ⟨b, 0, rfl, fun j y hj => ?_⟩⟩
  rcases j with _ | j
  · simp at hj
    subst hj
    refine ⟨_, ⟨rfl, hf⟩, fun i u hi => ?_⟩
    rcases i with _ | _ | _ | i
    · simp at hi; subst hi; exact h.cell 0 rfl
    · simp at hi; subst hi; exact h.cell 1 rfl
    · simp at hi; subst hi; exact h.cell 2 rfl
    · simp at hi
  · simp at hj
theorem rdK_one {w : World} {b b' : Nat} {t t' : TypeId} {x : Ent} (h : Blk w b t #[.string x.path, .int .i64 x.kind, .string x.data]) (hf : x.fits) (h' : Blk w b' t' #[.slice (some ⟨b, 0, none⟩) 1 1]) : RdK w (.slice (some ⟨b', 0, none⟩) 1 1) [[x]] := by
  refine ⟨_, _, rfl, Nat.le_refl _, by omega, by simp, fun _ => ⟨b', 0, rfl, fun j y hj => ?_⟩⟩
  rcases j with _ | j
  · simp at hj
    subst hj
    refine ⟨_, ⟨_, rfl, rd_one h hf⟩, fun i u hi => ?_⟩
    rcases i with _ | i
    · simp at hi; subst hi; exact h'.cell 0 rfl
    · simp at hi
  · simp at hj
end Go.Proofs.YtneefmgidplbcaaGreatDoor

/-! EAwake -/
namespace Go.Proofs.YtneefmgidplbcaaGreatDoor
open Go Go.RowKit Go.Shelf Go.Proofs Go.Maps

def awOp : OpT := ⟨4, pa, ⟨#[]⟩, 0, ⟨#[]⟩⟩
theorem aw_do : doE [[oneE ⟨#[]⟩]] [] awOp = .ok [⟨pa, 3, ⟨#[]⟩⟩] := by kernel_rfl

theorem doE_code {low : List (List Ent)} {up : List Ent} {x : OpT} {c : Int} (h : doE low up x = .error c) : c ≠ 0 := by
  rw [doE] at h
  split at h
  · split at h
    · split at h
      · rename_i cc hc
        cases h
        exact doT_code hc
      · split at h
        · cases h
        · cases h; decide
    · cases h; decide
  · cases h; decide

theorem EdDo_ok {v u : Value} {low : List (List Ent)} {up l : List Ent} {x : OpT} (hd : doE low up x = .ok l) (hx : x.fits) (hll : low.length ≤ 1000) (w : World) (hv : RdK w v low) (hu : RdE w u up) :
    Calls Tryz.prog 23 #[v, u, .agg #[.int .i64 x.act, .string x.p, .string x.q, .int .i64 x.n, .string x.s]] w (WithOk l w) := by
  have := EdDo_any v u low up x w hv hu hx hll
  rwa [hd] at this
theorem EdDo_bad {v u : Value} {low : List (List Ent)} {up : List Ent} {c : Int} {x : OpT} (hd : doE low up x = .error c) (hx : x.fits) (hll : low.length ≤ 1000) (w : World) (hv : RdK w v low) (hu : RdE w u up) :
    Calls Tryz.prog 23 #[v, u, .agg #[.int .i64 x.act, .string x.p, .string x.q, .int .i64 x.n, .string x.s]] w (TBad c w) := by
  have := EdDo_any v u low up x w hv hu hx hll
  rwa [hd] at this

theorem eql_ent (x : Ent) (w : World) : (binOp .eql 66 (.agg #[.string x.path, .int .i64 x.kind, .string x.data]) (.agg #[.string x.path, .int .i64 x.kind, .string x.data])).run Tryz.prog w = .ok (.bool true) w := by
  simp [go_sem, Op.eqFields, Program.fieldsOf, Tryz.underlying66, Tryz.underlying9, Tryz.underlying3]

set_option maxHeartbeats 4000000 in
set_option maxRecDepth 20000 in
theorem EAwake_any (w : World) : Calls Tryz.prog 21 #[] w fun e w' => e = .returned (.bool true) ∧ Ext w w' := by
  have hb := lay_blocks w ⟨pa, 1, ⟨#[]⟩⟩
  have hk : RdK ((w.alloc (.cells #[.string pa, .int .i64 1, .string ⟨#[]⟩] 66)).alloc (.cells #[.slice (some ⟨w.heap.size, 0, none⟩) 1 1] 54)) (.slice (some ⟨w.heap.size + 1, 0, none⟩) 1 1) [[oneE ⟨#[]⟩]] :=
    rdK_one (x := oneE ⟨#[]⟩) hb.1 ⟨by decide, by decide⟩ hb.2
  have HD := EdDo_ok (u := .slice none 0 0) aw_do ⟨by decide, by decide, by decide⟩ (by decide) _ hk (Rd.nil _ _ _)
  clear hb hk
  go_enter Tryz.func21, Tryz.ntmps21
  go_upto_region 2 with (go_at_call 23; refine HD.mono ?_; rintro e W1 ⟨v1, rfl, hr1, hE1⟩)
  obtain ⟨b, o, c, rfl, _, _, hc⟩ := RdE.open_ hr1 (by simp)
  obtain ⟨z0, z1, z2, _⟩ := hc 0 (by simp)
  have z0' : W1.cell? ⟨b, o, none⟩ = some (.string ⟨#[47, 97]⟩) := z0
  have z1' : W1.cell? ⟨b, o + 1, none⟩ = some (.int .i64 3) := z1
  have z2' : W1.cell? ⟨b, o + 2, none⟩ = some (.string ⟨#[]⟩) := z2
  have hE1' : Ext w W1 := Ext.trans (by exact (by repeat (first | exact Ext.refl _ | assumption | refine Ext.alloc ?_ _ | refine Ext.drew ?_ | refine Ext.drewN ?_ _ | refine Ext.setCell ?_ (by first | omega | (simp; done) | (simp; omega)) _ | refine Ext.trans ?_ (by assumption)))) hE1
  have heq := eql_ent ⟨pa, 3, ⟨#[]⟩⟩
  have heq2 : ∀ w, (binOp .eql 66 (.agg #[.string ⟨#[47, 97]⟩, .int .i64 3, .string ⟨#[]⟩]) (.agg #[.string ⟨#[47, 97]⟩, .int .i64 3, .string ⟨#[]⟩])).run Tryz.prog w = .ok (.bool true) w := heq
  clear z0 z1 z2 hc hr1 HD heq
  go_wp2_with (go_at_call 12; (with_reducible refine (Code_nil _).mono ?_); rintro e W9 ⟨rfl, hE9⟩; have y0 := hE9.cell z0'; have y1 := hE9.cell z1'; have y2 := hE9.cell z2')
  go_ret
  exact ⟨rfl, hE1'.trans hE9⟩

set_option maxHeartbeats 4000000 in
set_option maxRecDepth 20000 in
theorem EOf_any (x : OpT) (w : World) :
    Calls Tryz.prog 24 #[.agg #[.int .i64 x.act, .string x.p, .string x.q, .int .i64 x.n, .string x.s]] w fun e w' => e = .returned (.agg #[.int .i64 x.act, .string x.p, .string x.q, .int .i64 x.n, .string x.s]) ∧ Ext w w' := by
  go_enter Tryz.func24, Tryz.ntmps24
  go_wp2
  refine bodyPost_ret (v := .agg #[.int .i64 x.act, .string x.p, .string x.q, .int .i64 x.n, .string x.s]) (by simp [results, Tryz.f24, go_sem]) rfl ?_
  exact ⟨rfl, (by repeat (first | exact Ext.refl _ | assumption | refine Ext.alloc ?_ _ | refine Ext.drew ?_ | refine Ext.drewN ?_ _ | refine Ext.setCell ?_ (by first | omega | (simp; done) | (simp; omega)) _ | refine Ext.trans ?_ (by assumption)))⟩
end Go.Proofs.YtneefmgidplbcaaGreatDoor

/-! SameE -/
namespace Go.Proofs.YtneefmgidplbcaaGreatDoor
open Go Go.RowKit Go.Shelf Go.Proofs

theorem toList_inj_eq (a b : ByteArray) : (a.toList = b.toList) = (a = b) := propext ⟨fun h => data_inj (by rw [← toList_eq, ← toList_eq, h]), fun h => by rw [h]⟩

deriving instance DecidableEq for Ent

theorem ent_eq (a b : Ent) : decide (a = b) = (decide (a.path = b.path) && (decide (a.kind = b.kind) && decide (a.data = b.data))) := by
  obtain ⟨a1, a2, a3⟩ := a
  obtain ⟨b1, b2, b3⟩ := b
  simp only [Ent.mk.injEq, Bool.decide_and]

theorem neq_ent (a b : Ent) (w : World) : (binOp .neq 66 (.agg #[.string a.path, .int .i64 a.kind, .string a.data]) (.agg #[.string b.path, .int .i64 b.kind, .string b.data])).run Tryz.prog w = .ok (.bool (!decide (a = b))) w := by
  rw [ent_eq]
  simp [go_sem, Op.eqFields, Program.fieldsOf, Tryz.underlying66, Tryz.underlying9, Tryz.underlying3, part]
  simp only [toList_inj_eq]
  repeat' split
  all_goals simp_all

theorem same_next {l m : List Ent} {n k : Nat} {w wr : World} (hlt : k < n) (hE : Ext w wr) (hall : Hid (l.take k = m.take k)) (hh : k < l.length) (hm : k < m.length) (hx : l[k] = m[k]) :
    (∃ k' : Nat, Value.int IntKind.i64 ((k : Int) + 1) = .int .i64 k' ∧ k' ≤ n ∧ Hid (l.take k' = m.take k') ∧ Ext w wr) ∧ n - (intOf (.int .i64 ((k : Int) + 1))).toNat < n - (intOf (.int .i64 (k : Int))).toNat := by
  refine ⟨⟨k + 1, by simp, by omega, Lib.hid ?_, hE⟩, by simp [intOf]; omega⟩
  rw [← List.take_append_getElem hh, ← List.take_append_getElem hm, hall.out, hx]

set_option maxHeartbeats 4000000 in
set_option maxRecDepth 20000 in
theorem Same_any (v u : Value) (l m : List Ent) (w : World) (hv : RdE w v l) (hu : RdE w u m) :
    Calls Tryz.prog 33 #[v, u] w fun e w' => e = .returned (.int .i64 (oneI (decide (l = m)))) ∧ Ext w w' := by
  obtain ⟨n, hn⟩ : ∃ n, n = l.length := ⟨_, rfl⟩
  obtain ⟨n2, hn2⟩ : ∃ n2, n2 = m.length := ⟨_, rfl⟩
  have Hn := Lib.hid hn
  have Hn2 := Lib.hid hn2
  have hlen := Rd.len hv
  have hlen2 := Rd.len hu
  obtain ⟨A, c, rfl, hc1, hc2, Hcell⟩ := rdE_form hv hn
  obtain ⟨A2, c2, rfl, hd1, hd2, Hcell2⟩ := rdE_form hu hn2
  rw [← hn] at hlen
  rw [← hn2] at hlen2
  clear hn hv hn2 hu
  by_cases hne : n = n2
  · subst hne
    go_enter Tryz.func33, Tryz.ntmps33
    go_wp2
    go_loopw [5] (fun i wr => ∃ k : Nat, i = .int .i64 k ∧ k ≤ n ∧ Hid (l.take k = m.take k) ∧ Ext w wr) (fun i _ => n - (intOf i).toNat)
    case atStart => exact ⟨0, rfl, Nat.zero_le _, Lib.hid rfl, Ext.refl _⟩
    case round =>
      obtain ⟨k, rfl, hkn, hall, hE⟩ := hrel
      by_cases hlt : k < n
      · have hh : k < l.length := by have := Hn.out; omega
        have hh2 : k < m.length := by have := Hn2.out; omega
        obtain ⟨b, o, rfl, hcell⟩ := Hcell.out (List.ne_nil_of_length_pos (by omega))
        obtain ⟨q0, q1, q2, hf⟩ := hcell k hh
        obtain ⟨b', o', rfl, hcell2⟩ := Hcell2.out (List.ne_nil_of_length_pos (by omega))
        obtain ⟨r0, r1, r2, hf2⟩ := hcell2 k hh2
        obtain ⟨x, hx⟩ : ∃ x, l[k]'hh = x := ⟨_, rfl⟩
        obtain ⟨y, hy⟩ : ∃ y, m[k]'hh2 = y := ⟨_, rfl⟩
        rw [hx] at q0 q1 q2
        rw [hy] at r0 r1 r2
        have g0 := hE.cell q0
        have g1 := hE.cell q1
        have g2 := hE.cell q2
        have s0 := hE.cell r0
        have s1 := hE.cell r1
        have s2 := hE.cell r2
        have Hx := Lib.hid hx
        have Hy := Lib.hid hy
        have HQ := neq_ent x y
        clear q0 q1 q2 r0 r1 r2 hx hy hcell hcell2
        by_cases hxy : x = y
        · simp only [decide_eq_true hxy, Bool.not_true] at HQ
          have Hxy := Lib.hid hxy
          clear hxy
          go_upto_region 6 with (fail)
          go_quiet (fail)
          go_wp2
          exact same_next hlt (hE.drewN _) hall hh hh2 (by rw [Hx.out, Hy.out, Hxy.out])
        · simp only [decide_eq_false hxy, Bool.not_false] at HQ
          have hlm : l ≠ m := fun e => by subst e; exact hxy (Hx.out.symm.trans Hy.out)
          have hres : oneI (decide (l = m)) = 0 := by rw [decide_eq_false hlm]; rfl
          have Hres := Lib.hid hres
          clear hxy hres hlm
          go_upto_region 6 with (fail)
          go_quiet (fail)
          go_wp2
          go_ret
          exact ⟨by rw [Hres.out]; rfl, hE.drewN _⟩
      · have hkn' : k = n := by omega
        have hres : oneI (decide (l = m)) = 1 := by
          have h := hall.out
          rw [List.take_of_length_le (by have := Hn.out; omega), List.take_of_length_le (by have := Hn2.out; omega)] at h
          rw [decide_eq_true h]
          rfl
        have Hres := Lib.hid hres
        clear hres
        go_wp2
        go_ret
        exact ⟨by rw [Hres.out]; rfl, hE⟩
  · have hlm : l ≠ m := fun e => by subst e; exact hne (Hn.out.trans Hn2.out.symm)
    have hres : oneI (decide (l = m)) = 0 := by rw [decide_eq_false hlm]; rfl
    have Hres := Lib.hid hres
    have hne' : ((n : Int) == (n2 : Int)) = false := by rw [beq_eq_false_iff_ne]; omega
    clear hres hlm
    go_enter Tryz.func33, Tryz.ntmps33
    go_wp2
    go_ret
    exact ⟨by rw [Hres.out]; rfl, Ext.refl _⟩

theorem Same_yes {v u : Value} {l : List Ent} {w : World} (hv : RdE w v l) (hu : RdE w u l) :
    Calls Tryz.prog 33 #[v, u] w fun e w' => e = .returned (.int .i64 1) ∧ Ext w w' := by
  have := Same_any v u l l w hv hu
  rwa [decide_eq_true rfl] at this
end Go.Proofs.YtneefmgidplbcaaGreatDoor

/-! TCutW -/
namespace Go.Proofs.YtneefmgidplbcaaGreatDoor
open Go Go.RowKit Go.Shelf Go.Proofs

theorem size_yes {v : Value} {l : List Ent} (h : sizeOk l = true) (w : World) (hv : RdE w v l) : Calls Tryz.prog 27 #[v] w fun e w' => e = .returned (.int .i64 1) ∧ Ext w w' := by
  have := Size_any v l w hv
  rwa [h] at this
theorem size_no {v : Value} {l : List Ent} (h : sizeOk l = false) (w : World) (hv : RdE w v l) : Calls Tryz.prog 27 #[v] w fun e w' => e = .returned (.int .i64 0) ∧ Ext w w' := by
  have := Size_any v l w hv
  rwa [h] at this

theorem tRead_ok {v : Value} {t : List Ent} {p s : ByteArray} (hp : p.size ≤ 140737488355328) (h : readT t p = .ok s) (w : World) (hv : RdE w v t) : Calls Tryz.prog 35 #[v, .string p] w (ReadTOk s w) := by
  have := tRead_any v t p w hv hp
  rwa [h] at this
theorem tRead_bad {v : Value} {t : List Ent} {p : ByteArray} {c : Int} (hp : p.size ≤ 140737488355328) (h : readT t p = .error c) (w : World) (hv : RdE w v t) : Calls Tryz.prog 35 #[v, .string p] w (ReadTBad c w) := by
  have := tRead_any v t p w hv hp
  rwa [h] at this
theorem Cut_ok {v : Value} {t l : List Ent} {p : ByteArray} {n : Int} (hp : p.size ≤ 140737488355328) (h : cutT t p n = .ok l) (w : World) (hv : RdE w v t) : Calls Tryz.prog 104 #[v, .string p, .int .i64 n] w (WithOk l w) := by
  have := Cut_any v t p n w hv hp
  rwa [h] at this

theorem readT_code {t : List Ent} {p : ByteArray} {c : Int} (h : readT t p = .error c) : c ≠ 0 := by
  rw [readT] at h
  split at h
  · rename_i cc hk
    cases h
    rw [kindT] at hk
    split at hk
    · split at hk
      · rename_i c2 ha
        cases hk
        exact atT_code ha
      · cases hk
    · cases hk; decide
  · split at h
    · cases h; decide
    · split at h <;> cases h

/-- What a file that is cut is. -/
theorem cut_read {t : List Ent} {p s : ByteArray} (h : readT t p = .ok s) (n : Nat) (hn : n ≤ 256) : ∃ x, cutT t p n = .ok x ∧ treeOk x = true ∧ readT x p = .ok (filledT s n) ∧ (n = s.size → x = t) := by
  obtain ⟨e, hf, rfl⟩ := readT_ok h
  obtain ⟨ht, hx, hpx, hk, _⟩ := fileT_ok hf
  have hw := withT_set ht hx hk (d := filledT e.data n) (by rw [filledT_size]; exact hn)
  refine ⟨insT t (setD e (filledT e.data n)), ?_, hw.2, ?_, ?_⟩
  · rw [cutT, hf]
    show (if (n : Int) < 0 ∨ 256 < (n : Int) then _ else _) = _
    rw [if_neg (by omega)]
    exact hw.1
  · have := readT_of hw.2 (e := setD e (filledT e.data n)) (mem_insT.2 (.inl rfl)) hk
    rw [← hpx]
    exact this
  · rintro rfl
    rw [filledT_self]
    exact insT_same (tree_rising ht) hx
theorem read_size {t : List Ent} {p s : ByteArray} (h : readT t p = .ok s) : s.size ≤ 256 := by
  obtain ⟨e, hf, rfl⟩ := readT_ok h
  obtain ⟨ht, hx, _, hk, _⟩ := fileT_ok hf
  exact entOk_data ((treeOk_iff.1 ht).2.2 e hx).1 hk

theorem filled_list (s : ByteArray) (n : Nat) : (filledT s n).data.toList = s.data.toList.take n ++ List.replicate (n - s.size) 0 := by rw [filledT, toList_B]
theorem filled_head (s : ByteArray) (n m : Nat) (hm : m = min s.size n) : (filledT s n).extract 0 m = s.extract 0 m := by
  have hl : s.data.toList.length = s.size := Array.length_toList
  refine data_inj ?_
  rw [Lib.extract_data, Lib.extract_data, filled_list]
  simp only [List.drop_zero, Nat.sub_zero]
  rw [List.take_append_of_le_length (by rw [List.length_take]; omega), List.take_take, Nat.min_eq_left (by omega)]
theorem filled_zero (s : ByteArray) (n i : Nat) (h : i < (filledT s n).size) (hm : min s.size n ≤ i) : (filledT s n)[i] = 0 := by
  have hl : s.data.toList.length = s.size := Array.length_toList
  have hs := h
  rw [filledT_size] at hs
  have h1 : (filledT s n).data.toList[i]? = some ((filledT s n)[i]) := by
    have hh : i < (filledT s n).data.toList.length := by rw [Array.length_toList]; exact h
    rw [List.getElem?_eq_getElem hh]
    rfl
  rw [filled_list, List.getElem?_append_right (by rw [List.length_take]; omega), List.getElem?_replicate] at h1
  split at h1
  · exact (Option.some.inj h1).symm
  · cases h1

end Go.Proofs.YtneefmgidplbcaaGreatDoor
