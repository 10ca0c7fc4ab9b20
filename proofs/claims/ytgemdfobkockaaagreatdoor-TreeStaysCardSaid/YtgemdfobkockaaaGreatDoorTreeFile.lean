/- tree.Kind, Read, place, file. -/
import Derived.Test.YtgemdfobkockaaaGreatDoorTreeAt
namespace Go.Proofs.YtgemdfobkockaaaGreatDoor
open Go Go.RowKit Go.Shelf Go.Proofs

theorem tAt_ok {v : Value} {t : List Ent} {p : ByteArray} {x : Ent} (hp : p.size ≤ 140737488355328) (h : atT t p = .ok x) (w : World) (hv : RdE w v t) : Calls Tryz.prog 82 #[v, .string p] w (AtTOk x w) := by
  have := tAt_any v t p w hv hp
  rwa [h] at this
theorem tAt_bad {v : Value} {t : List Ent} {p : ByteArray} {c : Int} (hp : p.size ≤ 140737488355328) (h : atT t p = .error c) (w : World) (hv : RdE w v t) : Calls Tryz.prog 82 #[v, .string p] w (AtTBad c w) := by
  have := tAt_any v t p w hv hp
  rwa [h] at this
theorem Tree_yes {v : Value} {t : List Ent} (h : treeOk t = true) (w : World) (hv : RdE w v t) : Calls Tryz.prog 36 #[v] w fun e w' => e = .returned (.bool true) ∧ Ext w w' := by
  have := Tree_any v t w hv
  rwa [h] at this
theorem Tree_no {v : Value} {t : List Ent} (h : treeOk t = false) (w : World) (hv : RdE w v t) : Calls Tryz.prog 36 #[v] w fun e w' => e = .returned (.bool false) ∧ Ext w w' := by
  have := Tree_any v t w hv
  rwa [h] at this

/-- An error of one wrapping. -/
def OneErr (w' : World) (c : Int) (v : Value) : Prop := ∃ a, v = .iface 163 (.pointer (some ⟨a, 0, none⟩)) ∧ ErrN w' 1 v c

def KindOk (k : Int) (w : World) (e : Ending) (w' : World) : Prop := e = .returned (.tuple #[.int .i64 k, .nilIface]) ∧ Ext w w'
def KindBad (c : Int) (w : World) (e : Ending) (w' : World) : Prop := ∃ v, e = .returned (.tuple #[.int .i64 0, v]) ∧ OneErr w' c v ∧ Ext w w'
def KindAns (r : Except Int Int) (w : World) (e : Ending) (w' : World) : Prop := match r with
  | .ok k => KindOk k w e w'
  | .error c => KindBad c w e w'

set_option maxHeartbeats 4000000 in
theorem tKind_any (v : Value) (t : List Ent) (p : ByteArray) (w : World) (hv : RdE w v t) (hp : p.size ≤ 140737488355328) :
    Calls Tryz.prog 81 #[v, .string p] w (KindAns (kindT t p) w) := by
  have Hv := Lib.hid hv
  obtain ⟨A, c, rfl, hc1, hc2, _⟩ := rdE_form hv rfl
  clear hv
  rcases ht : treeOk t with _ | _
  · have hk : kindT t p = .error 16 := by rw [kindT, if_neg (by simp [ht])]
    rw [hk]
    show Calls _ _ _ _ (KindBad 16 w)
    have HT := fun w => Tree_no (v := .slice A t.length c) ht w
    clear ht hk
    go_enter Tryz.func81, Tryz.ntmps81
    go_wp2_with (first | (go_at_call 36; refine (HT _ Hv.out).mono ?_; rintro e W1 ⟨rfl, hE1⟩) | (go_at_call 60; refine (fail_At_c _ _ _ _).mono ?_; rintro e W3 ⟨⟨a5, rfl, hEr⟩, hE3⟩))
    go_ret2
    exact ⟨_, rfl, ⟨_, rfl, hEr⟩, hE1.trans hE3⟩
  · have HT := fun w => Tree_yes (v := .slice A t.length c) ht w
    rcases ha : atT t p with cc | x
    · have hk : kindT t p = .error cc := by rw [kindT, if_pos ht, ha]
      rw [hk]
      show Calls _ _ _ _ (KindBad cc w)
      have HA := fun w => tAt_bad (v := .slice A t.length c) hp ha w
      clear ht hk ha
      go_enter Tryz.func81, Tryz.ntmps81
      go_upto_region 4 with (first | (go_at_call 36; refine (HT _ Hv.out).mono ?_; rintro e W1 ⟨rfl, hE1⟩) | (go_at_call 82; refine (HA _ (Hv.out.ext hE1)).mono ?_; rintro e W2 ⟨rfl, hE2⟩))
      obtain ⟨⟨x0, _⟩, ⟨x1, _⟩, ⟨x2, _⟩⟩ := (Blk.new W2 32 #[.string ⟨#[]⟩, .int .i64 0, .string ⟨#[]⟩]).three
      go_region_held3 (fun w' => w'.cell? ⟨W2.heap.size, 1, none⟩ = some (.int .i64 0)) (first | go_keep | exact hE3.cell x1)
        (first | (go_at_call 60; refine (fail_At_c _ _ _ _).mono ?_; rintro e W3 ⟨⟨a5, rfl, hEr⟩, hE3⟩))
      go_wp2
      go_ret2
      exact ⟨_, rfl, ⟨_, rfl, hEr⟩, Ext.trans (by have := hE1.trans hE2; exact (by repeat (first | exact Ext.refl _ | assumption | refine Ext.alloc ?_ _ | refine Ext.drew ?_ | refine Ext.drewN ?_ _ | refine Ext.setCell ?_ (by first | omega | (simp; done) | (simp; omega)) _ | refine Ext.trans ?_ (by assumption)))) hE3⟩
    · have hk : kindT t p = .ok x.kind := by rw [kindT, if_pos ht, ha]
      rw [hk]
      show Calls _ _ _ _ (KindOk x.kind w)
      have HA := fun w => tAt_ok (v := .slice A t.length c) hp ha w
      clear ht hk ha
      go_enter Tryz.func81, Tryz.ntmps81
      go_upto_region 4 with (first | (go_at_call 36; refine (HT _ Hv.out).mono ?_; rintro e W1 ⟨rfl, hE1⟩) | (go_at_call 82; refine (HA _ (Hv.out.ext hE1)).mono ?_; rintro e W2 ⟨rfl, hE2⟩))
      obtain ⟨⟨x0, _⟩, ⟨x1, _⟩, ⟨x2, _⟩⟩ := (Blk.new W2 32 #[.string x.path, .int .i64 x.kind, .string x.data]).three
      go_region_held3 (fun w' => w'.cell? ⟨W2.heap.size, 1, none⟩ = some (.int .i64 x.kind)) (first | go_keep | exact x1)
        (first | (go_at_call 60; refine (fail_At_nil _ _ _).mono ?_; rintro e W3 ⟨rfl, rfl⟩))
      go_wp2
      go_ret2
      exact ⟨rfl, by have := hE1.trans hE2; exact (by repeat (first | exact Ext.refl _ | assumption | refine Ext.alloc ?_ _ | refine Ext.drew ?_ | refine Ext.drewN ?_ _ | refine Ext.setCell ?_ (by first | omega | (simp; done) | (simp; omega)) _ | refine Ext.trans ?_ (by assumption)))⟩

def ReadTOk (s : ByteArray) (w : World) (e : Ending) (w' : World) : Prop := e = .returned (.tuple #[.string s, .nilIface]) ∧ Ext w w'
def ReadTBad (c : Int) (w : World) (e : Ending) (w' : World) : Prop := ∃ v, e = .returned (.tuple #[.string ⟨#[]⟩, v]) ∧ OneErr w' c v ∧ Ext w w'
def ReadTAns (r : Except Int ByteArray) (w : World) (e : Ending) (w' : World) : Prop := match r with
  | .ok k => ReadTOk k w e w'
  | .error c => ReadTBad c w e w'

theorem tKind_ok {v : Value} {t : List Ent} {p : ByteArray} {k : Int} (hp : p.size ≤ 140737488355328) (h : kindT t p = .ok k) (w : World) (hv : RdE w v t) : Calls Tryz.prog 81 #[v, .string p] w (KindOk k w) := by
  have := tKind_any v t p w hv hp
  rwa [h] at this
theorem tKind_bad {v : Value} {t : List Ent} {p : ByteArray} {c : Int} (hp : p.size ≤ 140737488355328) (h : kindT t p = .error c) (w : World) (hv : RdE w v t) : Calls Tryz.prog 81 #[v, .string p] w (KindBad c w) := by
  have := tKind_any v t p w hv hp
  rwa [h] at this

theorem OneErr.ext {w w' : World} {c : Int} {v : Value} (h : OneErr w c v) (he : Ext w w') : OneErr w' c v := by
  obtain ⟨a, rfl, hr⟩ := h
  exact ⟨a, rfl, hr.below he.below⟩

set_option maxHeartbeats 4000000 in
theorem tRead_any (v : Value) (t : List Ent) (p : ByteArray) (w : World) (hv : RdE w v t) (hp : p.size ≤ 140737488355328) :
    Calls Tryz.prog 37 #[v, .string p] w (ReadTAns (readT t p) w) := by
  have Hv := Lib.hid hv
  obtain ⟨A, c, rfl, hc1, hc2, _⟩ := rdE_form hv rfl
  clear hv
  rcases hk : kindT t p with cc | k
  · have hr : readT t p = .error cc := by rw [readT, hk]
    rw [hr]
    show Calls _ _ _ _ (ReadTBad cc w)
    have HK := fun w => tKind_bad (v := .slice A t.length c) hp hk w
    clear hr hk
    go_enter Tryz.func37, Tryz.ntmps37
    go_wp2_with (go_at_call 81; refine (HK _ Hv.out).mono ?_; rintro e W1 ⟨u, rfl, hEr, hE1⟩; obtain ⟨a5, rfl, hErr⟩ := hEr)
    go_ret2
    exact ⟨_, rfl, ⟨_, rfl, hErr⟩, hE1⟩
  · have HK := fun w => tKind_ok (v := .slice A t.length c) hp hk w
    by_cases h2 : k = 2
    · have hr : readT t p = .error 5 := by rw [readT, hk]; exact if_pos h2
      rw [hr]
      show Calls _ _ _ _ (ReadTBad 5 w)
      subst h2
      clear hr hk
      go_enter Tryz.func37, Tryz.ntmps37
      go_wp2_with (first | (go_at_call 81; refine (HK _ Hv.out).mono ?_; rintro e W1 ⟨rfl, hE1⟩) | (go_at_call 60; refine (fail_At_c _ _ _ _).mono ?_; rintro e W3 ⟨⟨a5, rfl, hEr⟩, hE3⟩))
      go_ret2
      exact ⟨_, rfl, ⟨_, rfl, hEr⟩, hE1.trans hE3⟩
    · have h2' : (k == 2) = false := by simpa using h2
      rcases ha : atT t p with cc | x
      · rw [kindT] at hk
        split at hk
        · rw [ha] at hk
          cases hk
        · cases hk
      · have hr : readT t p = .ok x.data := by rw [readT, hk, ha]; exact if_neg h2
        rw [hr]
        show Calls _ _ _ _ (ReadTOk x.data w)
        have HA := fun w => tAt_ok (v := .slice A t.length c) hp ha w
        clear hr hk ha h2
        go_enter Tryz.func37, Tryz.ntmps37
        go_wp2_with (first | (go_at_call 81; refine (HK _ Hv.out).mono ?_; rintro e W1 ⟨rfl, hE1⟩) | (go_at_call 82; refine (HA _ (Hv.out.ext hE1)).mono ?_; rintro e W2 ⟨rfl, hE2⟩))
        go_ret2
        exact ⟨rfl, by have := hE1.trans hE2; exact (by repeat (first | exact Ext.refl _ | assumption | refine Ext.alloc ?_ _ | refine Ext.drew ?_ | refine Ext.drewN ?_ _ | refine Ext.setCell ?_ (by first | omega | (simp; done) | (simp; omega)) _ | refine Ext.trans ?_ (by assumption)))⟩

/-! ### place -/

def PlaceOk (w : World) (e : Ending) (w' : World) : Prop := e = .returned .nilIface ∧ Ext w w'
def PlaceBad (c : Int) (w : World) (e : Ending) (w' : World) : Prop := ∃ v n, e = .returned v ∧ ErrN w' n v c ∧ Ext w w'
def PlaceAns (c : Int) (w : World) (e : Ending) (w' : World) : Prop := if c = 0 then PlaceOk w e w' else PlaceBad c w e w'

theorem atT_code {t : List Ent} {p : ByteArray} {c : Int} (h : atT t p = .error c) : c ≠ 0 := by
  rw [atT] at h
  split at h
  · cases h; decide
  · split at h
    · cases h
    · split at h
      · cases h; decide
      · cases h

set_option maxHeartbeats 4000000 in
theorem tPlace_any (v : Value) (t : List Ent) (p : ByteArray) (w : World) (hv : RdE w v t) (hp : p.size ≤ 140737488355328) :
    Calls Tryz.prog 87 #[v, .string p] w (PlaceAns (placeT t p) w) := by
  have Hv := Lib.hid hv
  obtain ⟨A, c, rfl, hc1, hc2, _⟩ := rdE_form hv rfl
  clear hv
  rcases hn : names p with _ | ys
  · have hpl : placeT t p = 2 := by rw [placeT, hn]
    have hgoal : PlaceAns (placeT t p) w = PlaceBad 2 w := by rw [hpl]; rfl
    rw [hgoal]
    have HP := fun w => Parent_none p w hp hn
    clear hpl hgoal hn
    go_enter Tryz.func87, Tryz.ntmps87
    go_wp2_with (go_at_call 45; refine (HP _).mono ?_; rintro e W1 ⟨a, rfl, hEr, hE1⟩)
    go_ret
    exact ⟨_, 1, rfl, hEr, hE1⟩
  · by_cases h0 : ys = []
    · subst h0
      have hpl : placeT t p = 1 := by rw [placeT, hn]; rfl
      have hgoal : PlaceAns (placeT t p) w = PlaceBad 1 w := by rw [hpl]; rfl
      rw [hgoal]
      have HP := fun w => Parent_root p w hp hn
      clear hpl hgoal hn
      go_enter Tryz.func87, Tryz.ntmps87
      go_wp2_with (go_at_call 45; refine (HP _).mono ?_; rintro e W1 ⟨a, rfl, hEr, hE1⟩)
      go_ret
      exact ⟨_, 1, rfl, hEr, hE1⟩
    · have hlast : names p = some (ys.dropLast ++ [ys.getLast h0]) := by rw [hn, List.dropLast_concat_getLast]
      have hdir := names_dir hlast
      have HP := fun w => Parent_some p _ _ w hp hlast
      rw [← hdir] at HP
      obtain ⟨z, hz⟩ : ∃ z, ys.getLast h0 = z := ⟨_, rfl⟩
      rw [hz] at HP
      have hds := dirOf_size p
      have hpl0 : placeT t p = (match atT t (dirOf p) with | .error c => c | .ok d => if d.kind = 1 then 6 else match atT t p with | .ok _ => 4 | .error _ => 0) := by rw [placeT, hn]; exact if_neg h0
      obtain ⟨dp, hdp⟩ : ∃ dp, dirOf p = dp := ⟨_, rfl⟩
      rw [hdp] at HP hds hpl0
      clear hdir hlast hz hn h0 hdp
      rcases hd : atT t dp with cc | d
      · have hpl : placeT t p = cc := by rw [hpl0, hd]
        have hcc := atT_code hd
        have hgoal : PlaceAns (placeT t p) w = PlaceBad cc w := by funext e w'; rw [hpl]; exact if_neg hcc
        rw [hgoal]
        have HA := fun w => tAt_bad (v := .slice A t.length c) (p := dp) (by omega) hd w
        clear hpl0 hpl hgoal hcc hd
        go_enter Tryz.func87, Tryz.ntmps87
        go_wp2_with (first | (go_at_call 45; refine (HP _).mono ?_; rintro e W1 ⟨rfl, hE1⟩) | (go_at_call 82; refine (HA _ (Hv.out.ext hE1)).mono ?_; rintro e W2 ⟨rfl, hE2⟩))
        go_ret
        exact ⟨_, 0, rfl, rfl, by have := hE1.trans hE2; exact (by repeat (first | exact Ext.refl _ | assumption | refine Ext.alloc ?_ _ | refine Ext.drew ?_ | refine Ext.drewN ?_ _ | refine Ext.setCell ?_ (by first | omega | (simp; done) | (simp; omega)) _ | refine Ext.trans ?_ (by assumption)))⟩
      · have HA := fun w => tAt_ok (v := .slice A t.length c) (p := dp) (by omega) hd w
        by_cases hk : d.kind = 1
        · have hpl : placeT t p = 6 := by rw [hpl0, hd]; exact if_pos hk
          have hgoal : PlaceAns (placeT t p) w = PlaceBad 6 w := by rw [hpl]; rfl
          rw [hgoal]
          clear hpl0 hpl hgoal hd
          go_enter Tryz.func87, Tryz.ntmps87
          go_wp2_with (first | (go_at_call 45; refine (HP _).mono ?_; rintro e W1 ⟨rfl, hE1⟩) | (go_at_call 82; refine (HA _ (Hv.out.ext hE1)).mono ?_; rintro e W2 ⟨rfl, hE2⟩))
          go_ret
          exact ⟨_, 0, rfl, rfl, by have := hE1.trans hE2; exact (by repeat (first | exact Ext.refl _ | assumption | refine Ext.alloc ?_ _ | refine Ext.drew ?_ | refine Ext.drewN ?_ _ | refine Ext.setCell ?_ (by first | omega | (simp; done) | (simp; omega)) _ | refine Ext.trans ?_ (by assumption)))⟩
        · have hk' : (d.kind == 1) = false := by simpa using hk
          rcases hx : atT t p with cc | x
          · have hpl : placeT t p = 0 := by rw [hpl0, hd]; simp only [if_neg hk, hx]
            have hgoal : PlaceAns (placeT t p) w = PlaceOk w := by rw [hpl]; rfl
            rw [hgoal]
            have HB := fun w => tAt_bad (v := .slice A t.length c) hp hx w
            clear hpl0 hpl hgoal hd hk hx
            go_enter Tryz.func87, Tryz.ntmps87
            go_wp2_with fail
            refine (HP _).mono ?_
            rintro e W1 ⟨rfl, hE1⟩
            go_wp2_with fail
            refine (HA _ (Hv.out.ext hE1)).mono ?_
            rintro e W2 ⟨rfl, hE2⟩
            go_wp2_with fail
            refine (HB _ (Hv.out.ext (by have := hE1.trans hE2; exact (by repeat (first | exact Ext.refl _ | assumption | refine Ext.alloc ?_ _ | refine Ext.drew ?_ | refine Ext.drewN ?_ _ | refine Ext.setCell ?_ (by first | omega | (simp; done) | (simp; omega)) _ | refine Ext.trans ?_ (by assumption)))))).mono ?_
            rintro e W3 ⟨rfl, hE3⟩
            go_wp2
            go_ret
            exact ⟨rfl, by have := Ext.trans (by have := hE1.trans hE2; exact (by repeat (first | exact Ext.refl _ | assumption | refine Ext.alloc ?_ _ | refine Ext.drew ?_ | refine Ext.drewN ?_ _ | refine Ext.setCell ?_ (by first | omega | (simp; done) | (simp; omega)) _ | refine Ext.trans ?_ (by assumption))) : Ext w _) hE3; exact (by repeat (first | exact Ext.refl _ | assumption | refine Ext.alloc ?_ _ | refine Ext.drew ?_ | refine Ext.drewN ?_ _ | refine Ext.setCell ?_ (by first | omega | (simp; done) | (simp; omega)) _ | refine Ext.trans ?_ (by assumption)))⟩
          · have hpl : placeT t p = 4 := by rw [hpl0, hd]; simp only [if_neg hk, hx]
            have hgoal : PlaceAns (placeT t p) w = PlaceBad 4 w := by rw [hpl]; rfl
            rw [hgoal]
            have HB := fun w => tAt_ok (v := .slice A t.length c) hp hx w
            clear hpl0 hpl hgoal hd hk hx
            go_enter Tryz.func87, Tryz.ntmps87
            go_wp2_with fail
            refine (HP _).mono ?_
            rintro e W1 ⟨rfl, hE1⟩
            go_wp2_with fail
            refine (HA _ (Hv.out.ext hE1)).mono ?_
            rintro e W2 ⟨rfl, hE2⟩
            go_wp2_with fail
            refine (HB _ (Hv.out.ext (by have := hE1.trans hE2; exact (by repeat (first | exact Ext.refl _ | assumption | refine Ext.alloc ?_ _ | refine Ext.drew ?_ | refine Ext.drewN ?_ _ | refine Ext.setCell ?_ (by first | omega | (simp; done) | (simp; omega)) _ | refine Ext.trans ?_ (by assumption)))))).mono ?_
            rintro e W3 ⟨rfl, hE3⟩
            go_wp2
            go_ret
            exact ⟨_, 0, rfl, rfl, by have := Ext.trans (by have := hE1.trans hE2; exact (by repeat (first | exact Ext.refl _ | assumption | refine Ext.alloc ?_ _ | refine Ext.drew ?_ | refine Ext.drewN ?_ _ | refine Ext.setCell ?_ (by first | omega | (simp; done) | (simp; omega)) _ | refine Ext.trans ?_ (by assumption))) : Ext w _) hE3; exact (by repeat (first | exact Ext.refl _ | assumption | refine Ext.alloc ?_ _ | refine Ext.drew ?_ | refine Ext.drewN ?_ _ | refine Ext.setCell ?_ (by first | omega | (simp; done) | (simp; omega)) _ | refine Ext.trans ?_ (by assumption)))⟩

/-! ### file -/

def FileOk (x : Ent) (w : World) (e : Ending) (w' : World) : Prop := e = .returned (.tuple #[.agg #[.string x.path, .int .i64 x.kind, .string x.data], .nilIface]) ∧ Ext w w'
def FileBad (c : Int) (w : World) (e : Ending) (w' : World) : Prop := ∃ (y : Ent) (v : Value), e = .returned (.tuple #[.agg #[.string y.path, .int .i64 y.kind, .string y.data], v]) ∧ OneErr w' c v ∧ Ext w w'
def FileAns (r : Except Int Ent) (w : World) (e : Ending) (w' : World) : Prop := match r with
  | .ok x => FileOk x w e w'
  | .error c => FileBad c w e w'
def noEnt : Ent := ⟨⟨#[]⟩, 0, ⟨#[]⟩⟩

theorem oneErr_set {W W' : World} {c : Int} {v : Value} {zb : Nat} {t : TypeId} {a0 a1 : Value} {d : ByteArray} (h : OneErr W c v) (hz : Blk W zb t #[a0, a1, .string d]) (hW : ∀ b, b ≠ zb → W'.heap[b]? = W.heap[b]?) : OneErr W' c v := by
  obtain ⟨a, rfl, a', x, e, hc, hx⟩ := h
  cases e
  have hne : a ≠ zb := fun e => by
    subst e
    rw [hz.cell 2 rfl] at hc
    have := Option.some.inj hc
    subst this
    cases hx
  refine ⟨a, rfl, a, x, rfl, ?_, hx⟩
  rw [World.cell?_of_block (w := W) (hW a hne)]
  exact hc

theorem set3_other (W : World) (zb : Nat) (x y z : Value) (b : Nat) (hb : b ≠ zb) : (((W.setCell ⟨zb, 0, none⟩ x).setCell ⟨zb, 1, none⟩ y).setCell ⟨zb, 2, none⟩ z).heap[b]? = W.heap[b]? := by
  rw [Below.heap_setCell _ _ _ _ hb, Below.heap_setCell _ _ _ _ hb, Below.heap_setCell _ _ _ _ hb]

set_option maxHeartbeats 4000000 in
set_option maxRecDepth 20000 in
theorem tFile_any (v : Value) (t : List Ent) (p : ByteArray) (w : World) (hv : RdE w v t) (hp : p.size ≤ 140737488355328) :
    Calls Tryz.prog 83 #[v, .string p] w (FileAns (fileT t p) w) := by
  have Hv := Lib.hid hv
  obtain ⟨A, c, rfl, hc1, hc2, _⟩ := rdE_form hv rfl
  clear hv
  rcases ht : treeOk t with _ | _
  · have hk : fileT t p = .error 16 := by rw [fileT, if_neg (by simp [ht])]
    rw [hk]
    show Calls _ _ _ _ (FileBad 16 w)
    have HT := fun w => Tree_no (v := .slice A t.length c) ht w
    clear ht hk
    go_enter Tryz.func83, Tryz.ntmps83
    go_wp2_with (first | (go_at_call 36; refine (HT _ (Hv.out.ext (by exact (by repeat (first | exact Ext.refl _ | assumption | refine Ext.alloc ?_ _ | refine Ext.drew ?_ | refine Ext.drewN ?_ _ | refine Ext.setCell ?_ (by first | omega | (simp; done) | (simp; omega)) _ | refine Ext.trans ?_ (by assumption)))))).mono ?_; rintro e W1 ⟨rfl, hE1⟩) | (go_at_call 60; refine (fail_At_c _ _ _ _).mono ?_; rintro e W3 ⟨⟨a5, rfl, hEr⟩, hE3⟩; obtain ⟨⟨z0, f0⟩, ⟨z1, f1⟩, ⟨z2, f2⟩⟩ := ((Blk.new w 32 #[.string ⟨#[]⟩, .int .i64 0, .string ⟨#[]⟩]).ext (hE1.trans hE3)).three))
    rw [setCell_same z0, setCell_same z1, setCell_same z2]
    refine bodyPost_ret (v := .tuple #[.agg #[.string ⟨#[]⟩, .int .i64 0, .string ⟨#[]⟩], .iface 163 (.pointer (some ⟨a5, 0, none⟩))]) (by simp [results, Tryz.f83, go_sem, z0, z1, z2]) rfl ?_
    exact ⟨noEnt, _, rfl, ⟨_, rfl, hEr⟩, Ext.trans (by exact (by repeat (first | exact Ext.refl _ | assumption | refine Ext.alloc ?_ _ | refine Ext.drew ?_ | refine Ext.drewN ?_ _ | refine Ext.setCell ?_ (by first | omega | (simp; done) | (simp; omega)) _ | refine Ext.trans ?_ (by assumption)))) (hE1.trans hE3)⟩
  · have HT := fun w => Tree_yes (v := .slice A t.length c) ht w
    by_cases hr : p = ⟨#[47]⟩
    · have hk : fileT t p = .error 1 := by rw [fileT, if_pos ht, if_pos hr]
      rw [hk]
      show Calls _ _ _ _ (FileBad 1 w)
      have hr' : (p.toList == [47]) = true := by rw [hr, toList_eq]; rfl
      clear ht hk hr
      go_enter Tryz.func83, Tryz.ntmps83
      go_wp2_with (first | (go_at_call 36; refine (HT _ (Hv.out.ext (by exact (by repeat (first | exact Ext.refl _ | assumption | refine Ext.alloc ?_ _ | refine Ext.drew ?_ | refine Ext.drewN ?_ _ | refine Ext.setCell ?_ (by first | omega | (simp; done) | (simp; omega)) _ | refine Ext.trans ?_ (by assumption)))))).mono ?_; rintro e W1 ⟨rfl, hE1⟩) | (go_at_call 60; refine (fail_At_c _ _ _ _).mono ?_; rintro e W3 ⟨⟨a5, rfl, hEr⟩, hE3⟩; obtain ⟨⟨z0, f0⟩, ⟨z1, f1⟩, ⟨z2, f2⟩⟩ := ((Blk.new w 32 #[.string ⟨#[]⟩, .int .i64 0, .string ⟨#[]⟩]).ext (hE1.trans hE3)).three))
      rw [setCell_same z0, setCell_same z1, setCell_same z2]
      refine bodyPost_ret (v := .tuple #[.agg #[.string ⟨#[]⟩, .int .i64 0, .string ⟨#[]⟩], .iface 163 (.pointer (some ⟨a5, 0, none⟩))]) (by simp [results, Tryz.f83, go_sem, z0, z1, z2]) rfl ?_
      exact ⟨noEnt, _, rfl, ⟨_, rfl, hEr⟩, Ext.trans (by exact (by repeat (first | exact Ext.refl _ | assumption | refine Ext.alloc ?_ _ | refine Ext.drew ?_ | refine Ext.drewN ?_ _ | refine Ext.setCell ?_ (by first | omega | (simp; done) | (simp; omega)) _ | refine Ext.trans ?_ (by assumption)))) (hE1.trans hE3)⟩
    · have hr' : (p.toList == [47]) = false := by
        rw [beq_eq_false_iff_ne]
        exact fun e => hr (data_inj (by rw [← toList_eq, e]))
      rcases ha : atT t p with cc | x
      · have hk : fileT t p = .error cc := by rw [fileT, if_pos ht, if_neg hr, ha]
        rw [hk]
        show Calls _ _ _ _ (FileBad cc w)
        have HA := fun w => tAt_bad (v := .slice A t.length c) hp ha w
        clear ht hk ha hr
        go_enter Tryz.func83, Tryz.ntmps83
        go_upto_region 8 with (first | (go_at_call 36; refine (HT _ (Hv.out.ext (by exact (by repeat (first | exact Ext.refl _ | assumption | refine Ext.alloc ?_ _ | refine Ext.drew ?_ | refine Ext.drewN ?_ _ | refine Ext.setCell ?_ (by first | omega | (simp; done) | (simp; omega)) _ | refine Ext.trans ?_ (by assumption)))))).mono ?_; rintro e W1 ⟨rfl, hE1⟩) | (go_at_call 82; refine (HA _ (Hv.out.ext (Ext.trans (by exact (by repeat (first | exact Ext.refl _ | assumption | refine Ext.alloc ?_ _ | refine Ext.drew ?_ | refine Ext.drewN ?_ _ | refine Ext.setCell ?_ (by first | omega | (simp; done) | (simp; omega)) _ | refine Ext.trans ?_ (by assumption)))) hE1))).mono ?_; rintro e W2 ⟨rfl, hE2⟩))
        have hEw : Ext w W2 := (Ext.trans (by exact (by repeat (first | exact Ext.refl _ | assumption | refine Ext.alloc ?_ _ | refine Ext.drew ?_ | refine Ext.drewN ?_ _ | refine Ext.setCell ?_ (by first | omega | (simp; done) | (simp; omega)) _ | refine Ext.trans ?_ (by assumption)))) hE1).trans hE2
        have hZ : Blk (W2.alloc (.cells #[.string ⟨#[]⟩, .int .i64 0, .string ⟨#[]⟩] 32)) w.heap.size 32 #[.string ⟨#[]⟩, .int .i64 0, .string ⟨#[]⟩] := ((Blk.new w 32 #[.string ⟨#[]⟩, .int .i64 0, .string ⟨#[]⟩]).ext (hE1.trans hE2)).ext ((Ext.refl _).alloc _)
        have hX := Blk.new W2 32 #[.string ⟨#[]⟩, .int .i64 0, .string ⟨#[]⟩]
        have hne : w.heap.size ≠ W2.heap.size := Nat.ne_of_lt (Nat.lt_of_lt_of_le (by simp) (hE1.trans hE2).size)
        have hE4 : Ext w (W2.alloc (.cells #[.string ⟨#[]⟩, .int .i64 0, .string ⟨#[]⟩] 32)) := (by repeat (first | exact Ext.refl _ | assumption | refine Ext.alloc ?_ _ | refine Ext.drew ?_ | refine Ext.drewN ?_ _ | refine Ext.setCell ?_ (by first | omega | (simp; done) | (simp; omega)) _ | refine Ext.trans ?_ (by assumption)))
        obtain ⟨zb, hzb⟩ : ∃ zb, w.heap.size = zb := ⟨_, rfl⟩
        obtain ⟨xb, hxb⟩ : ∃ xb, W2.heap.size = xb := ⟨_, rfl⟩
        have hzw : w.heap.size ≤ zb := by omega
        rw [hzb, hxb] at hne
        rw [hzb] at hZ
        rw [hxb] at hX
        simp only [hzb, hxb]
        have Hzb := Lib.hid hzb
        have Hxb := Lib.hid hxb
        clear hzb hxb hE1 hE2 hEw
        generalize W2.alloc (.cells #[.string ⟨#[]⟩, .int .i64 0, .string ⟨#[]⟩] 32) = W4 at hZ hX hE4 ⊢
        obtain ⟨⟨x0, _⟩, ⟨x1, _⟩, ⟨x2, _⟩⟩ := hX.three
        obtain ⟨⟨z0, f0⟩, ⟨z1, f1⟩, ⟨z2, f2⟩⟩ := hZ.three
        go_region_held3 (fun w' => w'.cell? ⟨xb, 0, none⟩ = some (.string ⟨#[]⟩) ∧ w'.cell? ⟨xb, 1, none⟩ = some (.int .i64 0) ∧ w'.cell? ⟨xb, 2, none⟩ = some (.string ⟨#[]⟩)) (first | go_keep | exact ⟨hE5.cell x0, hE5.cell x1, hE5.cell x2⟩)
          (first | (go_at_call 60; refine (fail_At_c _ _ _ _).mono ?_; rintro e W5 ⟨⟨a5, rfl, hEr⟩, hE5'⟩; have hE5 : Ext W4 W5 := Ext.trans (by exact (by repeat (first | exact Ext.refl _ | assumption | refine Ext.alloc ?_ _ | refine Ext.drew ?_ | refine Ext.drewN ?_ _ | refine Ext.setCell ?_ (by first | omega | (simp; done) | (simp; omega)) _ | refine Ext.trans ?_ (by assumption)))) hE5'; have z0' := hE5.cell z0; have z1' := hE5.cell z1; have z2' := hE5.cell z2; have f0' := hE5.frozen z0; have f1' := hE5.frozen z1; have f2' := hE5.frozen z2; rw [f0] at f0'; rw [f1] at f1'; rw [f2] at f2'))
        go_wp2
        obtain ⟨⟨u0, _⟩, ⟨u1, _⟩, ⟨u2, _⟩⟩ := (blk3_set (hZ.ext hE5) (.string ⟨#[]⟩) (.int .i64 0) (.string ⟨#[]⟩)).three
        refine bodyPost_ret (v := .tuple #[.agg #[(.string ⟨#[]⟩), (.int .i64 0), (.string ⟨#[]⟩)], .iface 163 (.pointer (some ⟨a5, 0, none⟩))]) (by simp [results, Tryz.f83, go_sem, u0, u1, u2]) rfl ?_
        exact ⟨noEnt, _, rfl, oneErr_set ⟨_, rfl, hEr⟩ (hZ.ext hE5) (set3_other W5 zb _ _ _), (((hE4.trans hE5).setCell (p := ⟨zb, 0, none⟩) hzw _).setCell (p := ⟨zb, 1, none⟩) hzw _).setCell (p := ⟨zb, 2, none⟩) hzw _⟩
      · have HA := fun w => tAt_ok (v := .slice A t.length c) hp ha w
        by_cases hk2 : x.kind = 2
        · have hk : fileT t p = .error 5 := by rw [fileT, if_pos ht, if_neg hr, ha]; exact if_pos hk2
          rw [hk]
          show Calls _ _ _ _ (FileBad 5 w)
          have hk2' : (x.kind == 2) = true := by simp [hk2]
          have Hk2 := Lib.hid hk2
          clear ht hk ha hr hk2
          go_enter Tryz.func83, Tryz.ntmps83
          go_upto_region 8 with (first | (go_at_call 36; refine (HT _ (Hv.out.ext (by exact (by repeat (first | exact Ext.refl _ | assumption | refine Ext.alloc ?_ _ | refine Ext.drew ?_ | refine Ext.drewN ?_ _ | refine Ext.setCell ?_ (by first | omega | (simp; done) | (simp; omega)) _ | refine Ext.trans ?_ (by assumption)))))).mono ?_; rintro e W1 ⟨rfl, hE1⟩) | (go_at_call 82; refine (HA _ (Hv.out.ext (Ext.trans (by exact (by repeat (first | exact Ext.refl _ | assumption | refine Ext.alloc ?_ _ | refine Ext.drew ?_ | refine Ext.drewN ?_ _ | refine Ext.setCell ?_ (by first | omega | (simp; done) | (simp; omega)) _ | refine Ext.trans ?_ (by assumption)))) hE1))).mono ?_; rintro e W2 ⟨rfl, hE2⟩))
          have hEw : Ext w W2 := (Ext.trans (by exact (by repeat (first | exact Ext.refl _ | assumption | refine Ext.alloc ?_ _ | refine Ext.drew ?_ | refine Ext.drewN ?_ _ | refine Ext.setCell ?_ (by first | omega | (simp; done) | (simp; omega)) _ | refine Ext.trans ?_ (by assumption)))) hE1).trans hE2
          have hZ : Blk (W2.alloc (.cells #[.string x.path, .int .i64 x.kind, .string x.data] 32)) w.heap.size 32 #[.string ⟨#[]⟩, .int .i64 0, .string ⟨#[]⟩] := ((Blk.new w 32 #[.string ⟨#[]⟩, .int .i64 0, .string ⟨#[]⟩]).ext (hE1.trans hE2)).ext ((Ext.refl _).alloc _)
          have hX := Blk.new W2 32 #[.string x.path, .int .i64 x.kind, .string x.data]
          have hne : w.heap.size ≠ W2.heap.size := Nat.ne_of_lt (Nat.lt_of_lt_of_le (by simp) (hE1.trans hE2).size)
          have hE4 : Ext w (W2.alloc (.cells #[.string x.path, .int .i64 x.kind, .string x.data] 32)) := (by repeat (first | exact Ext.refl _ | assumption | refine Ext.alloc ?_ _ | refine Ext.drew ?_ | refine Ext.drewN ?_ _ | refine Ext.setCell ?_ (by first | omega | (simp; done) | (simp; omega)) _ | refine Ext.trans ?_ (by assumption)))
          obtain ⟨zb, hzb⟩ : ∃ zb, w.heap.size = zb := ⟨_, rfl⟩
          obtain ⟨xb, hxb⟩ : ∃ xb, W2.heap.size = xb := ⟨_, rfl⟩
          have hzw : w.heap.size ≤ zb := by omega
          rw [hzb, hxb] at hne
          rw [hzb] at hZ
          rw [hxb] at hX
          simp only [hzb, hxb]
          have Hzb := Lib.hid hzb
          have Hxb := Lib.hid hxb
          clear hzb hxb hE1 hE2 hEw
          generalize W2.alloc (.cells #[.string x.path, .int .i64 x.kind, .string x.data] 32) = W4 at hZ hX hE4 ⊢
          obtain ⟨⟨x0, _⟩, ⟨x1, _⟩, ⟨x2, _⟩⟩ := hX.three
          obtain ⟨⟨z0, f0⟩, ⟨z1, f1⟩, ⟨z2, f2⟩⟩ := hZ.three
          go_region_held3 (fun w' => w'.cell? ⟨xb, 0, none⟩ = some (.string x.path) ∧ w'.cell? ⟨xb, 1, none⟩ = some (.int .i64 x.kind) ∧ w'.cell? ⟨xb, 2, none⟩ = some (.string x.data)) (first | go_keep | exact ⟨hE5.cell x0, hE5.cell x1, hE5.cell x2⟩)
            (first | (go_at_call 60; refine (fail_At_c _ _ _ _).mono ?_; rintro e W5 ⟨⟨a5, rfl, hEr⟩, hE5'⟩; have hE5 : Ext W4 W5 := Ext.trans (by exact (by repeat (first | exact Ext.refl _ | assumption | refine Ext.alloc ?_ _ | refine Ext.drew ?_ | refine Ext.drewN ?_ _ | refine Ext.setCell ?_ (by first | omega | (simp; done) | (simp; omega)) _ | refine Ext.trans ?_ (by assumption)))) hE5'; have z0' := hE5.cell z0; have z1' := hE5.cell z1; have z2' := hE5.cell z2; have f0' := hE5.frozen z0; have f1' := hE5.frozen z1; have f2' := hE5.frozen z2; rw [f0] at f0'; rw [f1] at f1'; rw [f2] at f2'))
          go_wp2
          obtain ⟨⟨u0, _⟩, ⟨u1, _⟩, ⟨u2, _⟩⟩ := (blk3_set (hZ.ext hE5) (.string x.path) (.int .i64 x.kind) (.string x.data)).three
          refine bodyPost_ret (v := .tuple #[.agg #[(.string x.path), (.int .i64 x.kind), (.string x.data)], .iface 163 (.pointer (some ⟨a5, 0, none⟩))]) (by simp [results, Tryz.f83, go_sem, u0, u1, u2]) rfl ?_
          exact ⟨x, _, rfl, oneErr_set ⟨_, rfl, hEr⟩ (hZ.ext hE5) (set3_other W5 zb _ _ _), (((hE4.trans hE5).setCell (p := ⟨zb, 0, none⟩) hzw _).setCell (p := ⟨zb, 1, none⟩) hzw _).setCell (p := ⟨zb, 2, none⟩) hzw _⟩
        · have hk : fileT t p = .ok x := by rw [fileT, if_pos ht, if_neg hr, ha]; exact if_neg hk2
          rw [hk]
          show Calls _ _ _ _ (FileOk x w)
          have hk2' : (x.kind == 2) = false := by simpa using hk2
          clear ht hk ha hr hk2
          go_enter Tryz.func83, Tryz.ntmps83
          go_upto_region 8 with (first | (go_at_call 36; refine (HT _ (Hv.out.ext (by exact (by repeat (first | exact Ext.refl _ | assumption | refine Ext.alloc ?_ _ | refine Ext.drew ?_ | refine Ext.drewN ?_ _ | refine Ext.setCell ?_ (by first | omega | (simp; done) | (simp; omega)) _ | refine Ext.trans ?_ (by assumption)))))).mono ?_; rintro e W1 ⟨rfl, hE1⟩) | (go_at_call 82; refine (HA _ (Hv.out.ext (Ext.trans (by exact (by repeat (first | exact Ext.refl _ | assumption | refine Ext.alloc ?_ _ | refine Ext.drew ?_ | refine Ext.drewN ?_ _ | refine Ext.setCell ?_ (by first | omega | (simp; done) | (simp; omega)) _ | refine Ext.trans ?_ (by assumption)))) hE1))).mono ?_; rintro e W2 ⟨rfl, hE2⟩))
          have hEw : Ext w W2 := (Ext.trans (by exact (by repeat (first | exact Ext.refl _ | assumption | refine Ext.alloc ?_ _ | refine Ext.drew ?_ | refine Ext.drewN ?_ _ | refine Ext.setCell ?_ (by first | omega | (simp; done) | (simp; omega)) _ | refine Ext.trans ?_ (by assumption)))) hE1).trans hE2
          have hZ : Blk (W2.alloc (.cells #[.string x.path, .int .i64 x.kind, .string x.data] 32)) w.heap.size 32 #[.string ⟨#[]⟩, .int .i64 0, .string ⟨#[]⟩] := ((Blk.new w 32 #[.string ⟨#[]⟩, .int .i64 0, .string ⟨#[]⟩]).ext (hE1.trans hE2)).ext ((Ext.refl _).alloc _)
          have hX := Blk.new W2 32 #[.string x.path, .int .i64 x.kind, .string x.data]
          have hne : w.heap.size ≠ W2.heap.size := Nat.ne_of_lt (Nat.lt_of_lt_of_le (by simp) (hE1.trans hE2).size)
          have hE4 : Ext w (W2.alloc (.cells #[.string x.path, .int .i64 x.kind, .string x.data] 32)) := (by repeat (first | exact Ext.refl _ | assumption | refine Ext.alloc ?_ _ | refine Ext.drew ?_ | refine Ext.drewN ?_ _ | refine Ext.setCell ?_ (by first | omega | (simp; done) | (simp; omega)) _ | refine Ext.trans ?_ (by assumption)))
          obtain ⟨zb, hzb⟩ : ∃ zb, w.heap.size = zb := ⟨_, rfl⟩
          obtain ⟨xb, hxb⟩ : ∃ xb, W2.heap.size = xb := ⟨_, rfl⟩
          have hzw : w.heap.size ≤ zb := by omega
          rw [hzb, hxb] at hne
          rw [hzb] at hZ
          rw [hxb] at hX
          simp only [hzb, hxb]
          have Hzb := Lib.hid hzb
          have Hxb := Lib.hid hxb
          clear hzb hxb hE1 hE2 hEw
          generalize W2.alloc (.cells #[.string x.path, .int .i64 x.kind, .string x.data] 32) = W4 at hZ hX hE4 ⊢
          obtain ⟨⟨x0, _⟩, ⟨x1, _⟩, ⟨x2, _⟩⟩ := hX.three
          obtain ⟨⟨z0, f0⟩, ⟨z1, f1⟩, ⟨z2, f2⟩⟩ := hZ.three
          go_region_held3 (fun w' => w'.cell? ⟨xb, 0, none⟩ = some (.string x.path) ∧ w'.cell? ⟨xb, 1, none⟩ = some (.int .i64 x.kind) ∧ w'.cell? ⟨xb, 2, none⟩ = some (.string x.data)) (first | go_keep | exact ⟨x0, x1, x2⟩)
            (first | (go_at_call 60; refine (fail_At_nil _ _ _).mono ?_; rintro e W5 ⟨rfl, rfl⟩))
          go_wp2
          obtain ⟨⟨u0, _⟩, ⟨u1, _⟩, ⟨u2, _⟩⟩ := (blk3_set hZ (.string x.path) (.int .i64 x.kind) (.string x.data)).three
          refine bodyPost_ret (v := .tuple #[.agg #[.string x.path, .int .i64 x.kind, .string x.data], .nilIface]) (by simp [results, Tryz.f83, go_sem, u0, u1, u2]) rfl ?_
          exact ⟨rfl, (((hE4.setCell (p := ⟨zb, 0, none⟩) hzw _).setCell (p := ⟨zb, 1, none⟩) hzw _).setCell (p := ⟨zb, 2, none⟩) hzw _).drew⟩
end Go.Proofs.YtgemdfobkockaaaGreatDoor
