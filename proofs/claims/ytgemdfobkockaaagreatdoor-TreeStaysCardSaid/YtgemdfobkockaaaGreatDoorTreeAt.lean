/- tree.at, Kind, Read, place, file. -/
import Derived.Test.YtgemdfobkockaaaGreatDoorTreeOps
import Derived.Test.YtgemdfobkockaaaGreatDoorFoldTree
import Derived.Test.YtgemdfobkockaaaGreatDoorDelE
import Derived.Deep.QuietTactic
import Derived.BigQuiet
namespace Go.Proofs.YtgemdfobkockaaaGreatDoor
open Go Go.RowKit Go.Shelf Go.Proofs

theorem beq_path (a b : ByteArray) : (a.toList == b.toList) = decide (a = b) := by
  rw [Bool.eq_iff_iff, beq_iff_eq, decide_eq_true_eq]
  exact ⟨fun e => data_inj (by rw [← toList_eq, e, toList_eq]), fun e => by rw [e]⟩

theorem at1_any (cb : Nat) (p : ByteArray) (x : Ent) (W : World) (hq : W.cell? ⟨cb, 0, none⟩ = some (.string p)) :
    Calls Tryz.prog 127 #[.agg #[.string x.path, .int .i64 x.kind, .string x.data], .pointer (some ⟨cb, 0, none⟩)] W fun e w' => e = .returned (.bool (decide (x.path = p))) ∧ Ext W w' := by
  have hq2 := Lib.cell?_alloc_some (.cells #[.string x.path, .int .i64 x.kind, .string x.data] 32) hq
  go_enter Tryz.func127, Tryz.ntmps127
  go_wp2
  go_ret
  exact ⟨congrArg (fun b => Ending.returned (.bool b)) (beq_path x.path p), (by repeat (first | exact Ext.refl _ | assumption | refine Ext.alloc ?_ _ | refine Ext.drew ?_ | refine Ext.drewN ?_ _ | refine Ext.setCell ?_ (by first | omega | (simp; done) | (simp; omega)) _ | refine Ext.trans ?_ (by assumption)))⟩

theorem asks_at (cb : Nat) (p : ByteArray) : Asks 127 cb (fun x => decide (x.path = p)) (fun W => W.cell? ⟨cb, 0, none⟩ = some (.string p)) where
  enter := enters_of Tryz.func127 (by kernel_rfl) rfl
  call := fun x W hq => at1_any cb p x W hq
  ext := fun W W' h he => he.cell h

theorem blk3_set {w : World} {b : Nat} {t : TypeId} {a0 a1 a2 : Value} (h : Blk w b t #[a0, a1, a2]) (x y z : Value) : Blk (((w.setCell ⟨b, 0, none⟩ x).setCell ⟨b, 1, none⟩ y).setCell ⟨b, 2, none⟩ z) b t #[x, y, z] := by
  have h1 := ((h.set 0 x).set 1 y).set 2 z
  exact h1

/-- tree.at's answers. -/
def AtTOk (x : Ent) (w : World) (e : Ending) (w' : World) : Prop := e = .returned (.tuple #[.agg #[.string x.path, .int .i64 x.kind, .string x.data], .nilIface]) ∧ Ext w w'
def AtTBad (c : Int) (w : World) (e : Ending) (w' : World) : Prop := e = .returned (.tuple #[.agg #[.string ⟨#[]⟩, .int .i64 0, .string ⟨#[]⟩], .iface 100 (.int .i64 c)]) ∧ Ext w w'
def AtTAns (r : Except Int Ent) (w : World) (e : Ending) (w' : World) : Prop := match r with
  | .ok x => AtTOk x w e w'
  | .error c => AtTBad c w e w'

theorem deep_none {p : ByteArray} (h : names p = none) : deep p = -1 := by rw [deep, h]
theorem deep_some {p : ByteArray} {ys : List ByteArray} (h : names p = some ys) : deep p = ys.length := by rw [deep, h]

theorem idxP_find {t : List Ent} {p : ByteArray} {x : Ent} (h : findT t p = some x) : ∃ k, ∃ hk : k < t.length, idxP (fun x => decide (x.path = p)) t = (k : Int) ∧ t[k] = x := by
  rcases hi : t.findIdx? (fun x => decide (x.path = p)) with _ | k
  · rw [List.findIdx?_eq_none_iff] at hi
    obtain ⟨h1, h2⟩ := findT_some h
    have := hi x h1
    simp [h2] at this
  · obtain ⟨hk, h1, h2⟩ := List.findIdx?_eq_some_iff_getElem.1 hi
    refine ⟨k, hk, by rw [idxP, hi], ?_⟩
    have h3 : findT t p = some t[k] := by
      rw [findT, List.find?_eq_some_iff_getElem]
      exact ⟨h1, k, hk, rfl, fun j hj => by simpa using h2 j hj⟩
    rw [h] at h3
    exact (Option.some.inj h3).symm
theorem idxP_nofind {t : List Ent} {p : ByteArray} (h : findT t p = none) : idxP (fun x => decide (x.path = p)) t = -1 :=
  idxP_none fun x hx => decide_eq_false (findT_none h x hx)

set_option maxHeartbeats 4000000 in
theorem tAt_any (v : Value) (t : List Ent) (p : ByteArray) (w : World) (hv : RdE w v t) (hp : p.size ≤ 140737488355328) :
    Calls Tryz.prog 82 #[v, .string p] w (AtTAns (atT t p) w) := by
  have HD := fun w => Deep_any p w hp
  have Hv := Lib.hid hv
  obtain ⟨n, hn⟩ : ∃ n, n = t.length := ⟨_, rfl⟩
  have Hn := Lib.hid hn
  obtain ⟨A, c, rfl, hc1, hc2, Hcell⟩ := rdE_form hv hn
  have hlen := Rd.len hv
  rw [← hn] at hlen
  clear hv hn
  rcases hnm : names p with _ | ys
  · have hat : atT t p = .error 2 := by rw [atT, hnm]
    rw [hat]
    show Calls _ _ _ _ (AtTBad 2 w)
    rw [deep_none hnm] at HD
    clear hnm hat
    go_enter Tryz.func82, Tryz.ntmps82
    go_wp2_with (go_at_call 125; refine (HD _).mono ?_; rintro e W1 ⟨rfl, hE1⟩; have hX := ((Blk.new (w.alloc (.cells #[.string p] 9)) 32 #[.string ⟨#[]⟩, .int .i64 0, .string ⟨#[]⟩]).ext hE1); rw [World.size_alloc] at hX; obtain ⟨⟨z0, f0⟩, ⟨z1, f1⟩, ⟨z2, f2⟩⟩ := hX.three)
    rw [setCell_same z0, setCell_same z1, setCell_same z2]
    refine bodyPost_ret (v := .tuple #[.agg #[.string ⟨#[]⟩, .int .i64 0, .string ⟨#[]⟩], .iface 100 (.int .i64 2)]) (by simp [results, Tryz.f82, go_sem, z0, z1, z2]) rfl ?_
    exact ⟨rfl, Ext.trans (by exact (by repeat (first | exact Ext.refl _ | assumption | refine Ext.alloc ?_ _ | refine Ext.drew ?_ | refine Ext.drewN ?_ _ | refine Ext.setCell ?_ (by first | omega | (simp; done) | (simp; omega)) _ | refine Ext.trans ?_ (by assumption)))) hE1⟩
  · rw [deep_some hnm] at HD
    by_cases h0 : ys = []
    · have hroot : p = ⟨#[47]⟩ := by rw [← (names_some hnm).2.2, h0]; rfl
      have hat : atT t p = .ok ⟨p, 2, ⟨#[]⟩⟩ := by rw [atT, hnm]; exact if_pos h0
      rw [hat]
      show Calls _ _ _ _ (AtTOk ⟨p, 2, ⟨#[]⟩⟩ w)
      have hr : (p.toList == [47]) = true := by rw [hroot, toList_eq]; rfl
      have hl0 : (ys.length : Int) = 0 := by rw [h0]; rfl
      rw [hl0] at HD
      clear hnm hat hroot h0 hl0
      go_enter Tryz.func82, Tryz.ntmps82
      go_wp2_with (go_at_call 125; refine (HD _).mono ?_; rintro e W1 ⟨rfl, hE1⟩; have hX := ((Blk.new (w.alloc (.cells #[.string p] 9)) 32 #[.string ⟨#[]⟩, .int .i64 0, .string ⟨#[]⟩]).ext hE1); rw [World.size_alloc] at hX; obtain ⟨⟨z0, f0⟩, ⟨z1, f1⟩, ⟨z2, f2⟩⟩ := hX.three; have hP := (Blk.new w 9 #[.string p]).ext (Ext.trans (Ext.alloc (Ext.refl _) _) hE1); obtain ⟨x0, y0⟩ := hP.one)
      obtain ⟨⟨u0, _⟩, ⟨u1, _⟩, ⟨u2, _⟩⟩ := (blk3_set hX (.string p) (.int .i64 2) (.string ⟨#[]⟩)).three
      refine bodyPost_ret (v := .tuple #[.agg #[.string p, .int .i64 2, .string ⟨#[]⟩], .nilIface]) (by simp [results, Tryz.f82, go_sem, u0, u1, u2]) rfl ?_
      have hE2 : Ext w W1 := Ext.trans (by exact (by repeat (first | exact Ext.refl _ | assumption | refine Ext.alloc ?_ _ | refine Ext.drew ?_ | refine Ext.drewN ?_ _ | refine Ext.setCell ?_ (by first | omega | (simp; done) | (simp; omega)) _ | refine Ext.trans ?_ (by assumption)))) hE1
      exact ⟨rfl, (by repeat (first | exact Ext.refl _ | assumption | refine Ext.alloc ?_ _ | refine Ext.drew ?_ | refine Ext.drewN ?_ _ | refine Ext.setCell ?_ (by first | omega | (simp; done) | (simp; omega)) _ | refine Ext.trans ?_ (by assumption)))⟩
    · have hroot : (p.toList == [47]) = false := by
        rw [beq_eq_false_iff_ne]
        exact fun e => names_ne_root hnm h0 (data_inj (by rw [← toList_eq, e]))
      have hdeep := atT_deep (t := t) hnm h0
      have hnn : ¬ (ys.length : Int) < 0 := by omega
      have hnm' := Lib.hid hnm
      clear hnm h0
      rcases hf : findT t p with _ | x
      · have hat : atT t p = .error 3 := by rw [hdeep, hf]
        rw [hat]
        show Calls _ _ _ _ (AtTBad 3 w)
        have HI := fun W h h2 => IdxE_any (asks_at w.heap.size p) (.slice A n c) t W h h2
        rw [idxP_nofind hf] at HI
        clear hdeep hf hat
        go_enter Tryz.func82, Tryz.ntmps82
        go_wp2_with (first | (go_at_call 125; refine (HD _).mono ?_; rintro e W1 ⟨rfl, hE1⟩; have hX := ((Blk.new (w.alloc (.cells #[.string p] 9)) 32 #[.string ⟨#[]⟩, .int .i64 0, .string ⟨#[]⟩]).ext hE1); rw [World.size_alloc] at hX; have hP := (Blk.new w 9 #[.string p]).ext (Ext.trans (Ext.alloc (Ext.refl _) _) hE1); obtain ⟨x0, y0⟩ := hP.one; have hE2 : Ext w W1 := Ext.trans (by exact (by repeat (first | exact Ext.refl _ | assumption | refine Ext.alloc ?_ _ | refine Ext.drew ?_ | refine Ext.drewN ?_ _ | refine Ext.setCell ?_ (by first | omega | (simp; done) | (simp; omega)) _ | refine Ext.trans ?_ (by assumption)))) hE1) | (go_at_call 126; refine (HI _ (Hv.out.ext hE2) x0).mono ?_; rintro e W3 ⟨rfl, hE3⟩; have hX3 := hX.ext hE3; obtain ⟨⟨z0, f0⟩, ⟨z1, f1⟩, ⟨z2, f2⟩⟩ := hX3.three))
        rw [setCell_same z0, setCell_same z1, setCell_same z2]
        refine bodyPost_ret (v := .tuple #[.agg #[.string ⟨#[]⟩, .int .i64 0, .string ⟨#[]⟩], .iface 100 (.int .i64 3)]) (by simp [results, Tryz.f82, go_sem, z0, z1, z2]) rfl ?_
        exact ⟨rfl, hE2.trans hE3⟩
      · have hat : atT t p = .ok x := by rw [hdeep, hf]
        rw [hat]
        show Calls _ _ _ _ (AtTOk x w)
        have HI := fun W h h2 => IdxE_any (asks_at w.heap.size p) (.slice A n c) t W h h2
        obtain ⟨k, hk, hik, hkx⟩ := idxP_find hf
        rw [hik] at HI
        obtain ⟨b, o, rfl, hcell⟩ := Hcell.out (List.ne_nil_of_length_pos (by omega))
        obtain ⟨q0, q1, q2, _⟩ := hcell k hk
        rw [hkx] at q0 q1 q2
        have hkn : k < n := by have := Hn.out; omega
        clear hdeep hf hat hkx hik hcell
        go_enter Tryz.func82, Tryz.ntmps82
        go_wp2_with (first | (go_at_call 125; refine (HD _).mono ?_; rintro e W1 ⟨rfl, hE1⟩; have hX := ((Blk.new (w.alloc (.cells #[.string p] 9)) 32 #[.string ⟨#[]⟩, .int .i64 0, .string ⟨#[]⟩]).ext hE1); rw [World.size_alloc] at hX; have hP := (Blk.new w 9 #[.string p]).ext (Ext.trans (Ext.alloc (Ext.refl _) _) hE1); obtain ⟨x0, y0⟩ := hP.one; have hE2 : Ext w W1 := Ext.trans (by exact (by repeat (first | exact Ext.refl _ | assumption | refine Ext.alloc ?_ _ | refine Ext.drew ?_ | refine Ext.drewN ?_ _ | refine Ext.setCell ?_ (by first | omega | (simp; done) | (simp; omega)) _ | refine Ext.trans ?_ (by assumption)))) hE1) | (go_at_call 126; refine (HI _ (Hv.out.ext hE2) x0).mono ?_; rintro e W3 ⟨rfl, hE3⟩; have hX3 := hX.ext hE3; obtain ⟨⟨z0, f0⟩, ⟨z1, f1⟩, ⟨z2, f2⟩⟩ := hX3.three; have hE4 := hE2.trans hE3; have r0 := hE4.cell q0; have r1 := hE4.cell q1; have r2 := hE4.cell q2))
        obtain ⟨⟨u0, _⟩, ⟨u1, _⟩, ⟨u2, _⟩⟩ := (blk3_set hX3 (.string x.path) (.int .i64 x.kind) (.string x.data)).three
        refine bodyPost_ret (v := .tuple #[.agg #[.string x.path, .int .i64 x.kind, .string x.data], .nilIface]) (by simp [results, Tryz.f82, go_sem, u0, u1, u2]) rfl ?_
        exact ⟨rfl, (by repeat (first | exact Ext.refl _ | assumption | refine Ext.alloc ?_ _ | refine Ext.drew ?_ | refine Ext.drewN ?_ _ | refine Ext.setCell ?_ (by first | omega | (simp; done) | (simp; omega)) _ | refine Ext.trans ?_ (by assumption)))⟩
end Go.Proofs.YtgemdfobkockaaaGreatDoor
