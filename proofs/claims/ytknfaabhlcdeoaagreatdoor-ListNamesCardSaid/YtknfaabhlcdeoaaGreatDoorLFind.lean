/- layer.Find answers what stands at a place of a layer; look.right. -/
import Derived.Test.YtknfaabhlcdeoaaGreatDoorLRight
import Derived.Test.YtknfaabhlcdeoaaGreatDoorBlk
namespace Go.Proofs.YtknfaabhlcdeoaaGreatDoor
open Go Go.RowKit Go.Shelf Go.Proofs

/-- What stands at a place of a layer. -/
def findE (l : List Ent) (p : ByteArray) : Option Ent := if layerOk l then l.find? fun y => decide (y.path = p) else none

theorem findE_none {l : List Ent} {p : ByteArray} {k : Nat} (hr : Rising l) (h : AtIs l p k false) : findE l p = none := by
  rw [findE]
  split
  · rw [List.find?_eq_none]
    intro y hy
    simpa using any_none hr h y hy
  · rfl

theorem findE_some {l : List Ent} {p : ByteArray} {k : Nat} (hl : layerOk l = true) (h : AtIs l p k true) : ∃ hk : k < l.length, findE l p = some l[k] := by
  obtain ⟨hk, e, hu⟩ := at_one (layerOk_rising hl) h
  refine ⟨hk, ?_⟩
  rw [findE, if_pos hl]
  rcases hf : l.find? (fun y => decide (y.path = p)) with _ | y
  · rw [List.find?_eq_none] at hf
    have := hf l[k] (List.getElem_mem hk)
    simp [e] at this
  · have h1 := List.mem_of_find?_eq_some hf
    have h2 := List.find?_some hf
    rw [decide_eq_true_eq] at h2
    rw [hf, hu y h1 h2]

theorem findE_mem {l : List Ent} {p : ByteArray} {x : Ent} (h : findE l p = some x) : x ∈ l ∧ x.path = p ∧ layerOk l = true := by
  rw [findE] at h
  split at h
  · rename_i h1
    have h2 := List.find?_some h
    rw [decide_eq_true_eq] at h2
    exact ⟨List.mem_of_find?_eq_some h, h2, h1⟩
  · cases h

/-- What layer.Find answers. -/
def foundV : Option Ent → Value
  | none => .tuple #[.agg #[.string ⟨#[]⟩, .int .i64 0, .string ⟨#[]⟩], .bool false]
  | some x => .tuple #[.agg #[.string x.path, .int .i64 x.kind, .string x.data], .bool true]

set_option maxHeartbeats 2000000 in
theorem Find_any (v : Value) (l : List Ent) (p : ByteArray) (w : World) (hv : RdE w v l) :
    Calls Tryz.prog 43 #[v, .string p] w fun e w' => e = .returned (foundV (findE l p)) ∧ Ext w w' := by
  have HR := fun w h => LRight_any v l w h
  by_cases hl : layerOk l = true
  · have hrise := layerOk_rising hl
    have HA := fun w h => at_any v l p w h hrise
    rw [hl] at HR
    have Hv := Lib.hid hv
    clear hv
    go_enter Tryz.func43, Tryz.ntmps43
    go_upto_region 1 with (fail)
    obtain ⟨eb, heb⟩ : ∃ eb, w.heap.size = eb := ⟨_, rfl⟩
    have hB := Blk.new w 33 #[.string ⟨#[]⟩, .int .i64 0, .string ⟨#[]⟩]
    have hE1 := (Ext.refl w).alloc (.cells #[.string ⟨#[]⟩, .int .i64 0, .string ⟨#[]⟩] 33)
    have hle : w.heap.size ≤ eb := by omega
    rw [heb] at hB
    rw [heb]
    have Heb := Lib.hid heb
    clear heb
    generalize w.alloc (.cells #[.string ⟨#[]⟩, .int .i64 0, .string ⟨#[]⟩] 33) = W1 at hB hE1 ⊢
    go_wp2_with (go_at_call 41; refine (HR _ (Hv.out.ext hE1)).mono ?_; rintro e W2 ⟨rfl, hE2⟩)
    refine (HA _ (Hv.out.ext (hE1.trans hE2))).mono ?_
    rintro e W3 ⟨⟨m, ok, rfl, hm⟩, hE3⟩
    obtain ⟨⟨z0, f0⟩, ⟨z1, f1⟩, ⟨z2, f2⟩⟩ := (hB.ext (hE2.trans hE3)).three
    have hE4 := (hE1.trans hE2).trans hE3
    clear hB
    rcases ok with _ | _
    · have hfe := findE_none hrise hm
      clear hm
      go_wp2
      refine bodyPost_ret (v := foundV none) (by simp [results, Tryz.f43, go_sem, foundV, z0, z1, z2]) rfl ?_
      rw [hfe]
      exact ⟨rfl, (by repeat (first | exact Ext.refl _ | assumption | refine Ext.alloc ?_ _ | refine Ext.drew ?_ | refine Ext.drewN ?_ _ | refine Ext.setCell ?_ (by first | omega | (simp; done) | (simp; omega)) _ | refine Ext.trans ?_ (by assumption)))⟩
    · obtain ⟨hm1, hm2⟩ := findE_some hl hm
      obtain ⟨y, hy⟩ : ∃ y, l[m]'hm1 = y := ⟨_, rfl⟩
      obtain ⟨b, o, c, rfl, hc1, hc2, hcell⟩ := RdE.open_ Hv.out (List.ne_nil_of_length_pos (by omega))
      obtain ⟨q0, q1, q2, hfy⟩ := hcell _ hm1
      rw [hy] at q0 q1 q2
      have r0 := hE4.cell q0
      have r1 := hE4.cell q1
      have r2 := hE4.cell q2
      clear hm q0 q1 q2 hcell hfy
      go_wp2
      refine bodyPost_ret (v := foundV (some y)) (by simp [results, Tryz.f43, go_sem, foundV, z0, z1, z2]) rfl ?_
      rw [hm2, hy]
      exact ⟨rfl, (by repeat (first | exact Ext.refl _ | assumption | refine Ext.alloc ?_ _ | refine Ext.drew ?_ | refine Ext.drewN ?_ _ | refine Ext.setCell ?_ (by first | omega | (simp; done) | (simp; omega)) _ | refine Ext.trans ?_ (by assumption)))⟩
  · have hbad : layerOk l = false := by simpa using hl
    have hfe : findE l p = none := by rw [findE, if_neg hl]
    rw [hbad] at HR
    have Hv := Lib.hid hv
    clear hv hl
    go_enter Tryz.func43, Tryz.ntmps43
    go_upto_region 1 with (fail)
    obtain ⟨eb, heb⟩ : ∃ eb, w.heap.size = eb := ⟨_, rfl⟩
    have hB := Blk.new w 33 #[.string ⟨#[]⟩, .int .i64 0, .string ⟨#[]⟩]
    have hE1 := (Ext.refl w).alloc (.cells #[.string ⟨#[]⟩, .int .i64 0, .string ⟨#[]⟩] 33)
    have hle : w.heap.size ≤ eb := by omega
    rw [heb] at hB
    rw [heb]
    have Heb := Lib.hid heb
    clear heb
    generalize w.alloc (.cells #[.string ⟨#[]⟩, .int .i64 0, .string ⟨#[]⟩] 33) = W1 at hB hE1 ⊢
    go_wp2_with (go_at_call 41; refine (HR _ (Hv.out.ext hE1)).mono ?_; rintro e W2 ⟨rfl, hE2⟩; obtain ⟨⟨z0, f0⟩, ⟨z1, f1⟩, ⟨z2, f2⟩⟩ := (hB.ext hE2).three)
    have hE4 := hE1.trans hE2
    refine bodyPost_ret (v := foundV none) (by simp [results, Tryz.f43, go_sem, foundV, z0, z1, z2]) rfl ?_
    rw [hfe]
    exact ⟨rfl, (by repeat (first | exact Ext.refl _ | assumption | refine Ext.alloc ?_ _ | refine Ext.drew ?_ | refine Ext.drewN ?_ _ | refine Ext.setCell ?_ (by first | omega | (simp; done) | (simp; omega)) _ | refine Ext.trans ?_ (by assumption)))⟩

/-- A stack of layers in memory. -/
def RL (w : World) (l : List Ent) (cs : List Value) : Prop := ∃ v, cs = [v] ∧ RdE w v l
theorem RL.stays : Stays RL := fun _ _ _ _ he ⟨v, h, k⟩ => ⟨v, h, k.ext he⟩
abbrev RdK := Rd RL 1
theorem RdK.ext {w w' : World} {v : Value} {s : List (List Ent)} (h : RdK w v s) (he : Ext w w') : RdK w' v s := Rd.ext RL.stays h he
theorem RdK.open_ {w : World} {v : Value} {s : List (List Ent)} (h : RdK w v s) (hne : s ≠ []) :
    ∃ b o c, v = .slice (some ⟨b, o, Option.none⟩) s.length c ∧ s.length ≤ c ∧ c ≤ 9223372036854775807 ∧
      ∀ (j : Nat) (h : j < s.length), ∃ u, w.cell? ⟨b, o + j, Option.none⟩ = some u ∧ RdE w u s[j] := by
  obtain ⟨b, o, c, rfl, h1, h2, hc⟩ := Rd.open_ h hne
  refine ⟨b, o, c, rfl, h1, h2, fun j hj => ?_⟩
  obtain ⟨cs, ⟨u, rfl, hr⟩, hu⟩ := hc j s[j] (List.getElem?_eq_getElem hj)
  have e0 := hu 0 _ rfl
  rw [Nat.mul_one] at e0
  exact ⟨u, e0, hr⟩

theorem RdK.form {w : World} {v : Value} {s : List (List Ent)} {n : Nat} (hv : RdK w v s) (hn : n = s.length) :
    ∃ A c, v = .slice A n c ∧ n ≤ c ∧ c ≤ 9223372036854775807 ∧ Hid (s ≠ [] → ∃ b o, A = some ⟨b, o, none⟩ ∧ ∀ (j : Nat) (h : j < s.length), ∃ u, w.cell? ⟨b, o + j, none⟩ = some u ∧ RdE w u s[j]) := by
  by_cases h0 : s = []
  · obtain ⟨A, c, e, h1, h2, _⟩ := hv
    rw [← hn] at e h1
    exact ⟨A, c, e, h1, h2, Lib.hid fun h => absurd h0 h⟩
  · obtain ⟨b, o, c, e, h1, h2, h3⟩ := RdK.open_ hv h0
    rw [← hn] at e h1
    exact ⟨_, c, e, h1, h2, Lib.hid fun _ => ⟨b, o, rfl, h3⟩⟩

/-- Whether a stack may be looked at. -/
def stackOk (s : List (List Ent)) : Bool := decide (s.length ≤ 9) && s.all layerOk

set_option maxHeartbeats 2000000 in
theorem lookRight_any (v : Value) (s : List (List Ent)) (w : World) (hv : RdK w v s) :
    Calls Tryz.prog 117 #[v] w fun e w' => e = .returned (.bool (stackOk s)) ∧ Ext w w' := by
  obtain ⟨n, hn⟩ : ∃ n, n = s.length := ⟨_, rfl⟩
  have Hn := Lib.hid hn
  have hlen := Rd.len hv
  obtain ⟨A, c, rfl, hc1, hc2, Hcell⟩ := RdK.form hv hn
  rw [← hn] at hlen
  clear hn hv
  go_enter Tryz.func117, Tryz.ntmps117
  go_wp2
  go_loopw [7] (fun i wr => ∃ k : Nat, i = .int .i64 k ∧ k ≤ n ∧ Hid (∀ (t : Nat) (h : t < s.length), t < k → layerOk s[t] = true) ∧ Ext w wr) (fun i _ => n - (intOf i).toNat)
  case atStart => exact ⟨0, rfl, by omega, Lib.hid (fun t _ ht => absurd ht (Nat.not_lt_zero t)), Ext.refl _⟩
  case round =>
    obtain ⟨k, rfl, hkn, hall, hE⟩ := hrel
    by_cases hlt : k < n
    · have hh : k < s.length := by have := Hn.out; omega
      obtain ⟨b, o, rfl, hcell⟩ := Hcell.out (List.ne_nil_of_length_pos (by omega))
      obtain ⟨u, q0, hu⟩ := hcell k hh
      have g0 := hE.cell q0
      have HR := LRight_any u s[k] wr (hu.ext hE)
      clear q0 hu hcell
      rcases hl : layerOk s[k] with _ | _
      · have hbad : stackOk s = false := by
          rw [stackOk, Bool.and_eq_false_iff]
          exact .inr (List.all_eq_false.2 ⟨_, List.getElem_mem hh, by simp [hl]⟩)
        rw [hl] at HR
        clear hl
        go_wp2_with (go_at_call 41; refine HR.mono ?_; rintro e W2 ⟨rfl, hE2⟩)
        go_ret
        exact ⟨by simp [hbad], hE.trans hE2⟩
      · rw [hl] at HR
        go_wp2_with (go_at_call 41; refine HR.mono ?_; rintro e W2 ⟨rfl, hE2⟩)
        refine ⟨⟨k + 1, by simp, by omega, Lib.hid fun t ht htk => ?_, hE.trans hE2⟩, by simp [intOf]; omega⟩
        by_cases e : t = k
        · subst e
          exact hl
        · exact hall.out t ht (by omega)
    · have hkn' : k = n := by omega
      have hok : stackOk s = decide (n ≤ 9) := by
        have h1 : s.all layerOk = true := List.all_eq_true.2 fun l hl => by
          obtain ⟨t, ht, rfl⟩ := List.getElem_of_mem hl
          exact hall.out t ht (by have := Hn.out; omega)
        rw [stackOk, h1, Bool.and_true, Hn.out]
      go_wp2
      go_ret
      refine ⟨?_, hE⟩
      rw [hok]
      simp
      omega
end Go.Proofs.YtknfaabhlcdeoaaGreatDoor
