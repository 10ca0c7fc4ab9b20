/- tree.in. -/
import Derived.Test.YtgemdfobkockaaaGreatDoorTreeDo
import Derived.Test.YtgemdfobkockaaaGreatDoorSortS
import Derived.Test.YtgemdfobkockaaaGreatDoorPath
import Derived.Deep.AppendLies
namespace Go.Proofs.YtgemdfobkockaaaGreatDoor
open Go Go.RowKit Go.Shelf Go.Proofs Go.Sort

theorem toList_inj_eqT (a b : ByteArray) : (a.toList = b.toList) = (a = b) := propext ⟨fun h => data_inj (by rw [← toList_eq, ← toList_eq, h]), fun h => by rw [h]⟩

theorem info_strT : (Tryz.prog.info? 9).map (fun i => (i.zero, i.size, i.bytes)) = some (some (.string ⟨#[]⟩), 1, 16) := by kernel_rfl

def listOf (l : List ByteArray) : List (List UInt8) := l.map fun z => z.data.toList
theorem listOf_snoc (l : List ByteArray) (z : ByteArray) : (listOf (l ++ [z])).map encStr = (listOf l).map encStr ++ [.string z] := by
  rw [listOf, List.map_append, List.map_append]
  rfl

def InRel (t : List Ent) (p : ByteArray) (n : Nat) (w : World) (v5 v13 : Value) (wr : World) : Prop :=
  ∃ (k m : Nat), v13 = .int .i64 k ∧ k ≤ n ∧ Hid (m = (inT (t.take k) p).length) ∧ m ≤ k ∧ wr.ownsRow w.heap.size 9 1 v5 m ((listOf (inT (t.take k) p)).map encStr) ∧ Ext w wr

theorem in_next {t : List Ent} {p : ByteArray} {n k m' : Nat} {w wr : World} {v5 : Value} {x : Ent} {l : List ByteArray} (hlt : k < n) (hh : k < t.length) (_hx : Hid (t[k] = x)) (hm' : m' ≤ k + 1) (hl : Hid (l = inT (t.take (k + 1)) p)) (hlen : Hid (m' = l.length))
    (hrow : wr.ownsRow w.heap.size 9 1 v5 m' ((listOf l).map encStr)) (hE : Ext w wr) :
    InRel t p n w v5 (.int .i64 ((k : Int) + 1)) wr ∧ n - (intOf (.int .i64 ((k : Int) + 1))).toNat < n - (intOf (.int .i64 (k : Int))).toNat := by
  refine ⟨⟨k + 1, m', by simp, by omega, Lib.hid ?_, hm', ?_, hE⟩, by simp [intOf]; omega⟩
  · rw [hlen.out, hl.out]
  · rw [← hl.out]; exact hrow

theorem inT_next {t : List Ent} {p : ByteArray} {k : Nat} (hh : k < t.length) : inT (t.take (k + 1)) p = inT (t.take k) p ++ (match inP p t[k] with | none => [] | some z => [z]) := by
  rw [inT, ← List.take_append_getElem hh, List.filterMap_append, ← inT]
  congr 1
  rw [List.filterMap_cons]
  cases inP p t[k] <;> rfl

def InAns (t : List Ent) (p : ByteArray) (w : World) (e : Ending) (w' : World) : Prop :=
  ∃ v, e = .returned v ∧ w'.ownsRow w.heap.size 9 1 v (inT t p).length (((listOf (inT t p)).mergeSort fun x y => decide (x ≤ y)).map encStr) ∧ Ext w w'

set_option maxHeartbeats 8000000 in
set_option maxRecDepth 20000 in
theorem In_any (v : Value) (t : List Ent) (p : ByteArray) (w : World) (hv : RdE w v t) (ht : treeOk t = true) :
    Calls Tryz.prog 96 #[v, .string p] w (InAns t p w) := by
  obtain ⟨n, hn⟩ : ∃ n, n = t.length := ⟨_, rfl⟩
  have Hn := Lib.hid hn
  have hlen : n ≤ 1024 := by have := tree_small ht; omega
  have Hfit := Lib.hid (RdE.fits hv)
  obtain ⟨A, c, rfl, hc1, hc2, Hcell⟩ := rdE_form hv hn
  have Ht := Lib.hid ht
  obtain ⟨i0, hi, hz0, hz1, hz2⟩ := info_parts info_strT
  clear hn hv ht
  go_enter Tryz.func96, Tryz.ntmps96
  go_wp2
  go_loopw [5, 13] (fun v5 v13 wr => InRel t p n w v5 v13 wr) (fun _ i _ => n - (intOf i).toNat)
  case atStart => exact ⟨0, 0, rfl, Nat.zero_le _, Lib.hid rfl, Nat.le_refl _, World.ownsRow_nil _ _ _ _, Ext.refl _⟩
  case round =>
    obtain ⟨k, m, rfl, hkn, hmm, hmk, hrow, hE⟩ := hrel
    have Hrow := Lib.hid hrow
    obtain ⟨A5, c5, rfl⟩ := own_form hrow
    clear hrow
    by_cases hlt : k < n
    · have hh : k < t.length := by have := Hn.out; omega
      obtain ⟨b, o, rfl, hcell⟩ := Hcell.out (List.ne_nil_of_length_pos (by omega))
      obtain ⟨q0, q1, q2, hf⟩ := hcell k hh
      obtain ⟨x, hx⟩ : ∃ x, t[k]'hh = x := ⟨_, rfl⟩
      rw [hx] at q0 q1 q2 hf
      have g0 := hE.cell q0
      have g1 := hE.cell q1
      have g2 := hE.cell q2
      have hmem : x ∈ t := by rw [← hx]; exact List.getElem_mem hh
      obtain ⟨ys, z, hnm, hpth⟩ := ent_names ((treeOk_iff.1 Ht.out).2.2 x hmem).1
      obtain ⟨d, hd0⟩ : ∃ d, pathOf ys = d := ⟨_, rfl⟩
      have HP : ∀ w, Calls Tryz.prog 45 #[.string x.path] w (ParentOk d z w) := fun w => by rw [← hd0]; exact Parent_some x.path ys z w hf.1 hnm
      have Hx := Lib.hid hx
      have hin : inP p x = if d = p then some z else none := by
        rw [inP, hnm, ← hd0]
        simp
      have Hin := Lib.hid hin
      have hcmp : (d.toList == p.toList) = decide (d = p) := by
        rw [Bool.eq_iff_iff, beq_iff_eq, decide_eq_true_eq, toList_inj_eqT]
      clear q0 q1 q2 hx hcell hmem hnm hin hd0 hpth
      by_cases hd : d = p
      · rw [decide_eq_true hd] at hcmp
        have Hd := Lib.hid hd
        clear hd
        go_wp2_with (first | (go_at_call 45; refine (HP _).mono ?_; rintro e W2 ⟨rfl, hE2⟩; have hE3 : Ext w W2 := Ext.trans (by exact (by repeat (first | exact Ext.refl _ | assumption | refine Ext.alloc ?_ _ | refine Ext.drew ?_ | refine Ext.drewN ?_ _ | refine Ext.setCell ?_ (by first | omega | (simp; done) | (simp; omega)) _ | refine Ext.trans ?_ (by assumption)))) hE2; have Hrow2 := Lib.hid (own_ext Hrow.out (Ext.trans (by exact (by repeat (first | exact Ext.refl _ | assumption | refine Ext.alloc ?_ _ | refine Ext.drew ?_ | refine Ext.drewN ?_ _ | refine Ext.setCell ?_ (by first | omega | (simp; done) | (simp; omega)) _ | refine Ext.trans ?_ (by assumption)))) hE2))) | (at_builtin; refine wpList_append_own _ rfl _ _ 25 rfl w.heap.size 9 i0 (.string ⟨#[]⟩) 1 16 Tryz.underlying25 hi hz0 hz1 hz2 rfl (by decide) _ _ _ rfl (Hrow2.out.alloc _) ⟨W2.heap.size, 0, none⟩ 1 1 [.string z] rfl rfl (World.news_of_block (cs := #[.string z]) (t := 9) (fr := (0, 0)) (Blk.new W2 _ _)) (by simp [Value.oneCell']) (by unfold maxLen; omega) (by omega) (by have := hE3.size; rw [World.size_alloc]; omega) ?_; intro v' w1 hown hgrow hnil'))
        refine in_next (l := inT (t.take k) p ++ [z]) hlt hh Hx (m' := m + 1) (by omega) (Lib.hid ?_) (Lib.hid ?_) ?_ (Ext.grown (hE3.alloc _) hgrow (fun j hj => (Hrow2.out.lt j hj).1))
        · rw [inT_next hh, Hx.out, Hin.out, if_pos Hd.out]
        · rw [List.length_append, List.length_singleton, ← hmm.out]
        · rw [listOf_snoc]; exact hown
      · rw [decide_eq_false hd] at hcmp
        have Hd := Lib.hid hd
        clear hd
        go_wp2_with (go_at_call 45; refine (HP _).mono ?_; rintro e W2 ⟨rfl, hE2⟩; have hE3 : Ext w W2 := Ext.trans (by exact (by repeat (first | exact Ext.refl _ | assumption | refine Ext.alloc ?_ _ | refine Ext.drew ?_ | refine Ext.drewN ?_ _ | refine Ext.setCell ?_ (by first | omega | (simp; done) | (simp; omega)) _ | refine Ext.trans ?_ (by assumption)))) hE2; have Hrow2 := Lib.hid (own_ext Hrow.out (Ext.trans (by exact (by repeat (first | exact Ext.refl _ | assumption | refine Ext.alloc ?_ _ | refine Ext.drew ?_ | refine Ext.drewN ?_ _ | refine Ext.setCell ?_ (by first | omega | (simp; done) | (simp; omega)) _ | refine Ext.trans ?_ (by assumption)))) hE2)))
        refine in_next (l := inT (t.take k) p) hlt hh Hx (m' := m) (by omega) (Lib.hid ?_) (Lib.hid hmm.out) Hrow2.out hE3
        rw [inT_next hh, Hx.out, Hin.out, if_neg Hd.out, List.append_nil]
    · have hkn' : k = n := by omega
      have hfull : inT (t.take k) p = inT t p := by rw [List.take_of_length_le (by have := Hn.out; omega)]
      have Hfull := Lib.hid hfull
      have hlm : (listOf (inT t p)).length = m := by rw [listOf, List.length_map, ← hfull, hmm.out]
      have Hlm := Lib.hid hlm
      have HS := sortS_any w.heap.size (.slice A5 m c5) (listOf (inT t p)) wr (by have := Hrow.out; rw [hfull] at this; rw [hlm]; exact this) (by rw [hlm]; omega)
      clear hfull hlm
      go_wp2_with (go_at_call 56; refine HS.mono ?_; rintro e W2 ⟨rfl, hrow2, hgr⟩; have hE2 : Ext w W2 := Ext.grown hE (hgr _ rfl) (fun j hj => (Hrow.out.lt j hj).1); have Hrow2 := Lib.hid hrow2; clear hrow2 hgr)
      go_ret
      refine ⟨_, rfl, ?_, hE2⟩
      have h1 := Hrow2.out
      rw [listOf, List.length_map, ← listOf] at h1
      exact h1
end Go.Proofs.YtgemdfobkockaaaGreatDoor
