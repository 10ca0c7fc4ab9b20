/- shalelaw09.Same: whether lists of entries are alike. -/
import Derived.Test.YtknfaabhlcdeoaaGreatDoorFew
import Derived.Test.YtknfaabhlcdeoaaGreatDoorPathW
import Derived.Laws.StructEq
import Derived.BigQuiet
namespace Go.Proofs.YtknfaabhlcdeoaaGreatDoor
open Go Go.RowKit Go.Shelf Go.Proofs

theorem toList_inj_eq (a b : ByteArray) : (a.toList = b.toList) = (a = b) := propext ⟨fun h => data_inj (by rw [← toList_eq, ← toList_eq, h]), fun h => by rw [h]⟩

deriving instance DecidableEq for Ent

theorem ent_eq (a b : Ent) : decide (a = b) = (decide (a.path = b.path) && (decide (a.kind = b.kind) && decide (a.data = b.data))) := by
  obtain ⟨a1, a2, a3⟩ := a
  obtain ⟨b1, b2, b3⟩ := b
  simp only [Ent.mk.injEq, Bool.decide_and]

theorem neq_ent (a b : Ent) (w : World) : (binOp .neq 33 (.agg #[.string a.path, .int .i64 a.kind, .string a.data]) (.agg #[.string b.path, .int .i64 b.kind, .string b.data])).run Tryz.prog w = .ok (.bool (!decide (a = b))) w := by
  rw [ent_eq]
  simp [go_sem, Op.eqFields, Program.fieldsOf, Tryz.underlying33, Tryz.underlying9, Tryz.underlying3, part]
  simp only [toList_inj_eq]
  repeat' split
  all_goals simp_all

theorem same_next {l m : List Ent} {n k : Nat} {w wr : World} (hlt : k < n) (hE : Ext w wr) (hall : Hid (l.take k = m.take k)) (hh : k < l.length) (hm : k < m.length) (hx : l[k] = m[k]) :
    (∃ k' : Nat, Value.int IntKind.i64 ((k : Int) + 1) = .int .i64 k' ∧ k' ≤ n ∧ Hid (l.take k' = m.take k') ∧ Ext w wr) ∧ n - (intOf (.int .i64 ((k : Int) + 1))).toNat < n - (intOf (.int .i64 (k : Int))).toNat := by
  refine ⟨⟨k + 1, by simp, by omega, Lib.hid ?_, hE⟩, by simp [intOf]; omega⟩
  rw [← List.take_append_getElem hh, ← List.take_append_getElem hm, hall.out, hx]

set_option maxHeartbeats 4000000 in
set_option maxRecDepth 20000 in
theorem Same_any (v u : Value) (l m : List Ent) (w : World) (hv : RdE w v l) (hu : RdE w u m) :
    Calls Tryz.prog 35 #[v, u] w fun e w' => e = .returned (.int .i64 (oneI (decide (l = m)))) ∧ Ext w w' := by
  obtain ⟨n, hn⟩ : ∃ n, n = l.length := ⟨_, rfl⟩
  obtain ⟨n2, hn2⟩ : ∃ n2, n2 = m.length := ⟨_, rfl⟩
  have Hn := Lib.hid hn
  have Hn2 := Lib.hid hn2
  have hlen := Rd.len hv
  have hlen2 := Rd.len hu
  obtain ⟨A, c, rfl, hc1, hc2, Hcell⟩ := rdE_form hv hn
  obtain ⟨A2, c2, rfl, hd1, hd2, Hcell2⟩ := rdE_form hu hn2
  rw [← hn] at hlen
  rw [← hn2] at hlen2
  clear hn hv hn2 hu
  by_cases hne : n = n2
  · subst hne
    go_enter Tryz.func35, Tryz.ntmps35
    go_wp2
    go_loopw [5] (fun i wr => ∃ k : Nat, i = .int .i64 k ∧ k ≤ n ∧ Hid (l.take k = m.take k) ∧ Ext w wr) (fun i _ => n - (intOf i).toNat)
    case atStart => exact ⟨0, rfl, Nat.zero_le _, Lib.hid rfl, Ext.refl _⟩
    case round =>
      obtain ⟨k, rfl, hkn, hall, hE⟩ := hrel
      by_cases hlt : k < n
      · have hh : k < l.length := by have := Hn.out; omega
        have hh2 : k < m.length := by have := Hn2.out; omega
        obtain ⟨b, o, rfl, hcell⟩ := Hcell.out (List.ne_nil_of_length_pos (by omega))
        obtain ⟨q0, q1, q2, hf⟩ := hcell k hh
        obtain ⟨b', o', rfl, hcell2⟩ := Hcell2.out (List.ne_nil_of_length_pos (by omega))
        obtain ⟨r0, r1, r2, hf2⟩ := hcell2 k hh2
        obtain ⟨x, hx⟩ : ∃ x, l[k]'hh = x := ⟨_, rfl⟩
        obtain ⟨y, hy⟩ : ∃ y, m[k]'hh2 = y := ⟨_, rfl⟩
        rw [hx] at q0 q1 q2
        rw [hy] at r0 r1 r2
        have g0 := hE.cell q0
        have g1 := hE.cell q1
        have g2 := hE.cell q2
        have s0 := hE.cell r0
        have s1 := hE.cell r1
        have s2 := hE.cell r2
        have Hx := Lib.hid hx
        have Hy := Lib.hid hy
        have HQ := neq_ent x y
        clear q0 q1 q2 r0 r1 r2 hx hy hcell hcell2
        by_cases hxy : x = y
        · simp only [decide_eq_true hxy, Bool.not_true] at HQ
          have Hxy := Lib.hid hxy
          clear hxy
          go_upto_region 6 with (fail)
          go_quiet (fail)
          go_wp2
          exact same_next hlt (hE.drewN _) hall hh hh2 (by rw [Hx.out, Hy.out, Hxy.out])
        · simp only [decide_eq_false hxy, Bool.not_false] at HQ
          have hlm : l ≠ m := fun e => by subst e; exact hxy (Hx.out.symm.trans Hy.out)
          have hres : oneI (decide (l = m)) = 0 := by rw [decide_eq_false hlm]; rfl
          have Hres := Lib.hid hres
          clear hxy hres hlm
          go_upto_region 6 with (fail)
          go_quiet (fail)
          go_wp2
          go_ret
          exact ⟨by rw [Hres.out]; rfl, hE.drewN _⟩
      · have hkn' : k = n := by omega
        have hres : oneI (decide (l = m)) = 1 := by
          have h := hall.out
          rw [List.take_of_length_le (by have := Hn.out; omega), List.take_of_length_le (by have := Hn2.out; omega)] at h
          rw [decide_eq_true h]
          rfl
        have Hres := Lib.hid hres
        clear hres
        go_wp2
        go_ret
        exact ⟨by rw [Hres.out]; rfl, hE⟩
  · have hlm : l ≠ m := fun e => by subst e; exact hne (Hn.out.trans Hn2.out.symm)
    have hres : oneI (decide (l = m)) = 0 := by rw [decide_eq_false hlm]; rfl
    have Hres := Lib.hid hres
    have hne' : ((n : Int) == (n2 : Int)) = false := by rw [beq_eq_false_iff_ne]; omega
    clear hres hlm
    go_enter Tryz.func35, Tryz.ntmps35
    go_wp2
    go_ret
    exact ⟨by rw [Hres.out]; rfl, Ext.refl _⟩

theorem Same_yes {v u : Value} {l : List Ent} {w : World} (hv : RdE w v l) (hu : RdE w u l) :
    Calls Tryz.prog 35 #[v, u] w fun e w' => e = .returned (.int .i64 1) ∧ Ext w w' := by
  have := Same_any v u l l w hv hu
  rwa [decide_eq_true rfl] at this
end Go.Proofs.YtknfaabhlcdeoaaGreatDoor
