/- entry.Right, Less, Holds, layer.at and layer.Right; for entries whose texts have at most 2^47 bytes. -/
import Derived.Test.YtknfaabhlcdeoaaGreatDoorPath
import Derived.Test.YtknfaabhlcdeoaaGreatDoorEnt
namespace Go.Proofs.YtknfaabhlcdeoaaGreatDoor
open Go Go.RowKit Go.Shelf Go.Proofs

set_option maxHeartbeats 1000000 in
theorem atf_any (x : Ent) (p : ByteArray) (w : World) :
    Calls Tryz.prog 134 #[.agg #[.string x.path, .int .i64 x.kind, .string x.data], .string p] w fun e w' => e = .returned (.int .i64 (Lib.compareBytes x.path.data.toList p.data.toList)) ∧ Ext w w' := by
  have H := fun w => Tryz.strings_Compare x.path p w
  go_enter Tryz.func134, Tryz.ntmps134
  go_wp2_with (go_at_call 79; refine (H _).mono ?_; rintro e w' ⟨rfl, rfl⟩)
  go_ret
  exact ⟨rfl, (by repeat (first | exact Ext.refl _ | assumption | refine Ext.alloc ?_ _ | refine Ext.drew ?_ | refine Ext.drewN ?_ _ | refine Ext.setCell ?_ (by first | omega | (simp; done) | (simp; omega)) _ | refine Ext.trans ?_ (by assumption)))⟩

/-- What a search knows: below i all stand ahead of p, from j on none does. -/
def Bnd (l : List Ent) (p : ByteArray) (i j : Nat) : Prop :=
  (∀ (t : Nat) (h : t < l.length), t < i → lt l[t].path p = true) ∧ (∀ (t : Nat) (h : t < l.length), j ≤ t → lt l[t].path p = false)

set_option maxHeartbeats 4000000 in
theorem search_any (v : Value) (l : List Ent) (p : ByteArray) (w : World) (hv : RdE w v l) (hs : Rising l) :
    Calls Tryz.prog 133 #[v, .string p, .func (.func 134) #[] #[]] w
      fun e w' => (∃ (k : Nat) (ok : Bool), e = .returned (.tuple #[.int .i64 k, .bool ok]) ∧ AtIs l p k ok) ∧ Ext w w' := by
  have hlen := Rd.len hv
  have e158 : ∀ args w, (callFunc 134 args).run Tryz.prog w = .ok (.enter 134 args) w := enters_of Tryz.func134 (by kernel_rfl) rfl
  by_cases h0 : l = []
  · subst h0
    obtain ⟨A, c, rfl, _⟩ := hv
    go_enter Tryz.func133, Tryz.ntmps133
    go_wp2
    go_loopw [9, 10] (fun i j wr => i = .int .i64 0 ∧ j = .int .i64 0 ∧ Ext w wr) (fun _ _ _ => 0)
    case atStart => exact ⟨rfl, rfl, Ext.refl w⟩
    case round =>
      obtain ⟨rfl, rfl, hE⟩ := hrel
      go_wp2
      go_ret2
      exact ⟨⟨0, false, rfl, by simp, fun j h => by simp at h, fun j h => by simp at h, by simp⟩, hE⟩
  · obtain ⟨b, o, c, rfl, hc1, hc2, hcell⟩ := RdE.open_ hv h0
    have Hcell := Lib.hid hcell
    clear hcell hv
    obtain ⟨n, hn⟩ : ∃ n, n = l.length := ⟨_, rfl⟩
    have Hn := Lib.hid hn
    rw [← hn] at hlen hc1 ⊢
    clear hn
    go_enter Tryz.func133, Tryz.ntmps133
    go_wp2
    go_loopw [9, 10] (fun i j wr => ∃ i' j' : Nat, i = .int .i64 i' ∧ j = .int .i64 j' ∧ i' ≤ j' ∧ j' ≤ n ∧ Bnd l p i' j' ∧ Ext w wr) (fun i j _ => (intOf j).toNat - (intOf i).toNat)
    case atStart => exact ⟨0, n, rfl, rfl, Nat.zero_le _, Nat.le_refl _, ⟨fun t _ h => by omega, fun t h h' => by have := Hn.out; omega⟩, Ext.refl w⟩
    case round =>
      obtain ⟨i, j, rfl, rfl, hij, hjn, hB, hE⟩ := hrel
      by_cases hlt : i < j
      · have hh : (i + j) / 2 < l.length := by have := Hn.out; omega
        obtain ⟨x, hx⟩ : ∃ x, l[(i + j) / 2]'hh = x := ⟨_, rfl⟩
        obtain ⟨q0, q1, q2, _⟩ := Hcell.out _ hh
        rw [hx] at q0 q1 q2
        have g0 := hE.cell q0
        have g1 := hE.cell q1
        have g2 := hE.cell q2
        have Hx := Lib.hid hx
        have HB := Lib.hid hB
        clear q0 q1 q2 hx hB
        by_cases hc : Lib.compareBytes x.path.data.toList p.data.toList < 0
        · have hl : lt x.path p = true := by simp only [lt, decide_eq_true_eq]; exact (compare_lt _ _).1 hc
          have Hl := Lib.hid hl
          clear hl
          go_wp2_with (go_at_fn 134; refine (atf_any _ _ _).mono ?_; rintro e w2 ⟨rfl, hE2⟩)
          go_roundw
          case rel =>
            refine ⟨(i + j) / 2 + 1, j, by go_num, rfl, by omega, hjn, ⟨fun t ht h => ?_, HB.out.2⟩, hE.trans hE2⟩
            rcases Nat.lt_or_ge t ((i + j) / 2) with h1 | h1
            · exact lt_trans (hs.at_ h1 hh) (by rw [Hx.out]; exact Hl.out)
            · obtain rfl : t = (i + j) / 2 := by omega
              rw [Hx.out]; exact Hl.out
          case measure => simp [intOf]; omega
        · have hl : lt x.path p = false := by simp only [lt, decide_eq_false_iff_not]; exact fun h => hc ((compare_lt _ _).2 h)
          have Hl := Lib.hid hl
          clear hl
          go_wp2_with (go_at_fn 134; refine (atf_any _ _ _).mono ?_; rintro e w2 ⟨rfl, hE2⟩)
          go_roundw
          case rel =>
            refine ⟨i, (i + j) / 2, rfl, by go_num, by omega, by omega, ⟨HB.out.1, fun t ht h => ?_⟩, hE.trans hE2⟩
            rcases Nat.lt_or_ge ((i + j) / 2) t with h1 | h1
            · rcases hl2 : lt l[t].path p with _ | _
              · rfl
              · have := lt_trans (hs.at_ h1 ht) hl2
                rw [Hx.out, Hl.out] at this
                cases this
            · obtain rfl : t = (i + j) / 2 := by omega
              rw [Hx.out]; exact Hl.out
          case measure => simp [intOf]; omega
      · obtain rfl : i = j := by omega
        have HB := Lib.hid hB
        clear hB
        by_cases hin : i < n
        · have hh : i < l.length := by have := Hn.out; omega
          obtain ⟨x, hx⟩ : ∃ x, l[i]'hh = x := ⟨_, rfl⟩
          obtain ⟨q0, q1, q2, _⟩ := Hcell.out _ hh
          rw [hx] at q0 q1 q2
          have g0 := hE.cell q0
          have g1 := hE.cell q1
          have g2 := hE.cell q2
          have Hx := Lib.hid hx
          clear q0 q1 q2 hx
          go_wp2_with (go_at_fn 134; refine (atf_any _ _ _).mono ?_; rintro e w2 ⟨rfl, hE2⟩)
          go_ret2
          refine ⟨⟨i, _, rfl, by have := Hn.out; omega, HB.out.1, HB.out.2, ?_⟩, hE.trans hE2⟩
          rw [beq_iff_eq, compare_eq]
          constructor
          · intro h
            exact ⟨hh, by rw [Hx.out]; exact data_inj h⟩
          · rintro ⟨_, h⟩
            rw [Hx.out] at h
            rw [h]
        · go_wp2
          go_ret2
          exact ⟨⟨i, false, rfl, by have := Hn.out; omega, HB.out.1, HB.out.2, ⟨fun h => (by cases h), fun ⟨h, _⟩ => absurd h (by have := Hn.out; omega)⟩⟩, hE⟩

set_option maxHeartbeats 1000000 in
theorem at_any (v : Value) (l : List Ent) (p : ByteArray) (w : World) (hv : RdE w v l) (hs : Rising l) :
    Calls Tryz.prog 89 #[v, .string p] w fun e w' => (∃ (k : Nat) (ok : Bool), e = .returned (.tuple #[.int .i64 k, .bool ok]) ∧ AtIs l p k ok) ∧ Ext w w' := by
  have H := search_any v l p w hv hs
  go_enter Tryz.func89, Tryz.ntmps89
  go_wp2_with (go_at_call 133; refine H.mono ?_; rintro e w' ⟨⟨k, ok, rfl, hA⟩, hE⟩; have HA := Lib.hid hA; clear hA)
  go_ret2
  exact ⟨⟨k, ok, rfl, HA.out⟩, hE⟩

set_option maxHeartbeats 1000000 in
theorem Less_any (x y : Ent) (w : World) :
    Calls Tryz.prog 87 #[.agg #[.string x.path, .int .i64 x.kind, .string x.data], .agg #[.string y.path, .int .i64 y.kind, .string y.data]] w fun e w' => e = .returned (.bool (lt x.path y.path)) ∧ Ext w w' := by
  go_enter Tryz.func87, Tryz.ntmps87
  go_wp2
  go_ret
  exact ⟨by rw [bytesLess_lt]; rfl, (by repeat (first | exact Ext.refl _ | assumption | refine Ext.alloc ?_ _ | refine Ext.drew ?_ | refine Ext.drewN ?_ _ | refine Ext.setCell ?_ (by first | omega | (simp; done) | (simp; omega)) _ | refine Ext.trans ?_ (by assumption)))⟩

def holds (x : Ent) : Bool := x.kind == 2 || x.kind == 4

set_option maxHeartbeats 1000000 in
theorem Holds_any (x : Ent) (w : World) :
    Calls Tryz.prog 88 #[.agg #[.string x.path, .int .i64 x.kind, .string x.data]] w fun e w' => e = .returned (.bool (holds x)) ∧ Ext w w' := by
  unfold holds
  by_cases h2 : x.kind = 2
  · have e2 : (x.kind == 2) = true := by simp [h2]
    have H := Lib.hid h2
    clear h2
    go_enter Tryz.func88, Tryz.ntmps88
    go_wp2
    go_ret
    exact ⟨by simp; exact .inl H.out, (by repeat (first | exact Ext.refl _ | assumption | refine Ext.alloc ?_ _ | refine Ext.drew ?_ | refine Ext.drewN ?_ _ | refine Ext.setCell ?_ (by first | omega | (simp; done) | (simp; omega)) _ | refine Ext.trans ?_ (by assumption)))⟩
  · have e2 : (x.kind == 2) = false := by simp [h2]
    have H := Lib.hid h2
    clear h2
    go_enter Tryz.func88, Tryz.ntmps88
    go_wp2
    go_ret
    exact ⟨by simp; exact fun h => absurd h H.out, (by repeat (first | exact Ext.refl _ | assumption | refine Ext.alloc ?_ _ | refine Ext.drew ?_ | refine Ext.drewN ?_ _ | refine Ext.setCell ?_ (by first | omega | (simp; done) | (simp; omega)) _ | refine Ext.trans ?_ (by assumption)))⟩

/-- An entry that may be. -/
def entOk (x : Ent) : Bool := decide (1 ≤ deep x.path) && (if x.kind = 1 then decide (x.data.size ≤ 256) else (decide (2 ≤ x.kind) && decide (x.kind ≤ 4) && x.data.data.toList.isEmpty))

set_option maxHeartbeats 2000000 in
theorem EntRight_any (x : Ent) (w : World) (hf : x.fits) :
    Calls Tryz.prog 86 #[.agg #[.string x.path, .int .i64 x.kind, .string x.data]] w fun e w' => e = .returned (.bool (entOk x)) ∧ Ext w w' := by
  have HD := fun w => Deep_any x.path w hf.1
  go_enter Tryz.func86, Tryz.ntmps86
  have e0 : x.data.toList.isEmpty = x.data.data.toList.isEmpty := by rw [toList_eq]
  obtain ⟨em, hem⟩ : ∃ em, x.data.data.toList.isEmpty = em := ⟨_, rfl⟩
  obtain ⟨d, hd⟩ : ∃ d, deep x.path = d := ⟨_, rfl⟩
  obtain ⟨r, hr⟩ : ∃ r, entOk x = r := ⟨_, rfl⟩
  rw [hr]
  rw [entOk, hem, hd] at hr
  rw [hem] at e0
  rw [hd] at HD
  have Hr := Lib.hid hr
  clear hr hem hd hf
  go_wp2_with (go_at_call 49; refine (HD _).mono ?_; rintro e w' ⟨rfl, hE⟩; have g1 := hE.cell (p := ⟨w.heap.size, 1, none⟩) (v := .int .i64 x.kind) (by rw [World.cell?_alloc_at _ _ _ _ rfl]; rfl); have g2 := hE.cell (p := ⟨w.heap.size, 2, none⟩) (v := .string x.data) (by rw [World.cell?_alloc_at _ _ _ _ rfl]; rfl))
  all_goals go_ret
  all_goals refine ⟨?_, (by repeat (first | exact Ext.refl _ | assumption | refine Ext.alloc ?_ _ | refine Ext.drew ?_ | refine Ext.drewN ?_ _ | refine Ext.setCell ?_ (by first | omega | (simp; done) | (simp; omega)) _ | refine Ext.trans ?_ (by assumption)))⟩
  · have hd : ¬ 1 ≤ d := by have h : d < 1 := by assumption
                            omega
    rw [← Hr.out, decide_eq_false hd]; rfl
  · have hd : 1 ≤ d := by assumption
    have k : x.kind = 1 := by simpa using (show (x.kind == 1) = true by assumption)
    rw [← Hr.out, decide_eq_true hd, if_pos k]; simp; omega
  · have hd : 1 ≤ d := by assumption
    have k : x.kind = 2 := by simpa using (show (x.kind == 2) = true by assumption)
    rw [← Hr.out, decide_eq_true hd, k]; simp
  · have hd : 1 ≤ d := by assumption
    have k : x.kind = 3 := by simpa using (show (x.kind == 3) = true by assumption)
    rw [← Hr.out, decide_eq_true hd, k]; simp
  · have hd : 1 ≤ d := by assumption
    have k : x.kind = 4 := by simpa using (show (x.kind == 4) = true by assumption)
    rw [← Hr.out, decide_eq_true hd, k]; simp
  · have hd : 1 ≤ d := by assumption
    have k1 : ¬ x.kind = 1 := by simpa using (show (x.kind == 1) = false by assumption)
    have k2 : ¬ x.kind = 2 := by simpa using (show (x.kind == 2) = false by assumption)
    have k3 : ¬ x.kind = 3 := by simpa using (show (x.kind == 3) = false by assumption)
    have k4 : ¬ x.kind = 4 := by simpa using (show (x.kind == 4) = false by assumption)
    have k5 : (decide (2 ≤ x.kind) && decide (x.kind ≤ 4)) = false := by simp; omega
    rw [← Hr.out, decide_eq_true hd, if_neg k1, k5]; rfl
end Go.Proofs.YtknfaabhlcdeoaaGreatDoor
