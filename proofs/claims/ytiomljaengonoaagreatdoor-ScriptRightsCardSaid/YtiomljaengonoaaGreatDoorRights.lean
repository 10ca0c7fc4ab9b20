/- ScriptRights: an act that is right has words and numbers as its name needs them, none else. -/
import Derived.Test.YtiomljaengonoaaGreatDoorRefNeeds
import Derived.Test.YtiomljaengonoaaGreatDoorScrLaw
namespace Go.Proofs.YtiomljaengonoaaGreatDoor
open Go Go.RowKit Go.Shelf Go.Proofs Go.Maps

theorem rdw_one {w : World} {b : Nat} {t : TypeId} {a : ActP} (h : Blk w b t #[.string (B a.name), .string (B a.p), .string (B a.q), .int .i64 a.n, .int .i64 a.m]) (hi : a.ints) : RdW w (.slice (some ⟨b, 0, none⟩) 1 1) [a] := by
  refine ⟨_, 1, rfl, Nat.le_refl _, by omega, by simp, fun _ => ⟨b, 0, rfl, fun j x hj => ?_⟩⟩
  rcases j with _ | j
  · cases (Option.some.inj hj)
    refine ⟨a.cells, ⟨rfl, hi⟩, fun i u hu => ?_⟩
    refine h.cell _ ?_
    simpa [ActP.cells] using hu
  · simp at hj

theorem B_app (x y : List UInt8) : B x ++ B y = B (x ++ y) := by
  apply ByteArray.ext
  simp [B]

theorem three_new (W : World) (t : TypeId) (C : Array Value) : Blk (((W.alloc (.cells C t)).alloc (.cells C t)).alloc (.cells C t)).drew W.heap.size t C ∧ Blk (((W.alloc (.cells C t)).alloc (.cells C t)).alloc (.cells C t)).drew (W.heap.size + 1) t C ∧
    Blk (((W.alloc (.cells C t)).alloc (.cells C t)).alloc (.cells C t)).drew (W.heap.size + 1 + 1) t C ∧ Ext W (((W.alloc (.cells C t)).alloc (.cells C t)).alloc (.cells C t)).drew := by
  have h1 := Blk.new W t C
  have h2 := Blk.new (W.alloc (.cells C t)) t C
  have h3 := Blk.new ((W.alloc (.cells C t)).alloc (.cells C t)) t C
  rw [World.size_alloc] at h2
  rw [World.size_alloc, World.size_alloc] at h3
  exact ⟨((h1.ext ((Ext.refl _).alloc _)).ext ((Ext.refl _).alloc _)).ext ((Ext.refl _).drew), (h2.ext ((Ext.refl _).alloc _)).ext ((Ext.refl _).drew), h3.ext ((Ext.refl _).drew), (by repeat (first | exact Ext.refl _ | assumption | refine Ext.alloc ?_ _ | refine Ext.drew ?_ | refine Ext.drewN ?_ _ | refine Ext.setCell ?_ (by first | omega | (simp; done) | (simp; omega)) _ | refine Ext.trans ?_ (by assumption)))⟩

set_option maxRecDepth 100000 in
set_option maxHeartbeats 8000000 in
theorem Rights_any (a : ActP) (hi : a.ints) (n : Int) (hn0 : -9223372036854775808 ≤ n) (hn1 : n ≤ 9223372036854775807) (w : World) (hV : ScrVars w) :
    Calls Tryz.prog 5 #[a.val, .int .i64 n] w fun e w' => e = .returned (.bool true) ∧ Ext w w' := by
  rw [show a.val = .agg #[.string (B a.name), .string (B a.p), .string (B a.q), .int .i64 a.n, .int .i64 a.m] from rfl]
  have HA := fun w' h => awakeS_any w' (hV.ext h)
  have HF : ∀ (w' : World) (b : Nat) (t : TypeId), Blk w' b t #[.string (B a.name), .string (B a.p), .string (B a.q), .int .i64 a.n, .int .i64 a.m] → Calls Tryz.prog 21 #[.slice (some ⟨b, 0, none⟩) 1 1] w' fun e w'' => e = .returned (.bool (smallA a)) ∧ w'' = w' := by
    intro w' b t h
    have := few_any _ [a] w' (rdw_one h hi)
    rw [show fewP [a] = smallA a by simp [fewP]] at this
    exact this
  go_enter Tryz.func5, Tryz.ntmps5
  go_upto_region 1 with (fail)
  have hX := Blk.new w 44 #[.string (B a.name), .string (B a.p), .string (B a.q), .int .i64 a.n, .int .i64 a.m]
  have hE1 := (Ext.refl w).alloc (.cells #[.string (B a.name), .string (B a.p), .string (B a.q), .int .i64 a.n, .int .i64 a.m] 44)
  obtain ⟨xb, hxb⟩ : ∃ xb, w.heap.size = xb := ⟨_, rfl⟩
  rw [hxb] at hX ⊢
  clear hxb
  generalize w.alloc (.cells #[.string (B a.name), .string (B a.p), .string (B a.q), .int .i64 a.n, .int .i64 a.m] 44) = W1 at hX hE1 ⊢
  have HA1 := HA W1 hE1
  by_cases hsm : smallA a = true
  · rw [hsm] at HF
    have hf := small_fits hsm hi
    have HO := fun w' => Of_any a w'
    rw [show a.val = .agg #[.string (B a.name), .string (B a.p), .string (B a.q), .int .i64 a.n, .int .i64 a.m] from rfl] at HO
    have HR : ∀ w', Ext w w' → Calls Tryz.prog 22 #[.agg #[.string (B a.name), .string (B a.p), .string (B a.q), .int .i64 a.n, .int .i64 a.m]] w' fun e w'' => e = .returned (.bool (partsP a).isSome) ∧ Ext w' w'' := fun w' h => Right_any a hf w' (hV.ext h).num
    have HSm := Lib.hid hsm
    clear hsm
    cases hr : (partsP a).isSome with
    | false =>
      rw [hr] at HR
      clear hr
      go_upto_region 2 with (first
        | (go_at_call 20; with_reducible refine HA1.mono ?_; rintro e W2 ⟨rfl, hE2⟩; obtain ⟨⟨x0, _⟩, ⟨x1, _⟩, ⟨x2, _⟩, ⟨x3, _⟩, ⟨x4, _⟩⟩ := (hX.ext hE2).five; have hlx := (hX.ext hE2).lt)
        | (go_at_call 21; refine (HF _ _ _ (Blk.new _ _ _)).mono ?_; rintro e W3 ⟨rfl, rfl⟩)
        | (go_at_call 23; refine (HO _).mono ?_; rintro e W5 ⟨rfl, hE5⟩)
        | (go_at_call 22; refine (HR _ (Ext.trans (hE1.trans hE2) (Ext.trans (by exact (by repeat (first | exact Ext.refl _ | assumption | refine Ext.alloc ?_ _ | refine Ext.drew ?_ | refine Ext.drewN ?_ _ | refine Ext.setCell ?_ (by first | omega | (simp; done) | (simp; omega)) _ | refine Ext.trans ?_ (by assumption)))) hE5))).mono ?_; rintro e W6 ⟨rfl, hE6⟩))
      have hE7 : Ext w W6 := Ext.trans (hE1.trans hE2) (Ext.trans (by exact (by repeat (first | exact Ext.refl _ | assumption | refine Ext.alloc ?_ _ | refine Ext.drew ?_ | refine Ext.drewN ?_ _ | refine Ext.setCell ?_ (by first | omega | (simp; done) | (simp; omega)) _ | refine Ext.trans ?_ (by assumption)))) (hE5.trans hE6))
      go_wp2_with (go_at_call 20; refine (HA _ hE7).mono ?_; rintro e W9 ⟨rfl, hE9⟩)
      go_ret
      exact ⟨rfl, hE7.trans hE9⟩
    | true =>
      rw [hr] at HR
      have Hr := Lib.hid hr
      clear hr
      go_upto_region 3 with (first
        | (go_at_call 20; with_reducible refine HA1.mono ?_; rintro e W2 ⟨rfl, hE2⟩; obtain ⟨⟨x0, _⟩, ⟨x1, _⟩, ⟨x2, _⟩, ⟨x3, _⟩, ⟨x4, _⟩⟩ := (hX.ext hE2).five; have hlx := (hX.ext hE2).lt)
        | (go_at_call 21; refine (HF _ _ _ (Blk.new _ _ _)).mono ?_; rintro e W3 ⟨rfl, rfl⟩)
        | (go_at_call 23; refine (HO _).mono ?_; rintro e W5 ⟨rfl, hE5⟩)
        | (go_at_call 22; refine (HR _ (Ext.trans (hE1.trans hE2) (Ext.trans (by exact (by repeat (first | exact Ext.refl _ | assumption | refine Ext.alloc ?_ _ | refine Ext.drew ?_ | refine Ext.drewN ?_ _ | refine Ext.setCell ?_ (by first | omega | (simp; done) | (simp; omega)) _ | refine Ext.trans ?_ (by assumption)))) hE5))).mono ?_; rintro e W6 ⟨rfl, hE6⟩))
      have hE7 : Ext w W6 := Ext.trans (hE1.trans hE2) (Ext.trans (by exact (by repeat (first | exact Ext.refl _ | assumption | refine Ext.alloc ?_ _ | refine Ext.drew ?_ | refine Ext.drewN ?_ _ | refine Ext.setCell ?_ (by first | omega | (simp; done) | (simp; omega)) _ | refine Ext.trans ?_ (by assumption)))) (hE5.trans hE6))
      have hE27 : Ext W2 W6 := Ext.trans (by exact (by repeat (first | exact Ext.refl _ | assumption | refine Ext.alloc ?_ _ | refine Ext.drew ?_ | refine Ext.drewN ?_ _ | refine Ext.setCell ?_ (by first | omega | (simp; done) | (simp; omega)) _ | refine Ext.trans ?_ (by assumption)))) (hE5.trans hE6)
      have hX6 := hX.ext (hE2.trans hE27)
      obtain ⟨⟨y0, _⟩, ⟨y1, _⟩, ⟨y2, _⟩, ⟨y3, _⟩, ⟨y4, _⟩⟩ := hX6.five
      clear x0 x1 x2 x3 x4
      have hlt6 := hX6.lt
      have hlt7 : xb < W6.heap.size + 1 := by omega
      have hlt8 : xb < W6.heap.size + 1 + 1 := by omega
      have hlt9 : xb < W6.heap.size + 1 + 1 + 1 := by omega
      have hS : ∀ w' : World, Ext W6 w' → w'.cell? ⟨xb, 0, none⟩ = some (.string (B a.name)) ∧ w'.cell? ⟨xb, 1, none⟩ = some (.string (B a.p)) ∧ w'.cell? ⟨xb, 2, none⟩ = some (.string (B a.q)) ∧ w'.cell? ⟨xb, 3, none⟩ = some (.int .i64 a.n) ∧ w'.cell? ⟨xb, 4, none⟩ = some (.int .i64 a.m) := fun w' h => ⟨h.cell y0, h.cell y1, h.cell y2, h.cell y3, h.cell y4⟩
      have HS := Lib.hid hS
      clear hS
      go_cut [5, 6, 7] (fun v5 v6 v7 wx => ∃ b5 b6 b7, v5 = .pointer (some ⟨b5, 0, none⟩) ∧ v6 = .pointer (some ⟨b6, 0, none⟩) ∧ v7 = .pointer (some ⟨b7, 0, none⟩) ∧ (b5 ≠ b6 ∧ b5 ≠ b7 ∧ b6 ≠ b7) ∧ (W6.heap.size ≤ b5 ∧ W6.heap.size ≤ b6 ∧ W6.heap.size ≤ b7) ∧ Blk wx b5 44 #[.string (B a.name), .string (B a.p), .string (B a.q), .int .i64 a.n, .int .i64 a.m] ∧ Blk wx b6 44 #[.string (B a.name), .string (B a.p), .string (B a.q), .int .i64 a.n, .int .i64 a.m] ∧ Blk wx b7 44 #[.string (B a.name), .string (B a.p), .string (B a.q), .int .i64 a.n, .int .i64 a.m] ∧ Ext W6 wx)
      case first =>
        clear HA HF HO HR HA1 hV
        go_region
        all_goals (go_wp2; go_meet)
        all_goals refine ⟨_, _, _, rfl, rfl, rfl, ⟨by omega, by omega, by omega⟩, ⟨by omega, by omega, by omega⟩, ?_, ?_, ?_, (three_new W6 _ _).2.2.2⟩
        all_goals first
          | exact (three_new W6 _ _).1
          | exact (three_new W6 _ _).2.1
          | exact (three_new W6 _ _).2.2.1
      case rest =>
        obtain ⟨b5, b6, b7, rfl, rfl, rfl, ⟨n56, n57, n67⟩, ⟨l5, l6, l7⟩, hB5, hB6, hB7, hE8⟩ := hcut
        obtain ⟨⟨z0, _⟩, ⟨z1, _⟩, ⟨z2, _⟩, ⟨z3, _⟩, ⟨z4, _⟩⟩ := (hX6.ext hE8).five
        obtain ⟨⟨p0, g0⟩, ⟨p1, g1⟩, ⟨p2, g2⟩, ⟨p3, g3⟩, ⟨p4, g4⟩⟩ := hB5.five
        obtain ⟨⟨q0, k0⟩, ⟨q1, k1⟩, ⟨q2, k2⟩, ⟨q3, k3⟩, ⟨q4, k4⟩⟩ := hB6.five
        obtain ⟨⟨r0, j0⟩, ⟨r1, j1⟩, ⟨r2, j2⟩, ⟨r3, j3⟩, ⟨r4, j4⟩⟩ := hB7.five
        have hpl : (B a.p).size ≤ 100 := by have := HSm.out; simp only [smallA, Bool.and_eq_true, decide_eq_true_eq] at this; rw [size_B]; omega
        have hnl : (B a.name).size ≤ 100 := by have := HSm.out; simp only [smallA, Bool.and_eq_true, decide_eq_true_eq] at this; rw [size_B]; omega
        have hx5 : xb ≠ b5 := by omega
        have hx6 : xb ≠ b6 := by omega
        have hx7 : xb ≠ b7 := by omega
        go_upto_region 7 with (fail)
        have e1 : B a.p ++ (⟨#[32]⟩ : ByteArray) = B (a.p ++ [32]) := B_app a.p [32]
        have e2 : B a.name ++ (⟨#[120]⟩ : ByteArray) = B (a.name ++ [120]) := B_app a.name [120]
        rw [e1, e2]
        have hD5 : Blk (((wc.setCell ⟨b5, 1, none⟩ (.string (B (a.p ++ [32])))).setCell ⟨b6, 4, none⟩ (.int .i64 n)).setCell ⟨b7, 0, none⟩ (.string (B (a.name ++ [120])))) b5 44 #[.string (B a.name), .string (B (a.p ++ [32])), .string (B a.q), .int .i64 a.n, .int .i64 a.m] :=
          (Below.heap_setCell _ _ _ _ (by simpa using n57)).trans ((Below.heap_setCell _ _ _ _ (by simpa using n56)).trans (hB5.set 1 _))
        have hD6 : Blk (((wc.setCell ⟨b5, 1, none⟩ (.string (B (a.p ++ [32])))).setCell ⟨b6, 4, none⟩ (.int .i64 n)).setCell ⟨b7, 0, none⟩ (.string (B (a.name ++ [120])))) b6 44 #[.string (B a.name), .string (B a.p), .string (B a.q), .int .i64 a.n, .int .i64 n] :=
          (Below.heap_setCell _ _ _ _ (by simpa using n67)).trans (Blk.set (w := wc.setCell ⟨b5, 1, none⟩ (.string (B (a.p ++ [32])))) ((Below.heap_setCell _ _ _ _ (by simpa using n56.symm)).trans hB6) 4 _)
        have hD7 : Blk (((wc.setCell ⟨b5, 1, none⟩ (.string (B (a.p ++ [32])))).setCell ⟨b6, 4, none⟩ (.int .i64 n)).setCell ⟨b7, 0, none⟩ (.string (B (a.name ++ [120])))) b7 44 #[.string (B (a.name ++ [120])), .string (B a.p), .string (B a.q), .int .i64 a.n, .int .i64 a.m] :=
          Blk.set (w := (wc.setCell ⟨b5, 1, none⟩ (.string (B (a.p ++ [32])))).setCell ⟨b6, 4, none⟩ (.int .i64 n)) ((Below.heap_setCell _ _ _ _ (by simpa using n67.symm)).trans ((Below.heap_setCell _ _ _ _ (by simpa using n57.symm)).trans hB7)) 0 _
        have hE9 : Ext W6 (((wc.setCell ⟨b5, 1, none⟩ (.string (B (a.p ++ [32])))).setCell ⟨b6, 4, none⟩ (.int .i64 n)).setCell ⟨b7, 0, none⟩ (.string (B (a.name ++ [120])))) :=
          ((hE8.setCell (p := ⟨b5, 1, none⟩) l5 _).setCell (p := ⟨b6, 4, none⟩) l6 _).setCell (p := ⟨b7, 0, none⟩) l7 _
        have hEd := hE7.trans hE9
        have hDx := hX6.ext hE9
        clear z0 z1 z2 z3 z4 p0 p1 p2 p3 p4 q0 q1 q2 q3 q4 r0 r1 r2 r3 r4 g0 g1 g2 g3 g4 k0 k1 k2 k3 k4 j0 j1 j2 j3 j4 hB5 hB6 hB7 hE8 e1 e2
        generalize ((wc.setCell ⟨b5, 1, none⟩ (.string (B (a.p ++ [32])))).setCell ⟨b6, 4, none⟩ (.int .i64 n)).setCell ⟨b7, 0, none⟩ (.string (B (a.name ++ [120]))) = Wd at hD5 hD6 hD7 hE9 hEd hDx ⊢
        obtain ⟨wv, hneed⟩ := parts_needs Hr.out
        have z0 := hDx.cell 0 rfl
        have HN : Calls Tryz.prog 24 #[.string (B a.name)] Wd fun e w' => e = .returned (.tuple #[.string (B wv), .bool true]) ∧ Ext Wd w' := (Needs_ref a.name Wd).mono fun e w' h => by
          rw [NeedsPost, needV, hneed] at h
          exact h
        go_upto_region 8 with (go_at_call 24; refine HN.mono ?_; rintro e We ⟨rfl, hEe⟩)
        replace hD5 := hD5.ext hEe
        replace hD6 := hD6.ext hEe
        replace hD7 := hD7.ext hEe
        replace hEd := hEd.trans hEe
        clear z0 HN
        go_cut [10] (fun v10 wx => v10 = .bool (decide (wv.getLast? = some 109)) ∧ wx = We)
        case first =>
          clear hD5 hD6 hD7 HR HO HF HA HA1
          rcases needs_kinds hneed with rfl | rfl | rfl | rfl | rfl | rfl | rfl
          all_goals simp only [B]
          all_goals go_wp2
          all_goals go_meet
          all_goals exact ⟨rfl, rfl⟩
        case rest =>
          obtain ⟨rfl, rfl⟩ := hcut
          have hsm := HSm.out
          simp only [smallA, Bool.and_eq_true, decide_eq_true_eq] at hsm
          have HOb : ∀ w', Calls Tryz.prog 23 #[.agg #[.string (B a.name), .string (B (a.p ++ [32])), .string (B a.q), .int .i64 a.n, .int .i64 a.m]] w' fun e w'' => e = .returned (.agg #[.string (B a.name), .string (B (a.p ++ [32])), .string (B a.q), .int .i64 a.n, .int .i64 a.m]) ∧ Ext w' w'' := fun w' => Of_any { a with p := a.p ++ [32] } w'
          have HOc : ∀ w', Calls Tryz.prog 23 #[.agg #[.string (B a.name), .string (B a.p), .string (B a.q), .int .i64 a.n, .int .i64 n]] w' fun e w'' => e = .returned (.agg #[.string (B a.name), .string (B a.p), .string (B a.q), .int .i64 a.n, .int .i64 n]) ∧ Ext w' w'' := fun w' => Of_any { a with m := n } w'
          have HOd : ∀ w', Calls Tryz.prog 23 #[.agg #[.string (B (a.name ++ [120])), .string (B a.p), .string (B a.q), .int .i64 a.n, .int .i64 a.m]] w' fun e w'' => e = .returned (.agg #[.string (B (a.name ++ [120])), .string (B a.p), .string (B a.q), .int .i64 a.n, .int .i64 a.m]) ∧ Ext w' w'' := fun w' => Of_any { a with name := a.name ++ [120] } w'
          have HRb : ∀ w', Ext w w' → Calls Tryz.prog 22 #[.agg #[.string (B a.name), .string (B (a.p ++ [32])), .string (B a.q), .int .i64 a.n, .int .i64 a.m]] w' fun e w'' => e = .returned (.bool false) ∧ Ext w' w'' := fun w' h => by
            have := Right_any { a with p := a.p ++ [32] } ⟨by show a.name.length ≤ _; omega, by show (a.p ++ [32]).length ≤ _; rw [List.length_append, List.length_singleton]; omega, by show a.q.length ≤ _; omega, hi.n0, hi.n1, hi.m0, hi.m1⟩ w' (hV.ext h).num
            rw [right_blank hneed] at this
            exact this
          have HRd : ∀ w', Ext w w' → Calls Tryz.prog 22 #[.agg #[.string (B (a.name ++ [120])), .string (B a.p), .string (B a.q), .int .i64 a.n, .int .i64 a.m]] w' fun e w'' => e = .returned (.bool false) ∧ Ext w' w'' := fun w' h => by
            have := Right_any { a with name := a.name ++ [120] } ⟨by show (a.name ++ [120]).length ≤ _; rw [List.length_append, List.length_singleton]; omega, by show a.p.length ≤ _; omega, by show a.q.length ≤ _; omega, hi.n0, hi.n1, hi.m0, hi.m1⟩ w' (hV.ext h).num
            rw [right_x hneed] at this
            exact this
          have HRc0 : ∀ rc, (partsP { a with m := n }).isSome = rc → ∀ w', Ext w w' → Calls Tryz.prog 22 #[.agg #[.string (B a.name), .string (B a.p), .string (B a.q), .int .i64 a.n, .int .i64 n]] w' fun e w'' => e = .returned (.bool rc) ∧ Ext w' w'' := fun rc hrc w' h => by
            have := Right_any { a with m := n } ⟨by show a.name.length ≤ _; omega, by show a.p.length ≤ _; omega, by show a.q.length ≤ _; omega, hi.n0, hi.n1, hn0, hn1⟩ w' (hV.ext h).num
            rw [hrc] at this
            exact this
          have hrm := right_m hneed Hr.out n
          obtain ⟨⟨p0, _⟩, ⟨p1, _⟩, ⟨p2, _⟩, ⟨p3, _⟩, ⟨p4, _⟩⟩ := hD5.five
          clear HO HR HF HA HA1 hD5 hsm hX6
          by_cases h0 : n = 0
          · subst h0
            have HRc := HRc0 true (by rw [hrm]; simp)
            clear HRc0 hrm
            go_wp2_with (first
              | (go_at_call 23; with_reducible refine (HOb _).mono ?_; rintro e V1 ⟨rfl, hF1⟩)
              | (go_at_call 22; with_reducible refine (HRb _ (hEd.trans hF1)).mono ?_; rintro e V2 ⟨rfl, hF2⟩; obtain ⟨⟨r0, _⟩, ⟨r1, _⟩, ⟨r2, _⟩, ⟨r3, _⟩, ⟨r4, _⟩⟩ := (hD7.ext (hF1.trans hF2)).five)
              | (go_at_call 23; with_reducible refine (HOd _).mono ?_; rintro e V3 ⟨rfl, hF3⟩)
              | (go_at_call 22; with_reducible refine (HRd _ (hEd.trans (hF1.trans (hF2.trans hF3)))).mono ?_; rintro e V4 ⟨rfl, hF4⟩; obtain ⟨⟨q0, _⟩, ⟨q1, _⟩, ⟨q2, _⟩, ⟨q3, _⟩, ⟨q4, _⟩⟩ := (hD6.ext (hF1.trans (hF2.trans (hF3.trans hF4)))).five)
              | (go_at_call 23; with_reducible refine (HOc _).mono ?_; rintro e V5 ⟨rfl, hF5⟩)
              | (go_at_call 22; with_reducible refine (HRc _ (hEd.trans (hF1.trans (hF2.trans (hF3.trans (hF4.trans hF5)))))).mono ?_; rintro e V6 ⟨rfl, hF6⟩))
            go_ret
            exact ⟨rfl, hEd.trans (hF1.trans (hF2.trans (hF3.trans (hF4.trans (hF5.trans hF6)))))⟩
          · by_cases hm : wv.getLast? = some 109
            · rw [decide_eq_true hm]
              by_cases h1 : 0 ≤ n
              · by_cases h2 : n ≤ 9999
                · have HRc := HRc0 true (by rw [hrm]; simp [h0, hm, h1, h2])
                  clear HRc0 hrm
                  go_wp2_with (first
                    | (go_at_call 23; with_reducible refine (HOb _).mono ?_; rintro e V1 ⟨rfl, hF1⟩)
                    | (go_at_call 22; with_reducible refine (HRb _ (hEd.trans hF1)).mono ?_; rintro e V2 ⟨rfl, hF2⟩; obtain ⟨⟨r0, _⟩, ⟨r1, _⟩, ⟨r2, _⟩, ⟨r3, _⟩, ⟨r4, _⟩⟩ := (hD7.ext (hF1.trans hF2)).five)
                    | (go_at_call 23; with_reducible refine (HOd _).mono ?_; rintro e V3 ⟨rfl, hF3⟩)
                    | (go_at_call 22; with_reducible refine (HRd _ (hEd.trans (hF1.trans (hF2.trans hF3)))).mono ?_; rintro e V4 ⟨rfl, hF4⟩; obtain ⟨⟨q0, _⟩, ⟨q1, _⟩, ⟨q2, _⟩, ⟨q3, _⟩, ⟨q4, _⟩⟩ := (hD6.ext (hF1.trans (hF2.trans (hF3.trans hF4)))).five)
                    | (go_at_call 23; with_reducible refine (HOc _).mono ?_; rintro e V5 ⟨rfl, hF5⟩)
                    | (go_at_call 22; with_reducible refine (HRc _ (hEd.trans (hF1.trans (hF2.trans (hF3.trans (hF4.trans hF5)))))).mono ?_; rintro e V6 ⟨rfl, hF6⟩))
                  go_ret
                  exact ⟨by first | rfl | (simp [h0]; done) | (simp [h0, h2]; done), hEd.trans (hF1.trans (hF2.trans (hF3.trans (hF4.trans (hF5.trans hF6)))))⟩
                · have HRc := HRc0 false (by rw [hrm]; simp [h0, hm, h1, h2])
                  clear HRc0 hrm
                  go_wp2_with (first
                    | (go_at_call 23; with_reducible refine (HOb _).mono ?_; rintro e V1 ⟨rfl, hF1⟩)
                    | (go_at_call 22; with_reducible refine (HRb _ (hEd.trans hF1)).mono ?_; rintro e V2 ⟨rfl, hF2⟩; obtain ⟨⟨r0, _⟩, ⟨r1, _⟩, ⟨r2, _⟩, ⟨r3, _⟩, ⟨r4, _⟩⟩ := (hD7.ext (hF1.trans hF2)).five)
                    | (go_at_call 23; with_reducible refine (HOd _).mono ?_; rintro e V3 ⟨rfl, hF3⟩)
                    | (go_at_call 22; with_reducible refine (HRd _ (hEd.trans (hF1.trans (hF2.trans hF3)))).mono ?_; rintro e V4 ⟨rfl, hF4⟩; obtain ⟨⟨q0, _⟩, ⟨q1, _⟩, ⟨q2, _⟩, ⟨q3, _⟩, ⟨q4, _⟩⟩ := (hD6.ext (hF1.trans (hF2.trans (hF3.trans hF4)))).five)
                    | (go_at_call 23; with_reducible refine (HOc _).mono ?_; rintro e V5 ⟨rfl, hF5⟩)
                    | (go_at_call 22; with_reducible refine (HRc _ (hEd.trans (hF1.trans (hF2.trans (hF3.trans (hF4.trans hF5)))))).mono ?_; rintro e V6 ⟨rfl, hF6⟩))
                  go_ret
                  exact ⟨by first | rfl | (simp [h0]; done) | (simp [h0, h2]; done), hEd.trans (hF1.trans (hF2.trans (hF3.trans (hF4.trans (hF5.trans hF6)))))⟩
              · have HRc := HRc0 false (by rw [hrm]; simp [h0, hm, h1])
                clear HRc0 hrm
                go_wp2_with (first
                  | (go_at_call 23; with_reducible refine (HOb _).mono ?_; rintro e V1 ⟨rfl, hF1⟩)
                  | (go_at_call 22; with_reducible refine (HRb _ (hEd.trans hF1)).mono ?_; rintro e V2 ⟨rfl, hF2⟩; obtain ⟨⟨r0, _⟩, ⟨r1, _⟩, ⟨r2, _⟩, ⟨r3, _⟩, ⟨r4, _⟩⟩ := (hD7.ext (hF1.trans hF2)).five)
                  | (go_at_call 23; with_reducible refine (HOd _).mono ?_; rintro e V3 ⟨rfl, hF3⟩)
                  | (go_at_call 22; with_reducible refine (HRd _ (hEd.trans (hF1.trans (hF2.trans hF3)))).mono ?_; rintro e V4 ⟨rfl, hF4⟩; obtain ⟨⟨q0, _⟩, ⟨q1, _⟩, ⟨q2, _⟩, ⟨q3, _⟩, ⟨q4, _⟩⟩ := (hD6.ext (hF1.trans (hF2.trans (hF3.trans hF4)))).five)
                  | (go_at_call 23; with_reducible refine (HOc _).mono ?_; rintro e V5 ⟨rfl, hF5⟩)
                  | (go_at_call 22; with_reducible refine (HRc _ (hEd.trans (hF1.trans (hF2.trans (hF3.trans (hF4.trans hF5)))))).mono ?_; rintro e V6 ⟨rfl, hF6⟩))
                go_ret
                exact ⟨by first | rfl | (simp [h0]; done) | (simp [h0, h2]; done), hEd.trans (hF1.trans (hF2.trans (hF3.trans (hF4.trans (hF5.trans hF6)))))⟩
            · rw [decide_eq_false hm]
              have HRc := HRc0 false (by rw [hrm]; simp [h0, hm])
              clear HRc0 hrm
              go_wp2_with (first
                | (go_at_call 23; with_reducible refine (HOb _).mono ?_; rintro e V1 ⟨rfl, hF1⟩)
                | (go_at_call 22; with_reducible refine (HRb _ (hEd.trans hF1)).mono ?_; rintro e V2 ⟨rfl, hF2⟩; obtain ⟨⟨r0, _⟩, ⟨r1, _⟩, ⟨r2, _⟩, ⟨r3, _⟩, ⟨r4, _⟩⟩ := (hD7.ext (hF1.trans hF2)).five)
                | (go_at_call 23; with_reducible refine (HOd _).mono ?_; rintro e V3 ⟨rfl, hF3⟩)
                | (go_at_call 22; with_reducible refine (HRd _ (hEd.trans (hF1.trans (hF2.trans hF3)))).mono ?_; rintro e V4 ⟨rfl, hF4⟩; obtain ⟨⟨q0, _⟩, ⟨q1, _⟩, ⟨q2, _⟩, ⟨q3, _⟩, ⟨q4, _⟩⟩ := (hD6.ext (hF1.trans (hF2.trans (hF3.trans hF4)))).five)
                | (go_at_call 23; with_reducible refine (HOc _).mono ?_; rintro e V5 ⟨rfl, hF5⟩)
                | (go_at_call 22; with_reducible refine (HRc _ (hEd.trans (hF1.trans (hF2.trans (hF3.trans (hF4.trans hF5)))))).mono ?_; rintro e V6 ⟨rfl, hF6⟩))
              go_ret
              exact ⟨by first | rfl | (simp [h0]; done) | (simp [h0, h2]; done), hEd.trans (hF1.trans (hF2.trans (hF3.trans (hF4.trans (hF5.trans hF6)))))⟩
  · have hsf : smallA a = false := by simpa using hsm
    rw [hsf] at HF
    clear hsm hsf
    go_upto_region 2 with (first
        | (go_at_call 20; with_reducible refine HA1.mono ?_; rintro e W2 ⟨rfl, hE2⟩; obtain ⟨⟨x0, _⟩, ⟨x1, _⟩, ⟨x2, _⟩, ⟨x3, _⟩, ⟨x4, _⟩⟩ := (hX.ext hE2).five; have hlx := (hX.ext hE2).lt)
        | (go_at_call 21; refine (HF _ _ _ (Blk.new _ _ _)).mono ?_; rintro e W3 ⟨rfl, rfl⟩))
    have hE7 : Ext w (W2.alloc (.cells #[.string (B a.name), .string (B a.p), .string (B a.q), .int .i64 a.n, .int .i64 a.m] 44)) := (hE1.trans hE2).alloc _
    go_wp2_with (go_at_call 20; refine (HA _ hE7).mono ?_; rintro e W9 ⟨rfl, hE9⟩)
    go_ret
    exact ⟨rfl, hE7.trans hE9⟩
end Go.Proofs.YtiomljaengonoaaGreatDoor
