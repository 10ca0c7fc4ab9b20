/- The document's Right tells which acts are right. -/
import Derived.Test.YtiomljaengonoaaGreatDoorRefWord
import Derived.Test.YtiomljaengonoaaGreatDoorRefNeeds
import Derived.Test.YtiomljaengonoaaGreatDoorScrLaw
namespace Go.Proofs.YtiomljaengonoaaGreatDoor
open Go Go.RowKit Go.Shelf Go.Proofs Go.Maps

theorem not_right {a : ActP} {wv : List UInt8} (hw : needsOf a.name = some wv) (h : ¬ rightP wv a) : (partsP a).isSome = false := by
  rw [Bool.eq_false_iff]
  exact fun e => h ((right_iff hw).1 e)
theorem is_right {a : ActP} {wv : List UInt8} (hw : needsOf a.name = some wv) (h : rightP wv a) : (partsP a).isSome = true := (right_iff hw).2 h

theorem flag_store {w wx : World} {fb xb : Nat} {c0 c1 c2 c3 : Value} {X : Array Value} {t : TypeId} (hE : Ext w wx) (hB : Blk wx fb 113 #[c0, c1, c2, c3]) (hX : Blk wx xb t X) (hl : w.heap.size ≤ fb) (hne : xb ≠ fb) (d0 d1 d2 d3 : Value) :
    Blk ((((wx.setCell ⟨fb, 0, none⟩ d0).setCell ⟨fb, 1, none⟩ d1).setCell ⟨fb, 2, none⟩ d2).setCell ⟨fb, 3, none⟩ d3) fb 113 #[d0, d1, d2, d3] ∧
    Blk ((((wx.setCell ⟨fb, 0, none⟩ d0).setCell ⟨fb, 1, none⟩ d1).setCell ⟨fb, 2, none⟩ d2).setCell ⟨fb, 3, none⟩ d3) xb t X ∧
    Ext w ((((wx.setCell ⟨fb, 0, none⟩ d0).setCell ⟨fb, 1, none⟩ d1).setCell ⟨fb, 2, none⟩ d2).setCell ⟨fb, 3, none⟩ d3) := by
  refine ⟨((((hB.set 0 d0).set 1 d1).set 2 d2).set 3 d3), ?_, (((hE.setCell (p := ⟨fb, 0, none⟩) hl _).setCell (p := ⟨fb, 1, none⟩) hl _).setCell (p := ⟨fb, 2, none⟩) hl _).setCell (p := ⟨fb, 3, none⟩) hl _⟩
  exact (Below.heap_setCell _ _ _ _ (by simpa using hne)).trans ((Below.heap_setCell _ _ _ _ (by simpa using hne)).trans ((Below.heap_setCell _ _ _ _ (by simpa using hne)).trans ((Below.heap_setCell _ _ _ _ (by simpa using hne)).trans hX)))

theorem word_ne {s : List UInt8} (h : wordP s = true) : ¬ s = [] := by
  rintro rfl
  simp [wordP] at h
theorem word_emp : wordP [] = false := rfl

set_option maxRecDepth 100000 in
set_option maxHeartbeats 8000000 in
theorem Right_n (a : ActP) (hf : a.fits) (w : World) (hw : needsOf a.name = none) :
    Calls Tryz.prog 27 #[.agg #[.string (B a.name), .string (B a.p), .string (B a.q), .int .i64 a.n, .int .i64 a.m]] w fun e w' => e = .returned (.bool (partsP a).isSome) ∧ Ext w w' := by
  have HN : ∀ w', Calls Tryz.prog 24 #[.string (B a.name)] w' fun e w'' => e = .returned (.tuple #[.string ⟨#[]⟩, .bool false]) ∧ Ext w' w'' := fun w' => (Needs_ref a.name w').mono fun e w'' h => by
    rw [NeedsPost, needV, hw] at h
    exact h
  go_enter Tryz.func27, Tryz.ntmps27
  go_upto_region 1 with (fail)
  have hX := Blk.new w 44 #[.string (B a.name), .string (B a.p), .string (B a.q), .int .i64 a.n, .int .i64 a.m]
  have hE1 := (Ext.refl w).alloc (.cells #[.string (B a.name), .string (B a.p), .string (B a.q), .int .i64 a.n, .int .i64 a.m] 44)
  have hxl : w.heap.size ≤ w.heap.size := Nat.le_refl _
  obtain ⟨xb, hxb⟩ : ∃ xb, w.heap.size = xb := ⟨_, rfl⟩
  rw [hxb] at hX ⊢
  clear hxb hxl
  generalize w.alloc (.cells #[.string (B a.name), .string (B a.p), .string (B a.q), .int .i64 a.n, .int .i64 a.m] 44) = W1 at hX hE1 ⊢
  obtain ⟨⟨x0, _⟩, ⟨x1, _⟩, ⟨x2, _⟩, ⟨x3, _⟩, ⟨x4, _⟩⟩ := hX.five
  have HN1 := HN W1
  clear HN
  go_upto_region 2 with (go_at_call 24; refine HN1.mono ?_; rintro e W2 ⟨rfl, hE2⟩)
  replace hX := hX.ext hE2
  replace hE1 := hE1.trans hE2
  clear x0 x1 x2 x3 x4 HN1
  go_upto_region 3 with (fail)
  have hF := Blk.new W2 113 #[.bool false, .bool false, .bool false, .bool false]
  have hX3 := hX.ext ((Ext.refl W2).alloc (.cells #[.bool false, .bool false, .bool false, .bool false] 113))
  have hE3 := hE1.alloc (.cells #[.bool false, .bool false, .bool false, .bool false] 113)
  have hfl : w.heap.size ≤ W2.heap.size := hE1.size
  have hne : xb ≠ W2.heap.size := Nat.ne_of_lt hX.lt
  obtain ⟨fb, hfb⟩ : ∃ fb, W2.heap.size = fb := ⟨_, rfl⟩
  rw [hfb] at hF hfl hne ⊢
  clear hfb hX hE1 hE2
  generalize W2.alloc (.cells #[.bool false, .bool false, .bool false, .bool false] 113) = W3 at hF hX3 hE3 ⊢
  go_wp2
  go_loopw [6] (fun i wx => Blk wx xb 44 #[.string (B a.name), .string (B a.p), .string (B a.q), .int .i64 a.n, .int .i64 a.m] ∧ Ext w wx ∧ ((i = .int .i64 0 ∧ Blk wx fb 113 #[.bool false, .bool false, .bool false, .bool false]))) (fun i _ => 0 - (intOf i).toNat)
  case atStart => exact ⟨hX3, hE3, ⟨rfl, hF⟩⟩
  case round =>
    obtain ⟨hX, hE, hk⟩ := hrel
    obtain ⟨rfl, hB⟩ := hk
    obtain ⟨⟨f0, _⟩, ⟨f1, _⟩, ⟨f2, _⟩, ⟨f3, _⟩⟩ := hB.four
    obtain ⟨⟨x0, _⟩, ⟨x1, _⟩, ⟨x2, _⟩, ⟨x3, _⟩, ⟨x4, _⟩⟩ := hX.five
    have HW1 := fun w => Word_ref (B a.p) (by rw [size_B]; exact Nat.le_trans hf.p (by decide)) w
    have HW2 := fun w => Word_ref (B a.q) (by rw [size_B]; exact Nat.le_trans hf.q (by decide)) w
    rw [toList_B] at HW1 HW2
    obtain ⟨_, _, _, n0, n1, m0, m1⟩ := hf
    by_cases ep : a.p = []
    · have gp := emp_eq ep
      by_cases eq : a.q = []
      · have gq := emp_eq eq
        by_cases en : a.n = 0
        · have gn : (a.n != 0) = false := by simpa using en
          have ln : 0 ≤ a.n := by omega
          have un : a.n ≤ 9999 := by omega
          by_cases em : a.m = 0
          · have gm : (a.m != 0) = false := by simpa using em
            have lm : 0 ≤ a.m := by omega
            have um : a.m ≤ 9999 := by omega
            have hr : Hid ((partsP a).isSome = false) := Lib.hid (by simp only [partsP, hw]; rfl)
            clear hw hX hB hF hX3 hE3 hfl hne ep eq en em
            go_wp2
            go_ret
            exact ⟨by rw [hr.out]; rfl, hE⟩
          · have gm : (a.m != 0) = true := by simpa using em
            have hr : Hid ((partsP a).isSome = false) := Lib.hid (by simp only [partsP, hw]; rfl)
            clear hw hX hB hF hX3 hE3 hfl hne ep eq en em
            go_wp2
            go_ret
            exact ⟨by rw [hr.out]; rfl, hE⟩
        · have gn : (a.n != 0) = true := by simpa using en
          have hr : Hid ((partsP a).isSome = false) := Lib.hid (by simp only [partsP, hw]; rfl)
          clear hw hX hB hF hX3 hE3 hfl hne ep eq en
          go_wp2
          go_ret
          exact ⟨by rw [hr.out]; rfl, hE⟩
      · have gq := emp_ne eq
        have hr : Hid ((partsP a).isSome = false) := Lib.hid (by simp only [partsP, hw]; rfl)
        clear hw hX hB hF hX3 hE3 hfl hne ep eq
        go_wp2
        go_ret
        exact ⟨by rw [hr.out]; rfl, hE⟩
    · have gp := emp_ne ep
      have hr : Hid ((partsP a).isSome = false) := Lib.hid (by simp only [partsP, hw]; rfl)
      clear hw hX hB hF hX3 hE3 hfl hne ep
      go_wp2
      go_ret
      exact ⟨by rw [hr.out]; rfl, hE⟩

set_option maxRecDepth 100000 in
set_option maxHeartbeats 8000000 in
theorem Right_e (a : ActP) (hf : a.fits) (w : World) (hw : needsOf a.name = some []) :
    Calls Tryz.prog 27 #[.agg #[.string (B a.name), .string (B a.p), .string (B a.q), .int .i64 a.n, .int .i64 a.m]] w fun e w' => e = .returned (.bool (partsP a).isSome) ∧ Ext w w' := by
  have HN : ∀ w', Calls Tryz.prog 24 #[.string (B a.name)] w' fun e w'' => e = .returned (.tuple #[.string ⟨#[]⟩, .bool true]) ∧ Ext w' w'' := fun w' => (Needs_ref a.name w').mono fun e w'' h => by
    rw [NeedsPost, needV, hw] at h
    exact h
  go_enter Tryz.func27, Tryz.ntmps27
  go_upto_region 1 with (fail)
  have hX := Blk.new w 44 #[.string (B a.name), .string (B a.p), .string (B a.q), .int .i64 a.n, .int .i64 a.m]
  have hE1 := (Ext.refl w).alloc (.cells #[.string (B a.name), .string (B a.p), .string (B a.q), .int .i64 a.n, .int .i64 a.m] 44)
  have hxl : w.heap.size ≤ w.heap.size := Nat.le_refl _
  obtain ⟨xb, hxb⟩ : ∃ xb, w.heap.size = xb := ⟨_, rfl⟩
  rw [hxb] at hX ⊢
  clear hxb hxl
  generalize w.alloc (.cells #[.string (B a.name), .string (B a.p), .string (B a.q), .int .i64 a.n, .int .i64 a.m] 44) = W1 at hX hE1 ⊢
  obtain ⟨⟨x0, _⟩, ⟨x1, _⟩, ⟨x2, _⟩, ⟨x3, _⟩, ⟨x4, _⟩⟩ := hX.five
  have HN1 := HN W1
  clear HN
  go_upto_region 2 with (go_at_call 24; refine HN1.mono ?_; rintro e W2 ⟨rfl, hE2⟩)
  replace hX := hX.ext hE2
  replace hE1 := hE1.trans hE2
  clear x0 x1 x2 x3 x4 HN1
  go_upto_region 3 with (fail)
  have hF := Blk.new W2 113 #[.bool false, .bool false, .bool false, .bool false]
  have hX3 := hX.ext ((Ext.refl W2).alloc (.cells #[.bool false, .bool false, .bool false, .bool false] 113))
  have hE3 := hE1.alloc (.cells #[.bool false, .bool false, .bool false, .bool false] 113)
  have hfl : w.heap.size ≤ W2.heap.size := hE1.size
  have hne : xb ≠ W2.heap.size := Nat.ne_of_lt hX.lt
  obtain ⟨fb, hfb⟩ : ∃ fb, W2.heap.size = fb := ⟨_, rfl⟩
  rw [hfb] at hF hfl hne ⊢
  clear hfb hX hE1 hE2
  generalize W2.alloc (.cells #[.bool false, .bool false, .bool false, .bool false] 113) = W3 at hF hX3 hE3 ⊢
  go_wp2
  go_loopw [6] (fun i wx => Blk wx xb 44 #[.string (B a.name), .string (B a.p), .string (B a.q), .int .i64 a.n, .int .i64 a.m] ∧ Ext w wx ∧ ((i = .int .i64 0 ∧ Blk wx fb 113 #[.bool false, .bool false, .bool false, .bool false]))) (fun i _ => 0 - (intOf i).toNat)
  case atStart => exact ⟨hX3, hE3, ⟨rfl, hF⟩⟩
  case round =>
    obtain ⟨hX, hE, hk⟩ := hrel
    obtain ⟨rfl, hB⟩ := hk
    obtain ⟨⟨f0, _⟩, ⟨f1, _⟩, ⟨f2, _⟩, ⟨f3, _⟩⟩ := hB.four
    obtain ⟨⟨x0, _⟩, ⟨x1, _⟩, ⟨x2, _⟩, ⟨x3, _⟩, ⟨x4, _⟩⟩ := hX.five
    have HW1 := fun w => Word_ref (B a.p) (by rw [size_B]; exact Nat.le_trans hf.p (by decide)) w
    have HW2 := fun w => Word_ref (B a.q) (by rw [size_B]; exact Nat.le_trans hf.q (by decide)) w
    rw [toList_B] at HW1 HW2
    obtain ⟨_, _, _, n0, n1, m0, m1⟩ := hf
    by_cases ep : a.p = []
    · have gp := emp_eq ep
      by_cases eq : a.q = []
      · have gq := emp_eq eq
        by_cases en : a.n = 0
        · have gn : (a.n != 0) = false := by simpa using en
          have ln : 0 ≤ a.n := by omega
          have un : a.n ≤ 9999 := by omega
          by_cases em : a.m = 0
          · have gm : (a.m != 0) = false := by simpa using em
            have lm : 0 ≤ a.m := by omega
            have um : a.m ≤ 9999 := by omega
            have hr : Hid ((partsP a).isSome = true) := Lib.hid (is_right hw (by first | (simp [rightP, ep, eq, en, em]; done) | (simp [rightP, ep, eq, en, em]; omega)))
            clear hw hX hB hF hX3 hE3 hfl hne ep eq en em
            go_wp2
            go_ret
            exact ⟨by rw [hr.out]; rfl, hE⟩
          · have gm : (a.m != 0) = true := by simpa using em
            have hr : Hid ((partsP a).isSome = false) := Lib.hid (not_right hw (by first | (simp [rightP, em]; done) | (simp [rightP, em]; omega)))
            clear hw hX hB hF hX3 hE3 hfl hne ep eq en em
            go_wp2
            go_ret
            exact ⟨by rw [hr.out]; rfl, hE⟩
        · have gn : (a.n != 0) = true := by simpa using en
          have hr : Hid ((partsP a).isSome = false) := Lib.hid (not_right hw (by first | (simp [rightP, en]; done) | (simp [rightP, en]; omega)))
          clear hw hX hB hF hX3 hE3 hfl hne ep eq en
          go_wp2
          go_ret
          exact ⟨by rw [hr.out]; rfl, hE⟩
      · have gq := emp_ne eq
        have hr : Hid ((partsP a).isSome = false) := Lib.hid (not_right hw (by first | (simp [rightP, eq]; done) | (simp [rightP, eq]; omega)))
        clear hw hX hB hF hX3 hE3 hfl hne ep eq
        go_wp2
        go_ret
        exact ⟨by rw [hr.out]; rfl, hE⟩
    · have gp := emp_ne ep
      have hr : Hid ((partsP a).isSome = false) := Lib.hid (not_right hw (by first | (simp [rightP, ep]; done) | (simp [rightP, ep]; omega)))
      clear hw hX hB hF hX3 hE3 hfl hne ep
      go_wp2
      go_ret
      exact ⟨by rw [hr.out]; rfl, hE⟩

set_option maxRecDepth 100000 in
set_option maxHeartbeats 8000000 in
theorem Right_p (a : ActP) (hf : a.fits) (w : World) (hw : needsOf a.name = some [112]) :
    Calls Tryz.prog 27 #[.agg #[.string (B a.name), .string (B a.p), .string (B a.q), .int .i64 a.n, .int .i64 a.m]] w fun e w' => e = .returned (.bool (partsP a).isSome) ∧ Ext w w' := by
  have HN : ∀ w', Calls Tryz.prog 24 #[.string (B a.name)] w' fun e w'' => e = .returned (.tuple #[.string ⟨#[112]⟩, .bool true]) ∧ Ext w' w'' := fun w' => (Needs_ref a.name w').mono fun e w'' h => by
    rw [NeedsPost, needV, hw] at h
    exact h
  go_enter Tryz.func27, Tryz.ntmps27
  go_upto_region 1 with (fail)
  have hX := Blk.new w 44 #[.string (B a.name), .string (B a.p), .string (B a.q), .int .i64 a.n, .int .i64 a.m]
  have hE1 := (Ext.refl w).alloc (.cells #[.string (B a.name), .string (B a.p), .string (B a.q), .int .i64 a.n, .int .i64 a.m] 44)
  have hxl : w.heap.size ≤ w.heap.size := Nat.le_refl _
  obtain ⟨xb, hxb⟩ : ∃ xb, w.heap.size = xb := ⟨_, rfl⟩
  rw [hxb] at hX ⊢
  clear hxb hxl
  generalize w.alloc (.cells #[.string (B a.name), .string (B a.p), .string (B a.q), .int .i64 a.n, .int .i64 a.m] 44) = W1 at hX hE1 ⊢
  obtain ⟨⟨x0, _⟩, ⟨x1, _⟩, ⟨x2, _⟩, ⟨x3, _⟩, ⟨x4, _⟩⟩ := hX.five
  have HN1 := HN W1
  clear HN
  go_upto_region 2 with (go_at_call 24; refine HN1.mono ?_; rintro e W2 ⟨rfl, hE2⟩)
  replace hX := hX.ext hE2
  replace hE1 := hE1.trans hE2
  clear x0 x1 x2 x3 x4 HN1
  go_upto_region 3 with (fail)
  have hF := Blk.new W2 113 #[.bool false, .bool false, .bool false, .bool false]
  have hX3 := hX.ext ((Ext.refl W2).alloc (.cells #[.bool false, .bool false, .bool false, .bool false] 113))
  have hE3 := hE1.alloc (.cells #[.bool false, .bool false, .bool false, .bool false] 113)
  have hfl : w.heap.size ≤ W2.heap.size := hE1.size
  have hne : xb ≠ W2.heap.size := Nat.ne_of_lt hX.lt
  obtain ⟨fb, hfb⟩ : ∃ fb, W2.heap.size = fb := ⟨_, rfl⟩
  rw [hfb] at hF hfl hne ⊢
  clear hfb hX hE1 hE2
  generalize W2.alloc (.cells #[.bool false, .bool false, .bool false, .bool false] 113) = W3 at hF hX3 hE3 ⊢
  go_wp2
  go_loopw [6] (fun i wx => Blk wx xb 44 #[.string (B a.name), .string (B a.p), .string (B a.q), .int .i64 a.n, .int .i64 a.m] ∧ Ext w wx ∧ ((i = .int .i64 0 ∧ Blk wx fb 113 #[.bool false, .bool false, .bool false, .bool false]) ∨ (i = .int .i64 1 ∧ Blk wx fb 113 #[.bool true, .bool false, .bool false, .bool false]))) (fun i _ => 1 - (intOf i).toNat)
  case atStart => exact ⟨hX3, hE3, .inl ⟨rfl, hF⟩⟩
  case round =>
    obtain ⟨hX, hE, hk⟩ := hrel
    rcases hk with ⟨rfl, hB⟩ | ⟨rfl, hB⟩
    · obtain ⟨⟨f0, k0⟩, ⟨f1, k1⟩, ⟨f2, k2⟩, ⟨f3, k3⟩⟩ := hB.four
      go_wp2
      obtain ⟨r1, r2, r3⟩ := flag_store hE hB hX hfl hne (.bool true) (.bool false) (.bool false) (.bool false)
      exact ⟨⟨r2, r3, .inr (⟨rfl, r1⟩)⟩, by simp [intOf]⟩
    · obtain ⟨⟨f0, _⟩, ⟨f1, _⟩, ⟨f2, _⟩, ⟨f3, _⟩⟩ := hB.four
      obtain ⟨⟨x0, _⟩, ⟨x1, _⟩, ⟨x2, _⟩, ⟨x3, _⟩, ⟨x4, _⟩⟩ := hX.five
      have HW1 := fun w => Word_ref (B a.p) (by rw [size_B]; exact Nat.le_trans hf.p (by decide)) w
      have HW2 := fun w => Word_ref (B a.q) (by rw [size_B]; exact Nat.le_trans hf.q (by decide)) w
      rw [toList_B] at HW1 HW2
      obtain ⟨_, _, _, n0, n1, m0, m1⟩ := hf
      by_cases ep : a.p = []
      · have gp := emp_eq ep
        have hr : Hid ((partsP a).isSome = false) := Lib.hid (not_right hw (by first | (simp [rightP, ep, word_emp]; done) | (simp [rightP, ep, word_emp]; omega)))
        clear hw hX hB hF hX3 hE3 hfl hne ep
        go_wp2
        go_ret
        exact ⟨by rw [hr.out]; rfl, hE⟩
      · have gp := emp_ne ep
        by_cases eq : a.q = []
        · have gq := emp_eq eq
          by_cases en : a.n = 0
          · have gn : (a.n != 0) = false := by simpa using en
            have ln : 0 ≤ a.n := by omega
            have un : a.n ≤ 9999 := by omega
            by_cases em : a.m = 0
            · have gm : (a.m != 0) = false := by simpa using em
              have lm : 0 ≤ a.m := by omega
              have um : a.m ≤ 9999 := by omega
              cases hp : wordP a.p with
              | false =>
                rw [hp] at HW1
                have hr : Hid ((partsP a).isSome = false) := Lib.hid (not_right hw (by first | (simp [rightP, hp]; done) | (simp [rightP, hp]; omega)))
                clear hw hX hB hF hX3 hE3 hfl hne ep eq en em hp
                go_wp2_with ((go_at_call 50; with_reducible refine (HW1 _).mono ?_; rintro e V ⟨rfl, rfl⟩))
                go_ret
                exact ⟨by rw [hr.out]; rfl, hE⟩
              | true =>
                rw [hp] at HW1
                have hr : Hid ((partsP a).isSome = true) := Lib.hid (is_right hw (by first | (simp [rightP, eq, en, em, hp]; done) | (simp [rightP, eq, en, em, hp]; omega)))
                clear hw hX hB hF hX3 hE3 hfl hne ep eq en em hp
                go_wp2_with ((go_at_call 50; with_reducible refine (HW1 _).mono ?_; rintro e V ⟨rfl, rfl⟩))
                go_ret
                exact ⟨by rw [hr.out]; rfl, hE⟩
            · have gm : (a.m != 0) = true := by simpa using em
              have hr : Hid ((partsP a).isSome = false) := Lib.hid (not_right hw (by first | (simp [rightP, em]; done) | (simp [rightP, em]; omega)))
              clear hw hX hB hF hX3 hE3 hfl hne ep eq en em
              go_wp2
              go_ret
              exact ⟨by rw [hr.out]; rfl, hE⟩
          · have gn : (a.n != 0) = true := by simpa using en
            have hr : Hid ((partsP a).isSome = false) := Lib.hid (not_right hw (by first | (simp [rightP, en]; done) | (simp [rightP, en]; omega)))
            clear hw hX hB hF hX3 hE3 hfl hne ep eq en
            go_wp2
            go_ret
            exact ⟨by rw [hr.out]; rfl, hE⟩
        · have gq := emp_ne eq
          have hr : Hid ((partsP a).isSome = false) := Lib.hid (not_right hw (by first | (simp [rightP, eq]; done) | (simp [rightP, eq]; omega)))
          clear hw hX hB hF hX3 hE3 hfl hne ep eq
          go_wp2
          go_ret
          exact ⟨by rw [hr.out]; rfl, hE⟩

set_option maxRecDepth 100000 in
set_option maxHeartbeats 8000000 in
theorem Right_pq (a : ActP) (hf : a.fits) (w : World) (hw : needsOf a.name = some [112, 113]) :
    Calls Tryz.prog 27 #[.agg #[.string (B a.name), .string (B a.p), .string (B a.q), .int .i64 a.n, .int .i64 a.m]] w fun e w' => e = .returned (.bool (partsP a).isSome) ∧ Ext w w' := by
  have HN : ∀ w', Calls Tryz.prog 24 #[.string (B a.name)] w' fun e w'' => e = .returned (.tuple #[.string ⟨#[112, 113]⟩, .bool true]) ∧ Ext w' w'' := fun w' => (Needs_ref a.name w').mono fun e w'' h => by
    rw [NeedsPost, needV, hw] at h
    exact h
  go_enter Tryz.func27, Tryz.ntmps27
  go_upto_region 1 with (fail)
  have hX := Blk.new w 44 #[.string (B a.name), .string (B a.p), .string (B a.q), .int .i64 a.n, .int .i64 a.m]
  have hE1 := (Ext.refl w).alloc (.cells #[.string (B a.name), .string (B a.p), .string (B a.q), .int .i64 a.n, .int .i64 a.m] 44)
  have hxl : w.heap.size ≤ w.heap.size := Nat.le_refl _
  obtain ⟨xb, hxb⟩ : ∃ xb, w.heap.size = xb := ⟨_, rfl⟩
  rw [hxb] at hX ⊢
  clear hxb hxl
  generalize w.alloc (.cells #[.string (B a.name), .string (B a.p), .string (B a.q), .int .i64 a.n, .int .i64 a.m] 44) = W1 at hX hE1 ⊢
  obtain ⟨⟨x0, _⟩, ⟨x1, _⟩, ⟨x2, _⟩, ⟨x3, _⟩, ⟨x4, _⟩⟩ := hX.five
  have HN1 := HN W1
  clear HN
  go_upto_region 2 with (go_at_call 24; refine HN1.mono ?_; rintro e W2 ⟨rfl, hE2⟩)
  replace hX := hX.ext hE2
  replace hE1 := hE1.trans hE2
  clear x0 x1 x2 x3 x4 HN1
  go_upto_region 3 with (fail)
  have hF := Blk.new W2 113 #[.bool false, .bool false, .bool false, .bool false]
  have hX3 := hX.ext ((Ext.refl W2).alloc (.cells #[.bool false, .bool false, .bool false, .bool false] 113))
  have hE3 := hE1.alloc (.cells #[.bool false, .bool false, .bool false, .bool false] 113)
  have hfl : w.heap.size ≤ W2.heap.size := hE1.size
  have hne : xb ≠ W2.heap.size := Nat.ne_of_lt hX.lt
  obtain ⟨fb, hfb⟩ : ∃ fb, W2.heap.size = fb := ⟨_, rfl⟩
  rw [hfb] at hF hfl hne ⊢
  clear hfb hX hE1 hE2
  generalize W2.alloc (.cells #[.bool false, .bool false, .bool false, .bool false] 113) = W3 at hF hX3 hE3 ⊢
  go_wp2
  go_loopw [6] (fun i wx => Blk wx xb 44 #[.string (B a.name), .string (B a.p), .string (B a.q), .int .i64 a.n, .int .i64 a.m] ∧ Ext w wx ∧ ((i = .int .i64 0 ∧ Blk wx fb 113 #[.bool false, .bool false, .bool false, .bool false]) ∨ (i = .int .i64 1 ∧ Blk wx fb 113 #[.bool true, .bool false, .bool false, .bool false]) ∨ (i = .int .i64 2 ∧ Blk wx fb 113 #[.bool true, .bool true, .bool false, .bool false]))) (fun i _ => 2 - (intOf i).toNat)
  case atStart => exact ⟨hX3, hE3, .inl ⟨rfl, hF⟩⟩
  case round =>
    obtain ⟨hX, hE, hk⟩ := hrel
    rcases hk with ⟨rfl, hB⟩ | ⟨rfl, hB⟩ | ⟨rfl, hB⟩
    · obtain ⟨⟨f0, k0⟩, ⟨f1, k1⟩, ⟨f2, k2⟩, ⟨f3, k3⟩⟩ := hB.four
      go_wp2
      obtain ⟨r1, r2, r3⟩ := flag_store hE hB hX hfl hne (.bool true) (.bool false) (.bool false) (.bool false)
      exact ⟨⟨r2, r3, .inr (.inl ⟨rfl, r1⟩)⟩, by simp [intOf]⟩
    · obtain ⟨⟨f0, k0⟩, ⟨f1, k1⟩, ⟨f2, k2⟩, ⟨f3, k3⟩⟩ := hB.four
      go_wp2
      obtain ⟨r1, r2, r3⟩ := flag_store hE hB hX hfl hne (.bool true) (.bool true) (.bool false) (.bool false)
      exact ⟨⟨r2, r3, .inr (.inr (⟨rfl, r1⟩))⟩, by simp [intOf]⟩
    · obtain ⟨⟨f0, _⟩, ⟨f1, _⟩, ⟨f2, _⟩, ⟨f3, _⟩⟩ := hB.four
      obtain ⟨⟨x0, _⟩, ⟨x1, _⟩, ⟨x2, _⟩, ⟨x3, _⟩, ⟨x4, _⟩⟩ := hX.five
      have HW1 := fun w => Word_ref (B a.p) (by rw [size_B]; exact Nat.le_trans hf.p (by decide)) w
      have HW2 := fun w => Word_ref (B a.q) (by rw [size_B]; exact Nat.le_trans hf.q (by decide)) w
      rw [toList_B] at HW1 HW2
      obtain ⟨_, _, _, n0, n1, m0, m1⟩ := hf
      by_cases ep : a.p = []
      · have gp := emp_eq ep
        have hr : Hid ((partsP a).isSome = false) := Lib.hid (not_right hw (by first | (simp [rightP, ep, word_emp]; done) | (simp [rightP, ep, word_emp]; omega)))
        clear hw hX hB hF hX3 hE3 hfl hne ep
        go_wp2
        go_ret
        exact ⟨by rw [hr.out]; rfl, hE⟩
      · have gp := emp_ne ep
        by_cases eq : a.q = []
        · have gq := emp_eq eq
          have hr : Hid ((partsP a).isSome = false) := Lib.hid (not_right hw (by first | (simp [rightP, eq, word_emp]; done) | (simp [rightP, eq, word_emp]; omega)))
          clear hw hX hB hF hX3 hE3 hfl hne ep eq
          go_wp2
          go_ret
          exact ⟨by rw [hr.out]; rfl, hE⟩
        · have gq := emp_ne eq
          by_cases en : a.n = 0
          · have gn : (a.n != 0) = false := by simpa using en
            have ln : 0 ≤ a.n := by omega
            have un : a.n ≤ 9999 := by omega
            by_cases em : a.m = 0
            · have gm : (a.m != 0) = false := by simpa using em
              have lm : 0 ≤ a.m := by omega
              have um : a.m ≤ 9999 := by omega
              cases hp : wordP a.p with
              | false =>
                rw [hp] at HW1
                have hr : Hid ((partsP a).isSome = false) := Lib.hid (not_right hw (by first | (simp [rightP, hp]; done) | (simp [rightP, hp]; omega)))
                clear hw hX hB hF hX3 hE3 hfl hne ep eq en em hp
                go_wp2_with ((go_at_call 50; with_reducible refine (HW1 _).mono ?_; rintro e V ⟨rfl, rfl⟩))
                go_ret
                exact ⟨by rw [hr.out]; rfl, hE⟩
              | true =>
                rw [hp] at HW1
                cases hq : wordP a.q with
                | false =>
                  rw [hq] at HW2
                  have hr : Hid ((partsP a).isSome = false) := Lib.hid (not_right hw (by first | (simp [rightP, hq]; done) | (simp [rightP, hq]; omega)))
                  clear hw hX hB hF hX3 hE3 hfl hne ep eq en em hp hq
                  go_wp2_with (first | (go_at_call 50; with_reducible refine (HW1 _).mono ?_; rintro e V ⟨rfl, rfl⟩) | (go_at_call 50; with_reducible refine (HW2 _).mono ?_; rintro e V ⟨rfl, rfl⟩))
                  go_ret
                  exact ⟨by rw [hr.out]; rfl, hE⟩
                | true =>
                  rw [hq] at HW2
                  have hr : Hid ((partsP a).isSome = true) := Lib.hid (is_right hw (by first | (simp [rightP, en, em, hp, hq]; done) | (simp [rightP, en, em, hp, hq]; omega)))
                  clear hw hX hB hF hX3 hE3 hfl hne ep eq en em hp hq
                  go_wp2_with (first | (go_at_call 50; with_reducible refine (HW1 _).mono ?_; rintro e V ⟨rfl, rfl⟩) | (go_at_call 50; with_reducible refine (HW2 _).mono ?_; rintro e V ⟨rfl, rfl⟩))
                  go_ret
                  exact ⟨by rw [hr.out]; rfl, hE⟩
            · have gm : (a.m != 0) = true := by simpa using em
              have hr : Hid ((partsP a).isSome = false) := Lib.hid (not_right hw (by first | (simp [rightP, em]; done) | (simp [rightP, em]; omega)))
              clear hw hX hB hF hX3 hE3 hfl hne ep eq en em
              go_wp2
              go_ret
              exact ⟨by rw [hr.out]; rfl, hE⟩
          · have gn : (a.n != 0) = true := by simpa using en
            have hr : Hid ((partsP a).isSome = false) := Lib.hid (not_right hw (by first | (simp [rightP, en]; done) | (simp [rightP, en]; omega)))
            clear hw hX hB hF hX3 hE3 hfl hne ep eq en
            go_wp2
            go_ret
            exact ⟨by rw [hr.out]; rfl, hE⟩

set_option maxRecDepth 100000 in
set_option maxHeartbeats 8000000 in
theorem Right_pnq (a : ActP) (hf : a.fits) (w : World) (hw : needsOf a.name = some [112, 110, 113]) :
    Calls Tryz.prog 27 #[.agg #[.string (B a.name), .string (B a.p), .string (B a.q), .int .i64 a.n, .int .i64 a.m]] w fun e w' => e = .returned (.bool (partsP a).isSome) ∧ Ext w w' := by
  have HN : ∀ w', Calls Tryz.prog 24 #[.string (B a.name)] w' fun e w'' => e = .returned (.tuple #[.string ⟨#[112, 110, 113]⟩, .bool true]) ∧ Ext w' w'' := fun w' => (Needs_ref a.name w').mono fun e w'' h => by
    rw [NeedsPost, needV, hw] at h
    exact h
  go_enter Tryz.func27, Tryz.ntmps27
  go_upto_region 1 with (fail)
  have hX := Blk.new w 44 #[.string (B a.name), .string (B a.p), .string (B a.q), .int .i64 a.n, .int .i64 a.m]
  have hE1 := (Ext.refl w).alloc (.cells #[.string (B a.name), .string (B a.p), .string (B a.q), .int .i64 a.n, .int .i64 a.m] 44)
  have hxl : w.heap.size ≤ w.heap.size := Nat.le_refl _
  obtain ⟨xb, hxb⟩ : ∃ xb, w.heap.size = xb := ⟨_, rfl⟩
  rw [hxb] at hX ⊢
  clear hxb hxl
  generalize w.alloc (.cells #[.string (B a.name), .string (B a.p), .string (B a.q), .int .i64 a.n, .int .i64 a.m] 44) = W1 at hX hE1 ⊢
  obtain ⟨⟨x0, _⟩, ⟨x1, _⟩, ⟨x2, _⟩, ⟨x3, _⟩, ⟨x4, _⟩⟩ := hX.five
  have HN1 := HN W1
  clear HN
  go_upto_region 2 with (go_at_call 24; refine HN1.mono ?_; rintro e W2 ⟨rfl, hE2⟩)
  replace hX := hX.ext hE2
  replace hE1 := hE1.trans hE2
  clear x0 x1 x2 x3 x4 HN1
  go_upto_region 3 with (fail)
  have hF := Blk.new W2 113 #[.bool false, .bool false, .bool false, .bool false]
  have hX3 := hX.ext ((Ext.refl W2).alloc (.cells #[.bool false, .bool false, .bool false, .bool false] 113))
  have hE3 := hE1.alloc (.cells #[.bool false, .bool false, .bool false, .bool false] 113)
  have hfl : w.heap.size ≤ W2.heap.size := hE1.size
  have hne : xb ≠ W2.heap.size := Nat.ne_of_lt hX.lt
  obtain ⟨fb, hfb⟩ : ∃ fb, W2.heap.size = fb := ⟨_, rfl⟩
  rw [hfb] at hF hfl hne ⊢
  clear hfb hX hE1 hE2
  generalize W2.alloc (.cells #[.bool false, .bool false, .bool false, .bool false] 113) = W3 at hF hX3 hE3 ⊢
  go_wp2
  go_loopw [6] (fun i wx => Blk wx xb 44 #[.string (B a.name), .string (B a.p), .string (B a.q), .int .i64 a.n, .int .i64 a.m] ∧ Ext w wx ∧ ((i = .int .i64 0 ∧ Blk wx fb 113 #[.bool false, .bool false, .bool false, .bool false]) ∨ (i = .int .i64 1 ∧ Blk wx fb 113 #[.bool true, .bool false, .bool false, .bool false]) ∨ (i = .int .i64 2 ∧ Blk wx fb 113 #[.bool true, .bool false, .bool true, .bool false]) ∨ (i = .int .i64 3 ∧ Blk wx fb 113 #[.bool true, .bool true, .bool true, .bool false]))) (fun i _ => 3 - (intOf i).toNat)
  case atStart => exact ⟨hX3, hE3, .inl ⟨rfl, hF⟩⟩
  case round =>
    obtain ⟨hX, hE, hk⟩ := hrel
    rcases hk with ⟨rfl, hB⟩ | ⟨rfl, hB⟩ | ⟨rfl, hB⟩ | ⟨rfl, hB⟩
    · obtain ⟨⟨f0, k0⟩, ⟨f1, k1⟩, ⟨f2, k2⟩, ⟨f3, k3⟩⟩ := hB.four
      go_wp2
      obtain ⟨r1, r2, r3⟩ := flag_store hE hB hX hfl hne (.bool true) (.bool false) (.bool false) (.bool false)
      exact ⟨⟨r2, r3, .inr (.inl ⟨rfl, r1⟩)⟩, by simp [intOf]⟩
    · obtain ⟨⟨f0, k0⟩, ⟨f1, k1⟩, ⟨f2, k2⟩, ⟨f3, k3⟩⟩ := hB.four
      go_wp2
      obtain ⟨r1, r2, r3⟩ := flag_store hE hB hX hfl hne (.bool true) (.bool false) (.bool true) (.bool false)
      exact ⟨⟨r2, r3, .inr (.inr (.inl ⟨rfl, r1⟩))⟩, by simp [intOf]⟩
    · obtain ⟨⟨f0, k0⟩, ⟨f1, k1⟩, ⟨f2, k2⟩, ⟨f3, k3⟩⟩ := hB.four
      go_wp2
      obtain ⟨r1, r2, r3⟩ := flag_store hE hB hX hfl hne (.bool true) (.bool true) (.bool true) (.bool false)
      exact ⟨⟨r2, r3, .inr (.inr (.inr (⟨rfl, r1⟩)))⟩, by simp [intOf]⟩
    · obtain ⟨⟨f0, _⟩, ⟨f1, _⟩, ⟨f2, _⟩, ⟨f3, _⟩⟩ := hB.four
      obtain ⟨⟨x0, _⟩, ⟨x1, _⟩, ⟨x2, _⟩, ⟨x3, _⟩, ⟨x4, _⟩⟩ := hX.five
      have HW1 := fun w => Word_ref (B a.p) (by rw [size_B]; exact Nat.le_trans hf.p (by decide)) w
      have HW2 := fun w => Word_ref (B a.q) (by rw [size_B]; exact Nat.le_trans hf.q (by decide)) w
      rw [toList_B] at HW1 HW2
      obtain ⟨_, _, _, n0, n1, m0, m1⟩ := hf
      by_cases ep : a.p = []
      · have gp := emp_eq ep
        have hr : Hid ((partsP a).isSome = false) := Lib.hid (not_right hw (by first | (simp [rightP, ep, word_emp]; done) | (simp [rightP, ep, word_emp]; omega)))
        clear hw hX hB hF hX3 hE3 hfl hne ep
        go_wp2
        go_ret
        exact ⟨by rw [hr.out]; rfl, hE⟩
      · have gp := emp_ne ep
        by_cases eq : a.q = []
        · have gq := emp_eq eq
          have hr : Hid ((partsP a).isSome = false) := Lib.hid (not_right hw (by first | (simp [rightP, eq, word_emp]; done) | (simp [rightP, eq, word_emp]; omega)))
          clear hw hX hB hF hX3 hE3 hfl hne ep eq
          go_wp2
          go_ret
          exact ⟨by rw [hr.out]; rfl, hE⟩
        · have gq := emp_ne eq
          by_cases em : a.m = 0
          · have gm : (a.m != 0) = false := by simpa using em
            have lm : 0 ≤ a.m := by omega
            have um : a.m ≤ 9999 := by omega
            cases hp : wordP a.p with
            | false =>
              rw [hp] at HW1
              have hr : Hid ((partsP a).isSome = false) := Lib.hid (not_right hw (by first | (simp [rightP, hp]; done) | (simp [rightP, hp]; omega)))
              clear hw hX hB hF hX3 hE3 hfl hne ep eq em hp
              go_wp2_with ((go_at_call 50; with_reducible refine (HW1 _).mono ?_; rintro e V ⟨rfl, rfl⟩))
              go_ret
              exact ⟨by rw [hr.out]; rfl, hE⟩
            | true =>
              rw [hp] at HW1
              cases hq : wordP a.q with
              | false =>
                rw [hq] at HW2
                have hr : Hid ((partsP a).isSome = false) := Lib.hid (not_right hw (by first | (simp [rightP, hq]; done) | (simp [rightP, hq]; omega)))
                clear hw hX hB hF hX3 hE3 hfl hne ep eq em hp hq
                go_wp2_with (first | (go_at_call 50; with_reducible refine (HW1 _).mono ?_; rintro e V ⟨rfl, rfl⟩) | (go_at_call 50; with_reducible refine (HW2 _).mono ?_; rintro e V ⟨rfl, rfl⟩))
                go_ret
                exact ⟨by rw [hr.out]; rfl, hE⟩
              | true =>
                rw [hq] at HW2
                by_cases ln : 0 ≤ a.n
                · by_cases un : a.n ≤ 9999
                  · have _ := un
                    have hr : Hid ((partsP a).isSome = true) := Lib.hid (is_right hw (by first | (simp [rightP, em, hp, hq, ln, un]; done) | (simp [rightP, em, hp, hq, ln, un]; omega)))
                    clear hw hX hB hF hX3 hE3 hfl hne ep eq em hp hq
                    go_wp2_with (first | (go_at_call 50; with_reducible refine (HW1 _).mono ?_; rintro e V ⟨rfl, rfl⟩) | (go_at_call 50; with_reducible refine (HW2 _).mono ?_; rintro e V ⟨rfl, rfl⟩))
                    go_ret
                    exact ⟨by rw [hr.out]; rfl, hE⟩
                  · have _ := un
                    have hr : Hid ((partsP a).isSome = false) := Lib.hid (not_right hw (by first | (simp [rightP, ln, un]; done) | (simp [rightP, ln, un]; omega)))
                    clear hw hX hB hF hX3 hE3 hfl hne ep eq em hp hq
                    go_wp2_with (first | (go_at_call 50; with_reducible refine (HW1 _).mono ?_; rintro e V ⟨rfl, rfl⟩) | (go_at_call 50; with_reducible refine (HW2 _).mono ?_; rintro e V ⟨rfl, rfl⟩))
                    go_ret
                    exact ⟨by rw [hr.out]; rfl, hE⟩
                · have _ := ln
                  have hr : Hid ((partsP a).isSome = false) := Lib.hid (not_right hw (by first | (simp [rightP, ln]; done) | (simp [rightP, ln]; omega)))
                  clear hw hX hB hF hX3 hE3 hfl hne ep eq em hp hq
                  go_wp2_with (first | (go_at_call 50; with_reducible refine (HW1 _).mono ?_; rintro e V ⟨rfl, rfl⟩) | (go_at_call 50; with_reducible refine (HW2 _).mono ?_; rintro e V ⟨rfl, rfl⟩))
                  go_ret
                  exact ⟨by rw [hr.out]; rfl, hE⟩
          · have gm : (a.m != 0) = true := by simpa using em
            have hr : Hid ((partsP a).isSome = false) := Lib.hid (not_right hw (by first | (simp [rightP, em]; done) | (simp [rightP, em]; omega)))
            clear hw hX hB hF hX3 hE3 hfl hne ep eq em
            go_wp2
            go_ret
            exact ⟨by rw [hr.out]; rfl, hE⟩

set_option maxRecDepth 100000 in
set_option maxHeartbeats 8000000 in
theorem Right_pn (a : ActP) (hf : a.fits) (w : World) (hw : needsOf a.name = some [112, 110]) :
    Calls Tryz.prog 27 #[.agg #[.string (B a.name), .string (B a.p), .string (B a.q), .int .i64 a.n, .int .i64 a.m]] w fun e w' => e = .returned (.bool (partsP a).isSome) ∧ Ext w w' := by
  have HN : ∀ w', Calls Tryz.prog 24 #[.string (B a.name)] w' fun e w'' => e = .returned (.tuple #[.string ⟨#[112, 110]⟩, .bool true]) ∧ Ext w' w'' := fun w' => (Needs_ref a.name w').mono fun e w'' h => by
    rw [NeedsPost, needV, hw] at h
    exact h
  go_enter Tryz.func27, Tryz.ntmps27
  go_upto_region 1 with (fail)
  have hX := Blk.new w 44 #[.string (B a.name), .string (B a.p), .string (B a.q), .int .i64 a.n, .int .i64 a.m]
  have hE1 := (Ext.refl w).alloc (.cells #[.string (B a.name), .string (B a.p), .string (B a.q), .int .i64 a.n, .int .i64 a.m] 44)
  have hxl : w.heap.size ≤ w.heap.size := Nat.le_refl _
  obtain ⟨xb, hxb⟩ : ∃ xb, w.heap.size = xb := ⟨_, rfl⟩
  rw [hxb] at hX ⊢
  clear hxb hxl
  generalize w.alloc (.cells #[.string (B a.name), .string (B a.p), .string (B a.q), .int .i64 a.n, .int .i64 a.m] 44) = W1 at hX hE1 ⊢
  obtain ⟨⟨x0, _⟩, ⟨x1, _⟩, ⟨x2, _⟩, ⟨x3, _⟩, ⟨x4, _⟩⟩ := hX.five
  have HN1 := HN W1
  clear HN
  go_upto_region 2 with (go_at_call 24; refine HN1.mono ?_; rintro e W2 ⟨rfl, hE2⟩)
  replace hX := hX.ext hE2
  replace hE1 := hE1.trans hE2
  clear x0 x1 x2 x3 x4 HN1
  go_upto_region 3 with (fail)
  have hF := Blk.new W2 113 #[.bool false, .bool false, .bool false, .bool false]
  have hX3 := hX.ext ((Ext.refl W2).alloc (.cells #[.bool false, .bool false, .bool false, .bool false] 113))
  have hE3 := hE1.alloc (.cells #[.bool false, .bool false, .bool false, .bool false] 113)
  have hfl : w.heap.size ≤ W2.heap.size := hE1.size
  have hne : xb ≠ W2.heap.size := Nat.ne_of_lt hX.lt
  obtain ⟨fb, hfb⟩ : ∃ fb, W2.heap.size = fb := ⟨_, rfl⟩
  rw [hfb] at hF hfl hne ⊢
  clear hfb hX hE1 hE2
  generalize W2.alloc (.cells #[.bool false, .bool false, .bool false, .bool false] 113) = W3 at hF hX3 hE3 ⊢
  go_wp2
  go_loopw [6] (fun i wx => Blk wx xb 44 #[.string (B a.name), .string (B a.p), .string (B a.q), .int .i64 a.n, .int .i64 a.m] ∧ Ext w wx ∧ ((i = .int .i64 0 ∧ Blk wx fb 113 #[.bool false, .bool false, .bool false, .bool false]) ∨ (i = .int .i64 1 ∧ Blk wx fb 113 #[.bool true, .bool false, .bool false, .bool false]) ∨ (i = .int .i64 2 ∧ Blk wx fb 113 #[.bool true, .bool false, .bool true, .bool false]))) (fun i _ => 2 - (intOf i).toNat)
  case atStart => exact ⟨hX3, hE3, .inl ⟨rfl, hF⟩⟩
  case round =>
    obtain ⟨hX, hE, hk⟩ := hrel
    rcases hk with ⟨rfl, hB⟩ | ⟨rfl, hB⟩ | ⟨rfl, hB⟩
    · obtain ⟨⟨f0, k0⟩, ⟨f1, k1⟩, ⟨f2, k2⟩, ⟨f3, k3⟩⟩ := hB.four
      go_wp2
      obtain ⟨r1, r2, r3⟩ := flag_store hE hB hX hfl hne (.bool true) (.bool false) (.bool false) (.bool false)
      exact ⟨⟨r2, r3, .inr (.inl ⟨rfl, r1⟩)⟩, by simp [intOf]⟩
    · obtain ⟨⟨f0, k0⟩, ⟨f1, k1⟩, ⟨f2, k2⟩, ⟨f3, k3⟩⟩ := hB.four
      go_wp2
      obtain ⟨r1, r2, r3⟩ := flag_store hE hB hX hfl hne (.bool true) (.bool false) (.bool true) (.bool false)
      exact ⟨⟨r2, r3, .inr (.inr (⟨rfl, r1⟩))⟩, by simp [intOf]⟩
    · obtain ⟨⟨f0, _⟩, ⟨f1, _⟩, ⟨f2, _⟩, ⟨f3, _⟩⟩ := hB.four
      obtain ⟨⟨x0, _⟩, ⟨x1, _⟩, ⟨x2, _⟩, ⟨x3, _⟩, ⟨x4, _⟩⟩ := hX.five
      have HW1 := fun w => Word_ref (B a.p) (by rw [size_B]; exact Nat.le_trans hf.p (by decide)) w
      have HW2 := fun w => Word_ref (B a.q) (by rw [size_B]; exact Nat.le_trans hf.q (by decide)) w
      rw [toList_B] at HW1 HW2
      obtain ⟨_, _, _, n0, n1, m0, m1⟩ := hf
      by_cases ep : a.p = []
      · have gp := emp_eq ep
        have hr : Hid ((partsP a).isSome = false) := Lib.hid (not_right hw (by first | (simp [rightP, ep, word_emp]; done) | (simp [rightP, ep, word_emp]; omega)))
        clear hw hX hB hF hX3 hE3 hfl hne ep
        go_wp2
        go_ret
        exact ⟨by rw [hr.out]; rfl, hE⟩
      · have gp := emp_ne ep
        by_cases eq : a.q = []
        · have gq := emp_eq eq
          by_cases em : a.m = 0
          · have gm : (a.m != 0) = false := by simpa using em
            have lm : 0 ≤ a.m := by omega
            have um : a.m ≤ 9999 := by omega
            cases hp : wordP a.p with
            | false =>
              rw [hp] at HW1
              have hr : Hid ((partsP a).isSome = false) := Lib.hid (not_right hw (by first | (simp [rightP, hp]; done) | (simp [rightP, hp]; omega)))
              clear hw hX hB hF hX3 hE3 hfl hne ep eq em hp
              go_wp2_with ((go_at_call 50; with_reducible refine (HW1 _).mono ?_; rintro e V ⟨rfl, rfl⟩))
              go_ret
              exact ⟨by rw [hr.out]; rfl, hE⟩
            | true =>
              rw [hp] at HW1
              by_cases ln : 0 ≤ a.n
              · by_cases un : a.n ≤ 9999
                · have _ := un
                  have hr : Hid ((partsP a).isSome = true) := Lib.hid (is_right hw (by first | (simp [rightP, eq, em, hp, ln, un]; done) | (simp [rightP, eq, em, hp, ln, un]; omega)))
                  clear hw hX hB hF hX3 hE3 hfl hne ep eq em hp
                  go_wp2_with ((go_at_call 50; with_reducible refine (HW1 _).mono ?_; rintro e V ⟨rfl, rfl⟩))
                  go_ret
                  exact ⟨by rw [hr.out]; rfl, hE⟩
                · have _ := un
                  have hr : Hid ((partsP a).isSome = false) := Lib.hid (not_right hw (by first | (simp [rightP, ln, un]; done) | (simp [rightP, ln, un]; omega)))
                  clear hw hX hB hF hX3 hE3 hfl hne ep eq em hp
                  go_wp2_with ((go_at_call 50; with_reducible refine (HW1 _).mono ?_; rintro e V ⟨rfl, rfl⟩))
                  go_ret
                  exact ⟨by rw [hr.out]; rfl, hE⟩
              · have _ := ln
                have hr : Hid ((partsP a).isSome = false) := Lib.hid (not_right hw (by first | (simp [rightP, ln]; done) | (simp [rightP, ln]; omega)))
                clear hw hX hB hF hX3 hE3 hfl hne ep eq em hp
                go_wp2_with ((go_at_call 50; with_reducible refine (HW1 _).mono ?_; rintro e V ⟨rfl, rfl⟩))
                go_ret
                exact ⟨by rw [hr.out]; rfl, hE⟩
          · have gm : (a.m != 0) = true := by simpa using em
            have hr : Hid ((partsP a).isSome = false) := Lib.hid (not_right hw (by first | (simp [rightP, em]; done) | (simp [rightP, em]; omega)))
            clear hw hX hB hF hX3 hE3 hfl hne ep eq em
            go_wp2
            go_ret
            exact ⟨by rw [hr.out]; rfl, hE⟩
        · have gq := emp_ne eq
          have hr : Hid ((partsP a).isSome = false) := Lib.hid (not_right hw (by first | (simp [rightP, eq]; done) | (simp [rightP, eq]; omega)))
          clear hw hX hB hF hX3 hE3 hfl hne ep eq
          go_wp2
          go_ret
          exact ⟨by rw [hr.out]; rfl, hE⟩

set_option maxRecDepth 100000 in
set_option maxHeartbeats 8000000 in
theorem Right_nm (a : ActP) (hf : a.fits) (w : World) (hw : needsOf a.name = some [110, 109]) :
    Calls Tryz.prog 27 #[.agg #[.string (B a.name), .string (B a.p), .string (B a.q), .int .i64 a.n, .int .i64 a.m]] w fun e w' => e = .returned (.bool (partsP a).isSome) ∧ Ext w w' := by
  have HN : ∀ w', Calls Tryz.prog 24 #[.string (B a.name)] w' fun e w'' => e = .returned (.tuple #[.string ⟨#[110, 109]⟩, .bool true]) ∧ Ext w' w'' := fun w' => (Needs_ref a.name w').mono fun e w'' h => by
    rw [NeedsPost, needV, hw] at h
    exact h
  go_enter Tryz.func27, Tryz.ntmps27
  go_upto_region 1 with (fail)
  have hX := Blk.new w 44 #[.string (B a.name), .string (B a.p), .string (B a.q), .int .i64 a.n, .int .i64 a.m]
  have hE1 := (Ext.refl w).alloc (.cells #[.string (B a.name), .string (B a.p), .string (B a.q), .int .i64 a.n, .int .i64 a.m] 44)
  have hxl : w.heap.size ≤ w.heap.size := Nat.le_refl _
  obtain ⟨xb, hxb⟩ : ∃ xb, w.heap.size = xb := ⟨_, rfl⟩
  rw [hxb] at hX ⊢
  clear hxb hxl
  generalize w.alloc (.cells #[.string (B a.name), .string (B a.p), .string (B a.q), .int .i64 a.n, .int .i64 a.m] 44) = W1 at hX hE1 ⊢
  obtain ⟨⟨x0, _⟩, ⟨x1, _⟩, ⟨x2, _⟩, ⟨x3, _⟩, ⟨x4, _⟩⟩ := hX.five
  have HN1 := HN W1
  clear HN
  go_upto_region 2 with (go_at_call 24; refine HN1.mono ?_; rintro e W2 ⟨rfl, hE2⟩)
  replace hX := hX.ext hE2
  replace hE1 := hE1.trans hE2
  clear x0 x1 x2 x3 x4 HN1
  go_upto_region 3 with (fail)
  have hF := Blk.new W2 113 #[.bool false, .bool false, .bool false, .bool false]
  have hX3 := hX.ext ((Ext.refl W2).alloc (.cells #[.bool false, .bool false, .bool false, .bool false] 113))
  have hE3 := hE1.alloc (.cells #[.bool false, .bool false, .bool false, .bool false] 113)
  have hfl : w.heap.size ≤ W2.heap.size := hE1.size
  have hne : xb ≠ W2.heap.size := Nat.ne_of_lt hX.lt
  obtain ⟨fb, hfb⟩ : ∃ fb, W2.heap.size = fb := ⟨_, rfl⟩
  rw [hfb] at hF hfl hne ⊢
  clear hfb hX hE1 hE2
  generalize W2.alloc (.cells #[.bool false, .bool false, .bool false, .bool false] 113) = W3 at hF hX3 hE3 ⊢
  go_wp2
  go_loopw [6] (fun i wx => Blk wx xb 44 #[.string (B a.name), .string (B a.p), .string (B a.q), .int .i64 a.n, .int .i64 a.m] ∧ Ext w wx ∧ ((i = .int .i64 0 ∧ Blk wx fb 113 #[.bool false, .bool false, .bool false, .bool false]) ∨ (i = .int .i64 1 ∧ Blk wx fb 113 #[.bool false, .bool false, .bool true, .bool false]) ∨ (i = .int .i64 2 ∧ Blk wx fb 113 #[.bool false, .bool false, .bool true, .bool true]))) (fun i _ => 2 - (intOf i).toNat)
  case atStart => exact ⟨hX3, hE3, .inl ⟨rfl, hF⟩⟩
  case round =>
    obtain ⟨hX, hE, hk⟩ := hrel
    rcases hk with ⟨rfl, hB⟩ | ⟨rfl, hB⟩ | ⟨rfl, hB⟩
    · obtain ⟨⟨f0, k0⟩, ⟨f1, k1⟩, ⟨f2, k2⟩, ⟨f3, k3⟩⟩ := hB.four
      go_wp2
      obtain ⟨r1, r2, r3⟩ := flag_store hE hB hX hfl hne (.bool false) (.bool false) (.bool true) (.bool false)
      exact ⟨⟨r2, r3, .inr (.inl ⟨rfl, r1⟩)⟩, by simp [intOf]⟩
    · obtain ⟨⟨f0, k0⟩, ⟨f1, k1⟩, ⟨f2, k2⟩, ⟨f3, k3⟩⟩ := hB.four
      go_wp2
      obtain ⟨r1, r2, r3⟩ := flag_store hE hB hX hfl hne (.bool false) (.bool false) (.bool true) (.bool true)
      exact ⟨⟨r2, r3, .inr (.inr (⟨rfl, r1⟩))⟩, by simp [intOf]⟩
    · obtain ⟨⟨f0, _⟩, ⟨f1, _⟩, ⟨f2, _⟩, ⟨f3, _⟩⟩ := hB.four
      obtain ⟨⟨x0, _⟩, ⟨x1, _⟩, ⟨x2, _⟩, ⟨x3, _⟩, ⟨x4, _⟩⟩ := hX.five
      have HW1 := fun w => Word_ref (B a.p) (by rw [size_B]; exact Nat.le_trans hf.p (by decide)) w
      have HW2 := fun w => Word_ref (B a.q) (by rw [size_B]; exact Nat.le_trans hf.q (by decide)) w
      rw [toList_B] at HW1 HW2
      obtain ⟨_, _, _, n0, n1, m0, m1⟩ := hf
      by_cases ep : a.p = []
      · have gp := emp_eq ep
        by_cases eq : a.q = []
        · have gq := emp_eq eq
          by_cases ln : 0 ≤ a.n
          · by_cases un : a.n ≤ 9999
            · have _ := un
              by_cases lm : 0 ≤ a.m
              · by_cases um : a.m ≤ 9999
                · have _ := um
                  have hr : Hid ((partsP a).isSome = true) := Lib.hid (is_right hw (by first | (simp [rightP, ep, eq, ln, un, lm, um]; done) | (simp [rightP, ep, eq, ln, un, lm, um]; omega)))
                  clear hw hX hB hF hX3 hE3 hfl hne ep eq
                  go_wp2
                  go_ret
                  exact ⟨by rw [hr.out]; rfl, hE⟩
                · have _ := um
                  have hr : Hid ((partsP a).isSome = false) := Lib.hid (not_right hw (by first | (simp [rightP, lm, um]; done) | (simp [rightP, lm, um]; omega)))
                  clear hw hX hB hF hX3 hE3 hfl hne ep eq
                  go_wp2
                  go_ret
                  exact ⟨by rw [hr.out]; rfl, hE⟩
              · have _ := lm
                have hr : Hid ((partsP a).isSome = false) := Lib.hid (not_right hw (by first | (simp [rightP, lm]; done) | (simp [rightP, lm]; omega)))
                clear hw hX hB hF hX3 hE3 hfl hne ep eq
                go_wp2
                go_ret
                exact ⟨by rw [hr.out]; rfl, hE⟩
            · have _ := un
              have hr : Hid ((partsP a).isSome = false) := Lib.hid (not_right hw (by first | (simp [rightP, ln, un]; done) | (simp [rightP, ln, un]; omega)))
              clear hw hX hB hF hX3 hE3 hfl hne ep eq
              go_wp2
              go_ret
              exact ⟨by rw [hr.out]; rfl, hE⟩
          · have _ := ln
            have hr : Hid ((partsP a).isSome = false) := Lib.hid (not_right hw (by first | (simp [rightP, ln]; done) | (simp [rightP, ln]; omega)))
            clear hw hX hB hF hX3 hE3 hfl hne ep eq
            go_wp2
            go_ret
            exact ⟨by rw [hr.out]; rfl, hE⟩
        · have gq := emp_ne eq
          have hr : Hid ((partsP a).isSome = false) := Lib.hid (not_right hw (by first | (simp [rightP, eq]; done) | (simp [rightP, eq]; omega)))
          clear hw hX hB hF hX3 hE3 hfl hne ep eq
          go_wp2
          go_ret
          exact ⟨by rw [hr.out]; rfl, hE⟩
      · have gp := emp_ne ep
        have hr : Hid ((partsP a).isSome = false) := Lib.hid (not_right hw (by first | (simp [rightP, ep]; done) | (simp [rightP, ep]; omega)))
        clear hw hX hB hF hX3 hE3 hfl hne ep
        go_wp2
        go_ret
        exact ⟨by rw [hr.out]; rfl, hE⟩

set_option maxRecDepth 100000 in
set_option maxHeartbeats 8000000 in
theorem Right_n1 (a : ActP) (hf : a.fits) (w : World) (hw : needsOf a.name = some [110]) :
    Calls Tryz.prog 27 #[.agg #[.string (B a.name), .string (B a.p), .string (B a.q), .int .i64 a.n, .int .i64 a.m]] w fun e w' => e = .returned (.bool (partsP a).isSome) ∧ Ext w w' := by
  have HN : ∀ w', Calls Tryz.prog 24 #[.string (B a.name)] w' fun e w'' => e = .returned (.tuple #[.string ⟨#[110]⟩, .bool true]) ∧ Ext w' w'' := fun w' => (Needs_ref a.name w').mono fun e w'' h => by
    rw [NeedsPost, needV, hw] at h
    exact h
  go_enter Tryz.func27, Tryz.ntmps27
  go_upto_region 1 with (fail)
  have hX := Blk.new w 44 #[.string (B a.name), .string (B a.p), .string (B a.q), .int .i64 a.n, .int .i64 a.m]
  have hE1 := (Ext.refl w).alloc (.cells #[.string (B a.name), .string (B a.p), .string (B a.q), .int .i64 a.n, .int .i64 a.m] 44)
  have hxl : w.heap.size ≤ w.heap.size := Nat.le_refl _
  obtain ⟨xb, hxb⟩ : ∃ xb, w.heap.size = xb := ⟨_, rfl⟩
  rw [hxb] at hX ⊢
  clear hxb hxl
  generalize w.alloc (.cells #[.string (B a.name), .string (B a.p), .string (B a.q), .int .i64 a.n, .int .i64 a.m] 44) = W1 at hX hE1 ⊢
  obtain ⟨⟨x0, _⟩, ⟨x1, _⟩, ⟨x2, _⟩, ⟨x3, _⟩, ⟨x4, _⟩⟩ := hX.five
  have HN1 := HN W1
  clear HN
  go_upto_region 2 with (go_at_call 24; refine HN1.mono ?_; rintro e W2 ⟨rfl, hE2⟩)
  replace hX := hX.ext hE2
  replace hE1 := hE1.trans hE2
  clear x0 x1 x2 x3 x4 HN1
  go_upto_region 3 with (fail)
  have hF := Blk.new W2 113 #[.bool false, .bool false, .bool false, .bool false]
  have hX3 := hX.ext ((Ext.refl W2).alloc (.cells #[.bool false, .bool false, .bool false, .bool false] 113))
  have hE3 := hE1.alloc (.cells #[.bool false, .bool false, .bool false, .bool false] 113)
  have hfl : w.heap.size ≤ W2.heap.size := hE1.size
  have hne : xb ≠ W2.heap.size := Nat.ne_of_lt hX.lt
  obtain ⟨fb, hfb⟩ : ∃ fb, W2.heap.size = fb := ⟨_, rfl⟩
  rw [hfb] at hF hfl hne ⊢
  clear hfb hX hE1 hE2
  generalize W2.alloc (.cells #[.bool false, .bool false, .bool false, .bool false] 113) = W3 at hF hX3 hE3 ⊢
  go_wp2
  go_loopw [6] (fun i wx => Blk wx xb 44 #[.string (B a.name), .string (B a.p), .string (B a.q), .int .i64 a.n, .int .i64 a.m] ∧ Ext w wx ∧ ((i = .int .i64 0 ∧ Blk wx fb 113 #[.bool false, .bool false, .bool false, .bool false]) ∨ (i = .int .i64 1 ∧ Blk wx fb 113 #[.bool false, .bool false, .bool true, .bool false]))) (fun i _ => 1 - (intOf i).toNat)
  case atStart => exact ⟨hX3, hE3, .inl ⟨rfl, hF⟩⟩
  case round =>
    obtain ⟨hX, hE, hk⟩ := hrel
    rcases hk with ⟨rfl, hB⟩ | ⟨rfl, hB⟩
    · obtain ⟨⟨f0, k0⟩, ⟨f1, k1⟩, ⟨f2, k2⟩, ⟨f3, k3⟩⟩ := hB.four
      go_wp2
      obtain ⟨r1, r2, r3⟩ := flag_store hE hB hX hfl hne (.bool false) (.bool false) (.bool true) (.bool false)
      exact ⟨⟨r2, r3, .inr (⟨rfl, r1⟩)⟩, by simp [intOf]⟩
    · obtain ⟨⟨f0, _⟩, ⟨f1, _⟩, ⟨f2, _⟩, ⟨f3, _⟩⟩ := hB.four
      obtain ⟨⟨x0, _⟩, ⟨x1, _⟩, ⟨x2, _⟩, ⟨x3, _⟩, ⟨x4, _⟩⟩ := hX.five
      have HW1 := fun w => Word_ref (B a.p) (by rw [size_B]; exact Nat.le_trans hf.p (by decide)) w
      have HW2 := fun w => Word_ref (B a.q) (by rw [size_B]; exact Nat.le_trans hf.q (by decide)) w
      rw [toList_B] at HW1 HW2
      obtain ⟨_, _, _, n0, n1, m0, m1⟩ := hf
      by_cases ep : a.p = []
      · have gp := emp_eq ep
        by_cases eq : a.q = []
        · have gq := emp_eq eq
          by_cases em : a.m = 0
          · have gm : (a.m != 0) = false := by simpa using em
            have lm : 0 ≤ a.m := by omega
            have um : a.m ≤ 9999 := by omega
            by_cases ln : 0 ≤ a.n
            · by_cases un : a.n ≤ 9999
              · have _ := un
                have hr : Hid ((partsP a).isSome = true) := Lib.hid (is_right hw (by first | (simp [rightP, ep, eq, em, ln, un]; done) | (simp [rightP, ep, eq, em, ln, un]; omega)))
                clear hw hX hB hF hX3 hE3 hfl hne ep eq em
                go_wp2
                go_ret
                exact ⟨by rw [hr.out]; rfl, hE⟩
              · have _ := un
                have hr : Hid ((partsP a).isSome = false) := Lib.hid (not_right hw (by first | (simp [rightP, ln, un]; done) | (simp [rightP, ln, un]; omega)))
                clear hw hX hB hF hX3 hE3 hfl hne ep eq em
                go_wp2
                go_ret
                exact ⟨by rw [hr.out]; rfl, hE⟩
            · have _ := ln
              have hr : Hid ((partsP a).isSome = false) := Lib.hid (not_right hw (by first | (simp [rightP, ln]; done) | (simp [rightP, ln]; omega)))
              clear hw hX hB hF hX3 hE3 hfl hne ep eq em
              go_wp2
              go_ret
              exact ⟨by rw [hr.out]; rfl, hE⟩
          · have gm : (a.m != 0) = true := by simpa using em
            have hr : Hid ((partsP a).isSome = false) := Lib.hid (not_right hw (by first | (simp [rightP, em]; done) | (simp [rightP, em]; omega)))
            clear hw hX hB hF hX3 hE3 hfl hne ep eq em
            go_wp2
            go_ret
            exact ⟨by rw [hr.out]; rfl, hE⟩
        · have gq := emp_ne eq
          have hr : Hid ((partsP a).isSome = false) := Lib.hid (not_right hw (by first | (simp [rightP, eq]; done) | (simp [rightP, eq]; omega)))
          clear hw hX hB hF hX3 hE3 hfl hne ep eq
          go_wp2
          go_ret
          exact ⟨by rw [hr.out]; rfl, hE⟩
      · have gp := emp_ne ep
        have hr : Hid ((partsP a).isSome = false) := Lib.hid (not_right hw (by first | (simp [rightP, ep]; done) | (simp [rightP, ep]; omega)))
        clear hw hX hB hF hX3 hE3 hfl hne ep
        go_wp2
        go_ret
        exact ⟨by rw [hr.out]; rfl, hE⟩

/-- The document's Right, for every act. -/
theorem Right_ref (a : ActP) (hf : a.fits) (w : World) :
    Calls Tryz.prog 27 #[.agg #[.string (B a.name), .string (B a.p), .string (B a.q), .int .i64 a.n, .int .i64 a.m]] w fun e w' => e = .returned (.bool (partsP a).isSome) ∧ Ext w w' := by
  cases hw : needsOf a.name with
  | none => exact Right_n a hf w hw
  | some wv =>
    rcases needs_kinds hw with rfl | rfl | rfl | rfl | rfl | rfl | rfl
    · exact Right_e a hf w hw
    · exact Right_p a hf w hw
    · exact Right_pq a hf w hw
    · exact Right_pnq a hf w hw
    · exact Right_pn a hf w hw
    · exact Right_nm a hf w hw
    · exact Right_n1 a hf w hw
end Go.Proofs.YtiomljaengonoaaGreatDoor
