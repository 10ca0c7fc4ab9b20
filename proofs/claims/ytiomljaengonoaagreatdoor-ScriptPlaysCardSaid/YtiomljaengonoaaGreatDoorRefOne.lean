/- The document's one: the act of a line. -/
import Derived.Test.YtiomljaengonoaaGreatDoorRefSplit
import Derived.Test.YtiomljaengonoaaGreatDoorRefDec
import Derived.Test.YtiomljaengonoaaGreatDoorRefNeeds
namespace Go.Proofs.YtiomljaengonoaaGreatDoor
open Go Go.RowKit Go.Shelf Go.Proofs Go.Maps

theorem Num_some {x : List UInt8} {v : Int} (h : numP x = some v) (hs : x.length ≤ 140737488355328) (w : World) :
    Calls Tryz.prog 82 #[.string (B x)] w fun e w' => e = .returned (.tuple #[.int .i64 v, .bool true]) ∧ Ext w w' := by
  refine (Number_ref (B x) (by rw [size_B]; exact hs) w).mono ?_
  rintro e w' ⟨v', ok, rfl, hn, hE⟩
  rw [toList_B, h] at hn
  cases ok with
  | false => cases hn
  | true =>
    cases hn
    exact ⟨rfl, hE⟩
theorem Num_none {x : List UInt8} (h : numP x = none) (hs : x.length ≤ 140737488355328) (w : World) :
    Calls Tryz.prog 82 #[.string (B x)] w fun e w' => ∃ v, e = .returned (.tuple #[.int .i64 v, .bool false]) ∧ Ext w w' := by
  refine (Number_ref (B x) (by rw [size_B]; exact hs) w).mono ?_
  rintro e w' ⟨v', ok, rfl, hn, hE⟩
  rw [toList_B, h] at hn
  cases ok with
  | true => cases hn
  | false => exact ⟨v', rfl, hE⟩

/-- The end of a round of 'one'. -/
theorem one_round {w W W4 : World} {s : ByteArray} {pos i ab rb : Nat} {u : Value} {A A' R : Array Value} {what : List UInt8} {qs : List (List UInt8)} {a' : ActP} {r : Option ActP} (hE : Ext W W4) (hw : Ext w W)
    (hA : Blk W ab 44 A) (hR : Blk W rb 44 R) (hp : pos < s.size) (hgo : Hid (ofGo (what.drop (pos + 1)) (qs.drop (pos + 1)) a' = r)) (hale : w.heap.size ≤ ab) (hne : rb ≠ ab)
    (hA' : A.setIfInBounds i u = A') :
    Ext w (W4.setCell ⟨ab, i, none⟩ u) ∧ Blk (W4.setCell ⟨ab, i, none⟩ u) ab 44 A' ∧ Blk (W4.setCell ⟨ab, i, none⟩ u) rb 44 R ∧ pos + 1 ≤ s.size ∧ Hid (ofGo (what.drop (pos + 1)) (qs.drop (pos + 1)) a' = r) := by
  refine ⟨(hw.trans hE).setCell (p := ⟨ab, i, none⟩) hale _, ?_, ?_, hp, hgo⟩
  · rw [← hA']
    exact (hA.ext hE).set i u
  · exact (Below.heap_setCell _ _ _ _ (by simpa using hne)).trans (hR.ext hE)

set_option maxRecDepth 100000 in
set_option maxHeartbeats 8000000 in
theorem One_ref (x : List UInt8) (hx : x.length ≤ 1000000) (w : World) :
    Calls Tryz.prog 53 #[.string (B x)] w (OfPost (ofP (segs 32 x)) w) := by
  have HS : ∀ w', Calls Tryz.prog 52 #[.string (B x), .int .u8 32] w' (SplitPost 32 x w') := fun w' => by
    have := Split_ref (B x) (by rw [size_B]; exact hx) 32 w'
    rw [toList_B] at this
    exact this
  have hsm : ∀ p ∈ segs 32 x, p.length ≤ 1000000 := fun p hp => Nat.le_trans (segs_len 32 _ _ hp) hx
  have hcount := segs_count 32 x
  obtain ⟨nm, qs, hps⟩ : ∃ nm qs, segs 32 x = nm :: qs := List.exists_cons_of_ne_nil (segs_ne 32 x)
  have Hps := Lib.hid hps
  rw [hps] at hsm hcount ⊢
  have hnm := hsm nm (.head _)
  have hql : qs.length ≤ 1000000 := by simp at hcount; omega
  have Hsm := Lib.hid hsm
  clear hsm hcount hps
  have HS2 : ∀ w', Calls Tryz.prog 52 #[.string (B x), .int .u8 32] w' fun e w'' => ∃ A c, e = .returned (.slice A (qs.length + 1) c) ∧ w''.ownsRow w'.heap.size 9 1 (.slice A (qs.length + 1) c) (qs.length + 1) ((nm :: qs).map sv) ∧ Ext w' w'' := fun w' => (HS w').mono fun e w'' h => by
    rw [SplitPost, Hps.out] at h
    exact h
  clear HS
  go_enter Tryz.func53, Tryz.ntmps53
  go_upto_region 1 with (fail)
  have hR := Blk.new w 44 #[.string ⟨#[]⟩, .string ⟨#[]⟩, .string ⟨#[]⟩, .int .i64 0, .int .i64 0]
  have hE0 := (Ext.refl w).alloc (.cells #[.string ⟨#[]⟩, .string ⟨#[]⟩, .string ⟨#[]⟩, .int .i64 0, .int .i64 0] 44)
  obtain ⟨rb, hrb⟩ : ∃ rb, w.heap.size = rb := ⟨_, rfl⟩
  have hle : w.heap.size ≤ rb := by omega
  rw [hrb] at hR ⊢
  clear hrb
  generalize w.alloc (.cells #[.string ⟨#[]⟩, .string ⟨#[]⟩, .string ⟨#[]⟩, .int .i64 0, .int .i64 0] 44) = W0 at hR hE0 ⊢
  have HS3 := HS2 W0
  clear HS2
  go_upto_region 2 with (go_at_call 52; refine HS3.mono ?_; rintro e W1 ⟨A, c, rfl, hown, hE1⟩)
  obtain ⟨g, rfl, hg⟩ := own_slice hown (by omega)
  have hcell : ∀ (j : Nat) (y : List UInt8), (nm :: qs)[j]? = some y → W1.cell? ⟨g, j, none⟩ = some (.string (B y)) := fun j y h => by
    have hj := (List.getElem?_eq_some_iff.1 h).1
    rw [hown.cellAt j (by simp at hj; omega), List.getElem?_map, h]
    rfl
  have h0 := hcell 0 nm rfl
  have hpos : (0 : Int) < (qs.length : Int) + 1 := by omega
  have Hcell := Lib.hid hcell
  replace hE0 := hE0.trans hE1
  replace hR := hR.ext hE1
  have HN := Needs_ref nm W1
  clear hcell HS3 hown hg hE1
  cases hn : needsOf nm with
  | none =>
    have HN1 : Calls Tryz.prog 24 #[.string (B nm)] W1 fun e w' => e = .returned (.tuple #[.string ⟨#[]⟩, .bool false]) ∧ Ext W1 w' := HN.mono fun e w' h => by
      rw [NeedsPost, needV, hn] at h
      exact h
    have e : Hid (ofP (nm :: qs) = none) := Lib.hid (by simp only [ofP, hn])
    clear HN hn
    go_wp2_with (go_at_call 24; refine HN1.mono ?_; rintro e W2 ⟨rfl, hE2⟩; obtain ⟨⟨r0, f0⟩, ⟨r1, f1⟩, ⟨r2, f2⟩, ⟨r3, f3⟩, ⟨r4, f4⟩⟩ := (hR.ext hE2).five)
    rw [setCell_same r0, setCell_same r1, setCell_same r2, setCell_same r3, setCell_same r4]
    refine bodyPost_ret (v := .tuple #[.agg #[.string ⟨#[]⟩, .string ⟨#[]⟩, .string ⟨#[]⟩, .int .i64 0, .int .i64 0], .bool false]) (by simp [results, Tryz.f53, go_sem, r0, r1, r2, r3, r4]) rfl ?_
    rw [e.out]
    exact ⟨rfl, hE0.trans hE2⟩
  | some what =>
    obtain ⟨hall, hl3⟩ := needs_all hn
    obtain ⟨s, hs⟩ : ∃ s, B what = s := ⟨_, rfl⟩
    have hss : s.size = what.length := by rw [← hs, size_B]
    have HN1 : Calls Tryz.prog 24 #[.string (B nm)] W1 fun e w' => e = .returned (.tuple #[.string s, .bool true]) ∧ Ext W1 w' := HN.mono fun e w' h => by
      rw [NeedsPost, needV, hn] at h
      rw [← hs]
      exact h
    have hs3 : s.size ≤ 3 := by omega
    have Hs := Lib.hid hs
    have Hn := Lib.hid hn
    have Hss := Lib.hid hss
    clear HN hn hs hss
    by_cases hq : qs.length = what.length
    · have hq' : ((qs.length : Int) + 1 != 1 + (s.size : Int)) = false := by have := Hss.out; simp; omega
      have Hq := Lib.hid hq
      clear hq
      go_upto_region 5 with (go_at_call 24; refine HN1.mono ?_; rintro e W2 ⟨rfl, hE2⟩)
      have k0 := hE2.cell h0
      go_upto_region 6 with (fail)
      have hA := Blk.new W2 44 #[.string (B nm), .string ⟨#[]⟩, .string ⟨#[]⟩, .int .i64 0, .int .i64 0]
      have hE3 : Ext W1 (W2.alloc (.cells #[.string (B nm), .string ⟨#[]⟩, .string ⟨#[]⟩, .int .i64 0, .int .i64 0] 44)) := hE2.alloc _
      obtain ⟨ab, hab⟩ : ∃ ab, W2.heap.size = ab := ⟨_, rfl⟩
      have hale : w.heap.size ≤ ab := by have := (hE0.trans hE2).size; omega
      have hal1 : W1.heap.size ≤ ab := by have := hE2.size; omega
      have hne : rb ≠ ab := by have h1 := hR.lt; have h2 := hE2.size; omega
      rw [hab] at hA ⊢
      clear hab
      generalize W2.alloc (.cells #[.string (B nm), .string ⟨#[]⟩, .string ⟨#[]⟩, .int .i64 0, .int .i64 0] 44) = W3 at hA hE3 ⊢
      have hRr := hR.ext hE3
      have hEr := hE0.trans hE3
      clear hR hE0 k0 h0 hE2 HN1
      have HE3 := Lib.hid hE3
      go_wp2
      go_loopw [8] (fun i wx => ∃ (pos : Nat) (a : ActP), i = .int .i64 pos ∧ pos ≤ s.size ∧ Ext w wx ∧ Ext W1 wx ∧ Blk wx ab 44 #[.string (B a.name), .string (B a.p), .string (B a.q), .int .i64 a.n, .int .i64 a.m] ∧ Blk wx rb 44 #[.string ⟨#[]⟩, .string ⟨#[]⟩, .string ⟨#[]⟩, .int .i64 0, .int .i64 0] ∧ Hid (ofGo (what.drop pos) (qs.drop pos) a = ofP (nm :: qs))) (fun i _ => s.size - (intOf i).toNat)
      case atStart => exact ⟨0, ⟨nm, [], [], 0, 0⟩, rfl, Nat.zero_le _, hEr, hE3, hA, hRr, Lib.hid (by simp only [ofP, Hn.out]; rw [if_pos Hq.out]; rfl)⟩
      case round =>
        obtain ⟨pos, a, rfl, hple, hE8, hE18, hA8, hR8, hgo⟩ := hrel
        by_cases hp : pos < s.size
        · have hp' : (pos : Int) < (s.size : Int) := by omega
          have hget : ∃ c, what[pos]? = some c ∧ s[pos]'hp = c := by
            have h2 : s.data.toList[pos]? = some (s[pos]'hp) := by
              rw [Array.getElem?_toList]
              exact Array.getElem?_eq_getElem hp
            have h3 : s.data.toList = what := by rw [← Hs.out, toList_B]
            rw [h3] at h2
            exact ⟨_, h2, rfl⟩
          obtain ⟨c, hc, hsc⟩ := hget
          obtain ⟨y, hy⟩ : ∃ y, qs[pos]? = some y := ⟨_, List.getElem?_eq_getElem (by have := Hq.out; have := Hss.out; omega)⟩
          have hyl : y.length ≤ 140737488355328 := Nat.le_trans (Hsm.out y (.tail _ (List.mem_of_getElem? hy))) (by omega)
          have hcb := needB_cases (List.all_eq_true.1 hall c (List.mem_of_getElem? hc))
          have hgo2 : ofGo (c :: what.drop (pos + 1)) (y :: qs.drop (pos + 1)) a = ofP (nm :: qs) := by
            obtain ⟨hc1, hc2⟩ := List.getElem?_eq_some_iff.1 hc
            obtain ⟨hx1, hx2⟩ := List.getElem?_eq_some_iff.1 hy
            rw [← hgo.out, List.drop_eq_getElem_cons hc1, List.drop_eq_getElem_cons hx1, hc2, hx2]
          have hcx := hE18.cell (Hcell.out (1 + pos) y (by rw [Nat.add_comm 1 pos]; simp [hy]))
          have Hgo := Lib.hid hgo2
          have HA9 := Lib.hid hA8
          have HR9 := Lib.hid hR8
          have hNW := fun w' => Number_ref (B y) (by rw [size_B]; exact hyl) w'
          have HWd := fun w' => Word_ref (B y) (by rw [size_B]; exact hyl) w'
          have hi1 : (0 : Int) ≤ 1 + (pos : Int) := by omega
          have hi2 : 1 + (pos : Int) < (qs.length : Int) + 1 := by have := Hq.out; have := Hss.out; omega
          have hcs : ∀ d : UInt8, ((((s[pos]'hp).toNat : Nat) : Int) == ((d.toNat : Nat) : Int)) = decide (c = d) := fun d => by
            rw [hsc, Bool.eq_iff_iff]
            simp only [beq_iff_eq, decide_eq_true_eq]
            constructor
            · intro e; exact UInt8.toNat_inj.1 (by omega)
            · intro e; rw [e]
          have c110 : ((((s[pos]'hp).toNat : Nat) : Int) == 110) = decide (c = 110) := hcs 110
          have c109 : ((((s[pos]'hp).toNat : Nat) : Int) == 109) = decide (c = 109) := hcs 109
          have c112 : ((((s[pos]'hp).toNat : Nat) : Int) == 112) = decide (c = 112) := hcs 112
          clear hgo hgo2 hA8 hR8 hc hy hsc hcs
          rcases hcb with rfl | rfl | rfl | rfl
          · have c110 : ((((s[pos]'hp).toNat : Nat) : Int) == 110) = false := c110
            have c109 : ((((s[pos]'hp).toNat : Nat) : Int) == 109) = false := c109
            have c112 : ((((s[pos]'hp).toNat : Nat) : Int) == 112) = true := c112
            cases hwp : wordP y with
            | true =>
              have Hgo2 := Lib.hid (show ofGo (what.drop (pos + 1)) (qs.drop (pos + 1)) { a with p := y } = ofP (nm :: qs) by rw [← Hgo.out, ofGo]; simp [hwp])
              have hWp : wordP (B y).data.toList = true := by rw [toList_B]; exact hwp
              clear Hgo hwp
              go_wp2_with (first
                | (go_at_call 82; refine (hNW _).mono ?_; rintro e W4 ⟨nv, nok, rfl, _, hE4⟩)
                | (go_at_call 50; refine (HWd _).mono ?_; rintro e W5 ⟨rfl, rfl⟩; rw [hWp]; obtain ⟨⟨a0, g0⟩, ⟨a1, g1⟩, ⟨a2, g2⟩, ⟨a3, g3⟩, ⟨a4, g4⟩⟩ := (HA9.out.ext hE4).five))
              obtain ⟨q1, q2, q3, q4, q5⟩ := one_round hE4 hE8 HA9.out HR9.out hp Hgo2 (i := 1) (u := .string (B y)) hale hne rfl
              exact ⟨⟨pos + 1, { a with p := y }, by go_num, q4, q1, (hE18.trans hE4).setCell (p := ⟨ab, 1, none⟩) hal1 _, q2, q3, q5⟩, by simp [intOf]; omega⟩
            | false =>
              have Hgo2 := Lib.hid (show ofP (nm :: qs) = none by rw [← Hgo.out, ofGo]; simp [hwp])
              have hWp : wordP (B y).data.toList = false := by rw [toList_B]; exact hwp
              clear Hgo hwp
              go_wp2_with (first
                | (go_at_call 82; refine (hNW _).mono ?_; rintro e W4 ⟨nv, nok, rfl, _, hE4⟩)
                | (go_at_call 50; refine (HWd _).mono ?_; rintro e W5 ⟨rfl, rfl⟩; rw [hWp]; obtain ⟨⟨r0, f0⟩, ⟨r1, f1⟩, ⟨r2, f2⟩, ⟨r3, f3⟩, ⟨r4, f4⟩⟩ := (HR9.out.ext hE4).five))
              rw [setCell_same r0, setCell_same r1, setCell_same r2, setCell_same r3, setCell_same r4]
              refine bodyPost_ret (v := .tuple #[.agg #[.string ⟨#[]⟩, .string ⟨#[]⟩, .string ⟨#[]⟩, .int .i64 0, .int .i64 0], .bool false]) (by simp [results, Tryz.f53, go_sem, r0, r1, r2, r3, r4]) rfl ?_
              rw [Hgo2.out]
              exact ⟨rfl, hE8.trans hE4⟩
          · have c110 : ((((s[pos]'hp).toNat : Nat) : Int) == 110) = false := c110
            have c109 : ((((s[pos]'hp).toNat : Nat) : Int) == 109) = false := c109
            have c112 : ((((s[pos]'hp).toNat : Nat) : Int) == 112) = false := c112
            cases hwp : wordP y with
            | true =>
              have Hgo2 := Lib.hid (show ofGo (what.drop (pos + 1)) (qs.drop (pos + 1)) { a with q := y } = ofP (nm :: qs) by rw [← Hgo.out, ofGo]; simp [hwp])
              have hWp : wordP (B y).data.toList = true := by rw [toList_B]; exact hwp
              clear Hgo hwp
              go_wp2_with (first
                | (go_at_call 82; refine (hNW _).mono ?_; rintro e W4 ⟨nv, nok, rfl, _, hE4⟩)
                | (go_at_call 50; refine (HWd _).mono ?_; rintro e W5 ⟨rfl, rfl⟩; rw [hWp]; obtain ⟨⟨a0, g0⟩, ⟨a1, g1⟩, ⟨a2, g2⟩, ⟨a3, g3⟩, ⟨a4, g4⟩⟩ := (HA9.out.ext hE4).five))
              obtain ⟨q1, q2, q3, q4, q5⟩ := one_round hE4 hE8 HA9.out HR9.out hp Hgo2 (i := 2) (u := .string (B y)) hale hne rfl
              exact ⟨⟨pos + 1, { a with q := y }, by go_num, q4, q1, (hE18.trans hE4).setCell (p := ⟨ab, 2, none⟩) hal1 _, q2, q3, q5⟩, by simp [intOf]; omega⟩
            | false =>
              have Hgo2 := Lib.hid (show ofP (nm :: qs) = none by rw [← Hgo.out, ofGo]; simp [hwp])
              have hWp : wordP (B y).data.toList = false := by rw [toList_B]; exact hwp
              clear Hgo hwp
              go_wp2_with (first
                | (go_at_call 82; refine (hNW _).mono ?_; rintro e W4 ⟨nv, nok, rfl, _, hE4⟩)
                | (go_at_call 50; refine (HWd _).mono ?_; rintro e W5 ⟨rfl, rfl⟩; rw [hWp]; obtain ⟨⟨r0, f0⟩, ⟨r1, f1⟩, ⟨r2, f2⟩, ⟨r3, f3⟩, ⟨r4, f4⟩⟩ := (HR9.out.ext hE4).five))
              rw [setCell_same r0, setCell_same r1, setCell_same r2, setCell_same r3, setCell_same r4]
              refine bodyPost_ret (v := .tuple #[.agg #[.string ⟨#[]⟩, .string ⟨#[]⟩, .string ⟨#[]⟩, .int .i64 0, .int .i64 0], .bool false]) (by simp [results, Tryz.f53, go_sem, r0, r1, r2, r3, r4]) rfl ?_
              rw [Hgo2.out]
              exact ⟨rfl, hE8.trans hE4⟩
          · have c110 : ((((s[pos]'hp).toNat : Nat) : Int) == 110) = true := c110
            have c109 : ((((s[pos]'hp).toNat : Nat) : Int) == 109) = false := c109
            clear c112
            cases hnp : numP y with
            | some v =>
              have Hgo2 := Lib.hid (show ofGo (what.drop (pos + 1)) (qs.drop (pos + 1)) { a with n := v } = ofP (nm :: qs) by rw [← Hgo.out, ofGo]; simp [hnp])
              have hNs := fun w' => Num_some hnp hyl w'
              clear Hgo hnp hNW
              go_wp2_with (go_at_call 82; refine (hNs _).mono ?_; rintro e W4 ⟨rfl, hE4⟩; obtain ⟨⟨a0, g0⟩, ⟨a1, g1⟩, ⟨a2, g2⟩, ⟨a3, g3⟩, ⟨a4, g4⟩⟩ := (HA9.out.ext hE4).five)
              obtain ⟨q1, q2, q3, q4, q5⟩ := one_round hE4 hE8 HA9.out HR9.out hp Hgo2 (i := 3) (u := .int .i64 v) hale hne rfl
              exact ⟨⟨pos + 1, { a with n := v }, by go_num, q4, q1, (hE18.trans hE4).setCell (p := ⟨ab, 3, none⟩) hal1 _, q2, q3, q5⟩, by simp [intOf]; omega⟩
            | none =>
              have Hgo2 := Lib.hid (show ofP (nm :: qs) = none by rw [← Hgo.out, ofGo]; simp [hnp])
              have hNs := fun w' => Num_none hnp hyl w'
              clear Hgo hnp hNW
              go_wp2_with (go_at_call 82; refine (hNs _).mono ?_; rintro e W4 ⟨nv, rfl, hE4⟩; obtain ⟨⟨r0, f0⟩, ⟨r1, f1⟩, ⟨r2, f2⟩, ⟨r3, f3⟩, ⟨r4, f4⟩⟩ := (HR9.out.ext hE4).five)
              rw [setCell_same r0, setCell_same r1, setCell_same r2, setCell_same r3, setCell_same r4]
              refine bodyPost_ret (v := .tuple #[.agg #[.string ⟨#[]⟩, .string ⟨#[]⟩, .string ⟨#[]⟩, .int .i64 0, .int .i64 0], .bool false]) (by simp [results, Tryz.f53, go_sem, r0, r1, r2, r3, r4]) rfl ?_
              rw [Hgo2.out]
              exact ⟨rfl, hE8.trans hE4⟩
          · have c110 : ((((s[pos]'hp).toNat : Nat) : Int) == 110) = false := c110
            have c109 : ((((s[pos]'hp).toNat : Nat) : Int) == 109) = true := c109
            clear c112
            cases hnp : numP y with
            | some v =>
              have Hgo2 := Lib.hid (show ofGo (what.drop (pos + 1)) (qs.drop (pos + 1)) { a with m := v } = ofP (nm :: qs) by rw [← Hgo.out, ofGo]; simp [hnp])
              have hNs := fun w' => Num_some hnp hyl w'
              clear Hgo hnp hNW
              go_wp2_with (go_at_call 82; refine (hNs _).mono ?_; rintro e W4 ⟨rfl, hE4⟩; obtain ⟨⟨a0, g0⟩, ⟨a1, g1⟩, ⟨a2, g2⟩, ⟨a3, g3⟩, ⟨a4, g4⟩⟩ := (HA9.out.ext hE4).five)
              obtain ⟨q1, q2, q3, q4, q5⟩ := one_round hE4 hE8 HA9.out HR9.out hp Hgo2 (i := 4) (u := .int .i64 v) hale hne rfl
              exact ⟨⟨pos + 1, { a with m := v }, by go_num, q4, q1, (hE18.trans hE4).setCell (p := ⟨ab, 4, none⟩) hal1 _, q2, q3, q5⟩, by simp [intOf]; omega⟩
            | none =>
              have Hgo2 := Lib.hid (show ofP (nm :: qs) = none by rw [← Hgo.out, ofGo]; simp [hnp])
              have hNs := fun w' => Num_none hnp hyl w'
              clear Hgo hnp hNW
              go_wp2_with (go_at_call 82; refine (hNs _).mono ?_; rintro e W4 ⟨nv, rfl, hE4⟩; obtain ⟨⟨r0, f0⟩, ⟨r1, f1⟩, ⟨r2, f2⟩, ⟨r3, f3⟩, ⟨r4, f4⟩⟩ := (HR9.out.ext hE4).five)
              rw [setCell_same r0, setCell_same r1, setCell_same r2, setCell_same r3, setCell_same r4]
              refine bodyPost_ret (v := .tuple #[.agg #[.string ⟨#[]⟩, .string ⟨#[]⟩, .string ⟨#[]⟩, .int .i64 0, .int .i64 0], .bool false]) (by simp [results, Tryz.f53, go_sem, r0, r1, r2, r3, r4]) rfl ?_
              rw [Hgo2.out]
              exact ⟨rfl, hE8.trans hE4⟩
        · have hp' : ¬ (pos : Int) < (s.size : Int) := by omega
          have hr : Hid (ofP (nm :: qs) = some a) := Lib.hid (by
            have h := hgo.out
            rw [List.drop_of_length_le (by have := Hss.out; omega)] at h
            rw [← h]
            rfl)
          obtain ⟨⟨a0, g0⟩, ⟨a1, g1⟩, ⟨a2, g2⟩, ⟨a3, g3⟩, ⟨a4, g4⟩⟩ := hA8.five
          obtain ⟨⟨r0, f0⟩, ⟨r1, f1⟩, ⟨r2, f2⟩, ⟨r3, f3⟩, ⟨r4, f4⟩⟩ := hR8.five
          have hRf := ((((hR8.set 0 (.string (B a.name))).set 1 (.string (B a.p))).set 2 (.string (B a.q))).set 3 (.int .i64 a.n)).set 4 (.int .i64 a.m)
          obtain ⟨⟨z0, _⟩, ⟨z1, _⟩, ⟨z2, _⟩, ⟨z3, _⟩, ⟨z4, _⟩⟩ := hRf.five
          clear hgo hA8 hR8 hRf
          go_wp2
          refine bodyPost_ret (v := .tuple #[a.val, .bool true]) (by simp [results, Tryz.f53, go_sem, z0, z1, z2, z3, z4, ActP.val]) rfl ?_
          rw [hr.out]
          exact ⟨rfl, ((((hE8.setCell (p := ⟨rb, 0, none⟩) hle _).setCell (p := ⟨rb, 1, none⟩) hle _).setCell (p := ⟨rb, 2, none⟩) hle _).setCell (p := ⟨rb, 3, none⟩) hle _).setCell (p := ⟨rb, 4, none⟩) hle _⟩
    · have hq' : ((qs.length : Int) + 1 != 1 + (s.size : Int)) = true := by have := Hss.out; simp; omega
      have e : Hid (ofP (nm :: qs) = none) := Lib.hid (by simp only [ofP, Hn.out]; rw [if_neg hq])
      clear hq
      go_wp2_with (go_at_call 24; refine HN1.mono ?_; rintro e W2 ⟨rfl, hE2⟩; obtain ⟨⟨r0, f0⟩, ⟨r1, f1⟩, ⟨r2, f2⟩, ⟨r3, f3⟩, ⟨r4, f4⟩⟩ := (hR.ext hE2).five)
      rw [setCell_same r0, setCell_same r1, setCell_same r2, setCell_same r3, setCell_same r4]
      refine bodyPost_ret (v := .tuple #[.agg #[.string ⟨#[]⟩, .string ⟨#[]⟩, .string ⟨#[]⟩, .int .i64 0, .int .i64 0], .bool false]) (by simp [results, Tryz.f53, go_sem, r0, r1, r2, r3, r4]) rfl ?_
      rw [e.out]
      exact ⟨rfl, hE0.trans hE2⟩
end Go.Proofs.YtiomljaengonoaaGreatDoor
