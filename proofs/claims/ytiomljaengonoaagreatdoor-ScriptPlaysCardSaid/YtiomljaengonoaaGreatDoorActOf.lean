/- script.of: the act of parts. -/
import Derived.Test.YtiomljaengonoaaGreatDoorTexts
import Derived.Test.YtiomljaengonoaaGreatDoorWord
import Derived.Test.YtiomljaengonoaaGreatDoorNeeds
import Derived.Deep.RegionHeld3
namespace Go.Proofs.YtiomljaengonoaaGreatDoor
open Go Go.RowKit Go.Shelf Go.Proofs Go.Maps

theorem look_run {w : World} {b : Nat} (h : NMap w b) (nm : List UInt8) (hw : nm.length ≤ 140737488355328) :
    (Instr.lookup 152 (.map (some b)) (.string (B nm)) true).run Tryz.prog w = .ok (.tuple #[needV nm, .bool (needsOf nm).isSome]) w := by
  obtain ⟨v, ps, hr, hv⟩ := World.ownsMap.look_ok (t := 152) (e := 9) h law_str Tryz.underlying152 (zero_str w) (zd := .held (.string ⟨#[]⟩)) (zp := []) rfl (keyS (B nm) (by rw [size_B]; unfold maxLen; omega))
  rw [hr]
  rw [toList_B] at hv ⊢
  rw [tabS_at] at hv
  rw [tabS_has]
  have e1 : (needsT.find? (fun x => decide (x.1 = nm))).isSome = (needsOf nm).isSome := by rw [needsOf, Option.isSome_map]
  have e2 : v = needV nm := by
    simp only [RH, Option.some.injEq, Prod.mk.injEq, DataW.held.injEq] at hv
    rw [hv.1, needV, needsOf]
    cases needsT.find? (fun x => decide (x.1 = nm)) <;> rfl
  rw [e1, e2]

def act0 : ActP := ⟨[], [], [], 0, 0⟩
def OfPost (r : Option ActP) (w : World) (e : Ending) (w' : World) : Prop := e = .returned (.tuple #[(r.getD act0).val, .bool r.isSome]) ∧ Ext w w'

theorem number_some {x : List UInt8} {v : Int} (h : numP x = some v) (hs : x.length ≤ 140737488355328) (w : World) (hN : NumVars w) :
    Calls Tryz.prog 78 #[.string (B x)] w fun e w' => e = .returned (.tuple #[.int .i64 v, .bool true]) ∧ Ext w w' := by
  refine (number_any (B x) (by rw [size_B]; exact hs) w hN).mono ?_
  rintro e w' ⟨v', ok, rfl, hn, hE⟩
  rw [toList_B, h] at hn
  cases ok with
  | false => cases hn
  | true =>
    cases hn
    exact ⟨rfl, hE⟩
theorem number_none {x : List UInt8} (h : numP x = none) (hs : x.length ≤ 140737488355328) (w : World) (hN : NumVars w) :
    Calls Tryz.prog 78 #[.string (B x)] w fun e w' => ∃ v, e = .returned (.tuple #[.int .i64 v, .bool false]) ∧ Ext w w' := by
  refine (number_any (B x) (by rw [size_B]; exact hs) w hN).mono ?_
  rintro e w' ⟨v', ok, rfl, hn, hE⟩
  rw [toList_B, h] at hn
  cases ok with
  | true => cases hn
  | false => exact ⟨v', rfl, hE⟩

/-- The end of a round of 'of'. -/
theorem of_round {w W7 W W4 : World} {s : ByteArray} {pos g i ab rb : Nat} {u : Value} {A A' R : Array Value} {what : List UInt8} {qs : List (List UInt8)} {a' : ActP} {r : Option ActP} (hE : Ext W W4) (hit : W.heap[W7.heap.size]? = some (.stringIter s (pos + 1))) (hw : Ext w W)
    (hA : Blk W ab 48 A) (hR : Blk W rb 48 R) (hp : pos < s.size) (hfu : s.size ≤ pos + (g + 1)) (hgo : Hid (ofGo (what.drop (pos + 1)) (qs.drop (pos + 1)) a' = r)) (hale : w.heap.size ≤ ab) (hab : ab < W7.heap.size) (hne : rb ≠ ab)
    (hA' : A.setIfInBounds i u = A') :
    (W4.setCell ⟨ab, i, none⟩ u).heap[W7.heap.size]? = some (.stringIter s (pos + 1)) ∧ Ext w (W4.setCell ⟨ab, i, none⟩ u) ∧ Blk (W4.setCell ⟨ab, i, none⟩ u) ab 48 A' ∧ Blk (W4.setCell ⟨ab, i, none⟩ u) rb 48 R ∧ pos + 1 ≤ s.size ∧ Hid (ofGo (what.drop (pos + 1)) (qs.drop (pos + 1)) a' = r) ∧ s.size ≤ pos + 1 + g := by
  refine ⟨?_, (hw.trans hE).setCell (p := ⟨ab, i, none⟩) hale _, ?_, ?_, hp, hgo, by omega⟩
  · rw [Below.heap_setCell _ _ _ _ (by simp; omega)]
    exact hE.block hit
  · rw [← hA']
    exact (hA.ext hE).set i u
  · exact (Below.heap_setCell _ _ _ _ (by simpa using hne)).trans (hR.ext hE)

set_option maxRecDepth 100000 in
set_option maxHeartbeats 8000000 in
theorem of_any (v : Value) (ps : List (List UInt8)) (w : World) (hv : RdS w v (ps.map B)) (hne : ps ≠ []) (hsz : ∀ p ∈ ps, p.length ≤ 140737488355328) (hN : NumVars w) :
    Calls Tryz.prog 46 #[v] w (OfPost (ofP ps) w) := by
  obtain ⟨nm, qs, rfl⟩ : ∃ nm qs, ps = nm :: qs := List.exists_cons_of_ne_nil hne
  have hnm := hsz nm (.head _)
  obtain ⟨bk, o, c, rfl, hlc, hcm, hcell⟩ := RdS.open_ hv (by simp)
  have h0 := hcell 0 (B nm) rfl
  rw [Nat.add_zero] at h0
  have hlen : ((nm :: qs).map B).length = qs.length + 1 := by simp
  have hlm : qs.length + 1 ≤ 140737488355328 := by have := Rd.len hv; rw [hlen] at this; exact this
  rw [hlen] at hlc ⊢
  have Hcell := Lib.hid hcell
  have Hsz := Lib.hid hsz
  have HN := Lib.hid hN
  clear hcell hlen hne hv hsz hN
  have hpos : 0 < qs.length + 1 := by omega
  go_enter Tryz.func46, Tryz.ntmps46
  go_upto_region 1 with (fail)
  have hR := Blk.new w 48 #[.string ⟨#[]⟩, .string ⟨#[]⟩, .string ⟨#[]⟩, .int .i64 0, .int .i64 0]
  have hE0 := (Ext.refl w).alloc (.cells #[.string ⟨#[]⟩, .string ⟨#[]⟩, .string ⟨#[]⟩, .int .i64 0, .int .i64 0] 48)
  obtain ⟨rb, hrb⟩ : ∃ rb, w.heap.size = rb := ⟨_, rfl⟩
  have hle : w.heap.size ≤ rb := by omega
  rw [hrb] at hR ⊢
  clear hrb
  generalize w.alloc (.cells #[.string ⟨#[]⟩, .string ⟨#[]⟩, .string ⟨#[]⟩, .int .i64 0, .int .i64 0] 48) = W0 at hR hE0 ⊢
  have h1 := hE0.cell h0
  go_upto_region 2 with (fail)
  have hA := Blk.new W0 48 #[.string (B nm), .string ⟨#[]⟩, .string ⟨#[]⟩, .int .i64 0, .int .i64 0]
  have hE1 := hE0.alloc (.cells #[.string (B nm), .string ⟨#[]⟩, .string ⟨#[]⟩, .int .i64 0, .int .i64 0] 48)
  have hR1 := hR.ext ((Ext.refl W0).alloc (.cells #[.string (B nm), .string ⟨#[]⟩, .string ⟨#[]⟩, .int .i64 0, .int .i64 0] 48))
  have hrl := hR.lt
  obtain ⟨ab, hab⟩ : ∃ ab, W0.heap.size = ab := ⟨_, rfl⟩
  have hale : w.heap.size ≤ ab := by have := hE0.size; omega
  have hne : rb ≠ ab := by omega
  rw [hab] at hA ⊢
  clear hab hrl h1
  generalize W0.alloc (.cells #[.string (B nm), .string ⟨#[]⟩, .string ⟨#[]⟩, .int .i64 0, .int .i64 0] 48) = W1 at hA hE1 hR1 ⊢
  have a0 := hA.cell 0 rfl
  have hLK := fun w' b h => look_run (w := w') (b := b) h nm hnm
  cases hn : needsOf nm with
  | none =>
    rw [show needV nm = .string ⟨#[]⟩ by rw [needV, hn]; rfl, show (needsOf nm).isSome = false by rw [hn]; rfl] at hLK
    go_region_held3 (fun w' => w'.cell? ⟨ab, 0, none⟩ = some (.string (B nm)))
      (first | go_keep | exact hE7.cell a0)
      (first
        | (go_at_call 71; refine (needs_any _).mono ?_; rintro e W7 ⟨mb, rfl, hm7, hE7'⟩; have hE7 : Ext W1 W7 := Ext.trans (by exact (by repeat (first | exact Ext.refl _ | assumption | refine Ext.alloc ?_ _ | refine Ext.drew ?_ | refine Ext.drewN ?_ _ | refine Ext.setCell ?_ (by first | omega | (simp; done) | (simp; omega)) _ | refine Ext.trans ?_ (by assumption)))) hE7'; have hlk := hLK _ _ hm7))
    obtain ⟨⟨r0, f0⟩, ⟨r1, f1⟩, ⟨r2, f2⟩, ⟨r3, f3⟩, ⟨r4, f4⟩⟩ := (hR1.ext hE7).five
    go_wp2
    rw [setCell_same r0, setCell_same r1, setCell_same r2, setCell_same r3, setCell_same r4]
    refine bodyPost_ret (v := .tuple #[.agg #[.string ⟨#[]⟩, .string ⟨#[]⟩, .string ⟨#[]⟩, .int .i64 0, .int .i64 0], .bool false]) (by simp [results, Tryz.f46, go_sem, r0, r1, r2, r3, r4]) rfl ?_
    have e : ofP (nm :: qs) = none := by simp only [ofP, hn]
    rw [e]
    exact ⟨rfl, hE1.trans hE7⟩
  | some what =>
    obtain ⟨hall, hl3⟩ := needs_all hn
    obtain ⟨s, hs⟩ : ∃ s, B what = s := ⟨_, rfl⟩
    have hss : s.size = what.length := by rw [← hs, size_B]
    rw [show needV nm = .string s by rw [needV, hn, ← hs]; rfl, show (needsOf nm).isSome = true by rw [hn]; rfl] at hLK
    have hs3 : s.size ≤ 3 := by omega
    have Hs := Lib.hid hs
    have Hn := Lib.hid hn
    clear hs hn
    go_region_held3 (fun w' => w'.cell? ⟨ab, 0, none⟩ = some (.string (B nm)))
      (first | go_keep | exact hE7.cell a0)
      (first
        | (go_at_call 71; refine (needs_any _).mono ?_; rintro e W7 ⟨mb, rfl, hm7, hE7'⟩; have hE7 : Ext W1 W7 := Ext.trans (by exact (by repeat (first | exact Ext.refl _ | assumption | refine Ext.alloc ?_ _ | refine Ext.drew ?_ | refine Ext.drewN ?_ _ | refine Ext.setCell ?_ (by first | omega | (simp; done) | (simp; omega)) _ | refine Ext.trans ?_ (by assumption)))) hE7'; have hlk := hLK _ _ hm7))
    have hR7 := hR1.ext hE7
    have hA7 := hA.ext hE7
    have hE8 := hE1.trans hE7
    have hl7 : W1.heap.size ≤ W7.heap.size := hE7.size
    have hrb7 := hR7.lt
    have hab7 := hA7.lt
    clear hR1 hA hm7 hlk hE7 hE7' a0 hLK
    by_cases hq : qs.length = what.length
    · have hq' : ((qs.length : Int) + 1 != 1 + (s.size : Int)) = false := by simp; omega
      have Hq := Lib.hid hq
      have Hss := Lib.hid hss
      have hsize : w.heap.size ≤ W7.heap.size := hE8.size
      clear hq hss
      go_upto_region 5 with (fail)
      go_wp2
      go_loopg [7, 8, 9, 10, 11] s.size (fun g _ _ _ _ _ wx => ∃ (pos : Nat) (a : ActP), wx.heap[W7.heap.size]? = some (.stringIter s pos) ∧ Ext w wx ∧ Blk wx ab 48 #[.string (B a.name), .string (B a.p), .string (B a.q), .int .i64 a.n, .int .i64 a.m] ∧ Blk wx rb 48 #[.string ⟨#[]⟩, .string ⟨#[]⟩, .string ⟨#[]⟩, .int .i64 0, .int .i64 0] ∧ pos ≤ s.size ∧ Hid (ofGo (what.drop pos) (qs.drop pos) a = ofP (nm :: qs)) ∧ s.size ≤ pos + g)
      case atStart => exact ⟨0, ⟨nm, [], [], 0, 0⟩, World.iter_heap W7 s 0, hE8.alloc _, hA7.ext ((Ext.refl W7).alloc _), hR7.ext ((Ext.refl W7).alloc _), Nat.zero_le _, Lib.hid (by simp only [ofP, Hn.out]; rw [if_pos Hq.out]; rfl), by omega⟩
      case round =>
        obtain ⟨pos, a, hit, hbw, hA8, hR8, hple, hgo, hfu⟩ := hrel
        have hsz1 : W7.heap.size < wr.heap.size := (Array.getElem?_eq_some_iff.1 hit).1
        by_cases hp : pos < s.size
        · obtain ⟨g, rfl⟩ : ∃ g, gk = g + 1 := ⟨gk - 1, by omega⟩
          have hget : ∃ c, what[pos]? = some c ∧ s[pos]'hp = c := by
            have h2 : s.data.toList[pos]? = some (s[pos]'hp) := by
              rw [Array.getElem?_toList]
              exact Array.getElem?_eq_getElem hp
            have h3 : s.data.toList = what := by rw [← Hs.out, toList_B]
            rw [h3] at h2
            exact ⟨_, h2, rfl⟩
          obtain ⟨c, hc, hsc⟩ := hget
          obtain ⟨x, hx⟩ : ∃ x, qs[pos]? = some x := ⟨_, List.getElem?_eq_getElem (by have := Hq.out; have := Hss.out; omega)⟩
          have hxl := Hsz.out x (.tail _ (List.mem_of_getElem? hx))
          have hcb := needB_cases (List.all_eq_true.1 hall c (List.mem_of_getElem? hc))
          have hc128 : (s[pos]'hp).toNat < 128 := by rw [hsc]; rcases hcb with rfl | rfl | rfl | rfl <;> decide
          have hnx : ∀ ty, (Instr.next (.pointer (some ⟨W7.heap.size, 0, none⟩)) true ty).run Tryz.prog wr = _ := fun ty => Lib.run_next_ascii_at wr W7.heap.size s pos ty hit hp hc128
          rw [hsc] at hnx
          have hgo2 : ofGo (c :: what.drop (pos + 1)) (x :: qs.drop (pos + 1)) a = ofP (nm :: qs) := by
            obtain ⟨hc1, hc2⟩ := List.getElem?_eq_some_iff.1 hc
            obtain ⟨hx1, hx2⟩ := List.getElem?_eq_some_iff.1 hx
            rw [← hgo.out, List.drop_eq_getElem_cons hc1, List.drop_eq_getElem_cons hx1, hc2, hx2]
          have hit2 := Lib.iterAt_heap wr W7.heap.size s pos (pos + 1) hit
          have hbw2 : Ext w (wr.iterAt W7.heap.size s (pos + 1)) := Lib.below_iterAt hbw.below (k := W7.heap.size) hsize s (pos + 1)
          have hA9 : Blk (wr.iterAt W7.heap.size s (pos + 1)) ab 48 _ := (Lib.iterAt_other wr W7.heap.size ab s (pos + 1) (by omega)).trans hA8
          have hR9 : Blk (wr.iterAt W7.heap.size s (pos + 1)) rb 48 _ := (Lib.iterAt_other wr W7.heap.size rb s (pos + 1) (by omega)).trans hR8
          obtain ⟨W, hWd⟩ : ∃ W, wr.iterAt W7.heap.size s (pos + 1) = W := ⟨_, rfl⟩
          rw [hWd] at hnx hit2 hbw2 hA9 hR9
          have hcx := hbw2.cell (Hcell.out (1 + pos) (B x) (by rw [Nat.add_comm 1 pos]; simp [hx]))
          have Hgo := Lib.hid hgo2
          have Hit := Lib.hid hit2
          have HA9 := Lib.hid hA9
          have HR9 := Lib.hid hR9
          have hNW := fun w' (h : Ext W w') => number_any (B x) (by rw [size_B]; exact hxl) w' (HN.out.ext (hbw2.trans h))
          have hi1 : (0 : Int) ≤ 1 + (pos : Int) := by omega
          have hi2 : 1 + (pos : Int) < (qs.length : Int) + 1 := by have := Hq.out; have := Hss.out; omega
          clear hgo hgo2 hit2 hA9 hR9 hWd hit hbw hA8 hR8 hc hx
          rcases hcb with rfl | rfl | rfl | rfl
          · have HWd := fun w' => word_any (B x) (by rw [size_B]; exact hxl) w'
            cases hwp : wordP x with
            | true =>
              have Hgo2 := Lib.hid (show ofGo (what.drop (pos + 1)) (qs.drop (pos + 1)) { a with p := x } = ofP (nm :: qs) by rw [← Hgo.out, ofGo]; simp [hwp])
              have hWp : wordP (B x).data.toList = true := by rw [toList_B]; exact hwp
              clear Hgo hwp
              go_wp2_with (first
                | (go_at_call 78; refine (hNW _ (Ext.refl _)).mono ?_; rintro e W3 ⟨nv, nok, rfl, _, hE3⟩)
                | (go_at_call 79; refine (HWd _).mono ?_; rintro e W4 ⟨rfl, hE4⟩; rw [hWp]; obtain ⟨⟨a0, g0⟩, ⟨a1, g1⟩, ⟨a2, g2⟩, ⟨a3, g3⟩, ⟨a4, g4⟩⟩ := (HA9.out.ext (hE3.trans hE4)).five))
              go_roundg g
              case measure => omega
              case rel => exact ⟨pos + 1, { a with p := x }, of_round (hE3.trans hE4) Hit.out hbw2 HA9.out HR9.out hp hfu Hgo2 (i := 1) (u := .string (B x)) hale (by omega) hne rfl⟩
            | false =>
              have Hgo2 := Lib.hid (show ofP (nm :: qs) = none by rw [← Hgo.out, ofGo]; simp [hwp])
              have hWp : wordP (B x).data.toList = false := by rw [toList_B]; exact hwp
              clear Hgo hwp
              go_wp2_with (first
                | (go_at_call 78; refine (hNW _ (Ext.refl _)).mono ?_; rintro e W3 ⟨nv, nok, rfl, _, hE3⟩)
                | (go_at_call 79; refine (HWd _).mono ?_; rintro e W4 ⟨rfl, hE4⟩; rw [hWp]; obtain ⟨⟨r0, f0⟩, ⟨r1, f1⟩, ⟨r2, f2⟩, ⟨r3, f3⟩, ⟨r4, f4⟩⟩ := (HR9.out.ext (hE3.trans hE4)).five))
              rw [setCell_same r0, setCell_same r1, setCell_same r2, setCell_same r3, setCell_same r4]
              refine bodyPost_ret (v := .tuple #[.agg #[.string ⟨#[]⟩, .string ⟨#[]⟩, .string ⟨#[]⟩, .int .i64 0, .int .i64 0], .bool false]) (by simp [results, Tryz.f46, go_sem, r0, r1, r2, r3, r4]) rfl ?_
              rw [Hgo2.out]
              exact ⟨rfl, hbw2.trans (hE3.trans hE4)⟩
          · have HWd := fun w' => word_any (B x) (by rw [size_B]; exact hxl) w'
            cases hwp : wordP x with
            | true =>
              have Hgo2 := Lib.hid (show ofGo (what.drop (pos + 1)) (qs.drop (pos + 1)) { a with q := x } = ofP (nm :: qs) by rw [← Hgo.out, ofGo]; simp [hwp])
              have hWp : wordP (B x).data.toList = true := by rw [toList_B]; exact hwp
              clear Hgo hwp
              go_wp2_with (first
                | (go_at_call 78; refine (hNW _ (Ext.refl _)).mono ?_; rintro e W3 ⟨nv, nok, rfl, _, hE3⟩)
                | (go_at_call 79; refine (HWd _).mono ?_; rintro e W4 ⟨rfl, hE4⟩; rw [hWp]; obtain ⟨⟨a0, g0⟩, ⟨a1, g1⟩, ⟨a2, g2⟩, ⟨a3, g3⟩, ⟨a4, g4⟩⟩ := (HA9.out.ext (hE3.trans hE4)).five))
              go_roundg g
              case measure => omega
              case rel => exact ⟨pos + 1, { a with q := x }, of_round (hE3.trans hE4) Hit.out hbw2 HA9.out HR9.out hp hfu Hgo2 (i := 2) (u := .string (B x)) hale (by omega) hne rfl⟩
            | false =>
              have Hgo2 := Lib.hid (show ofP (nm :: qs) = none by rw [← Hgo.out, ofGo]; simp [hwp])
              have hWp : wordP (B x).data.toList = false := by rw [toList_B]; exact hwp
              clear Hgo hwp
              go_wp2_with (first
                | (go_at_call 78; refine (hNW _ (Ext.refl _)).mono ?_; rintro e W3 ⟨nv, nok, rfl, _, hE3⟩)
                | (go_at_call 79; refine (HWd _).mono ?_; rintro e W4 ⟨rfl, hE4⟩; rw [hWp]; obtain ⟨⟨r0, f0⟩, ⟨r1, f1⟩, ⟨r2, f2⟩, ⟨r3, f3⟩, ⟨r4, f4⟩⟩ := (HR9.out.ext (hE3.trans hE4)).five))
              rw [setCell_same r0, setCell_same r1, setCell_same r2, setCell_same r3, setCell_same r4]
              refine bodyPost_ret (v := .tuple #[.agg #[.string ⟨#[]⟩, .string ⟨#[]⟩, .string ⟨#[]⟩, .int .i64 0, .int .i64 0], .bool false]) (by simp [results, Tryz.f46, go_sem, r0, r1, r2, r3, r4]) rfl ?_
              rw [Hgo2.out]
              exact ⟨rfl, hbw2.trans (hE3.trans hE4)⟩
          · cases hnp : numP x with
            | some v =>
              have Hgo2 := Lib.hid (show ofGo (what.drop (pos + 1)) (qs.drop (pos + 1)) { a with n := v } = ofP (nm :: qs) by rw [← Hgo.out, ofGo]; simp [hnp])
              have hNs := fun w' (h : Ext W w') => number_some hnp hxl w' (HN.out.ext (hbw2.trans h))
              clear Hgo hnp hNW
              go_wp2_with (go_at_call 78; refine (hNs _ (Ext.refl _)).mono ?_; rintro e W3 ⟨rfl, hE3⟩; obtain ⟨⟨a0, g0⟩, ⟨a1, g1⟩, ⟨a2, g2⟩, ⟨a3, g3⟩, ⟨a4, g4⟩⟩ := (HA9.out.ext hE3).five)
              go_roundg g
              case measure => omega
              case rel => exact ⟨pos + 1, { a with n := v }, of_round hE3 Hit.out hbw2 HA9.out HR9.out hp hfu Hgo2 (i := 3) (u := .int .i64 v) hale (by omega) hne rfl⟩
            | none =>
              have Hgo2 := Lib.hid (show ofP (nm :: qs) = none by rw [← Hgo.out, ofGo]; simp [hnp])
              have hNs := fun w' (h : Ext W w') => number_none hnp hxl w' (HN.out.ext (hbw2.trans h))
              clear Hgo hnp hNW
              go_wp2_with (go_at_call 78; refine (hNs _ (Ext.refl _)).mono ?_; rintro e W3 ⟨nv, rfl, hE3⟩; obtain ⟨⟨r0, f0⟩, ⟨r1, f1⟩, ⟨r2, f2⟩, ⟨r3, f3⟩, ⟨r4, f4⟩⟩ := (HR9.out.ext hE3).five)
              rw [setCell_same r0, setCell_same r1, setCell_same r2, setCell_same r3, setCell_same r4]
              refine bodyPost_ret (v := .tuple #[.agg #[.string ⟨#[]⟩, .string ⟨#[]⟩, .string ⟨#[]⟩, .int .i64 0, .int .i64 0], .bool false]) (by simp [results, Tryz.f46, go_sem, r0, r1, r2, r3, r4]) rfl ?_
              rw [Hgo2.out]
              exact ⟨rfl, hbw2.trans hE3⟩
          · cases hnp : numP x with
            | some v =>
              have Hgo2 := Lib.hid (show ofGo (what.drop (pos + 1)) (qs.drop (pos + 1)) { a with m := v } = ofP (nm :: qs) by rw [← Hgo.out, ofGo]; simp [hnp])
              have hNs := fun w' (h : Ext W w') => number_some hnp hxl w' (HN.out.ext (hbw2.trans h))
              clear Hgo hnp hNW
              go_wp2_with (go_at_call 78; refine (hNs _ (Ext.refl _)).mono ?_; rintro e W3 ⟨rfl, hE3⟩; obtain ⟨⟨a0, g0⟩, ⟨a1, g1⟩, ⟨a2, g2⟩, ⟨a3, g3⟩, ⟨a4, g4⟩⟩ := (HA9.out.ext hE3).five)
              go_roundg g
              case measure => omega
              case rel => exact ⟨pos + 1, { a with m := v }, of_round hE3 Hit.out hbw2 HA9.out HR9.out hp hfu Hgo2 (i := 4) (u := .int .i64 v) hale (by omega) hne rfl⟩
            | none =>
              have Hgo2 := Lib.hid (show ofP (nm :: qs) = none by rw [← Hgo.out, ofGo]; simp [hnp])
              have hNs := fun w' (h : Ext W w') => number_none hnp hxl w' (HN.out.ext (hbw2.trans h))
              clear Hgo hnp hNW
              go_wp2_with (go_at_call 78; refine (hNs _ (Ext.refl _)).mono ?_; rintro e W3 ⟨nv, rfl, hE3⟩; obtain ⟨⟨r0, f0⟩, ⟨r1, f1⟩, ⟨r2, f2⟩, ⟨r3, f3⟩, ⟨r4, f4⟩⟩ := (HR9.out.ext hE3).five)
              rw [setCell_same r0, setCell_same r1, setCell_same r2, setCell_same r3, setCell_same r4]
              refine bodyPost_ret (v := .tuple #[.agg #[.string ⟨#[]⟩, .string ⟨#[]⟩, .string ⟨#[]⟩, .int .i64 0, .int .i64 0], .bool false]) (by simp [results, Tryz.f46, go_sem, r0, r1, r2, r3, r4]) rfl ?_
              rw [Hgo2.out]
              exact ⟨rfl, hbw2.trans hE3⟩
        · have hnx : ∀ ty, (Instr.next (.pointer (some ⟨W7.heap.size, 0, none⟩)) true ty).run Tryz.prog wr = _ := fun ty => Lib.run_next_end_at wr W7.heap.size s pos ty hit hp
          have hr : Hid (ofP (nm :: qs) = some a) := Lib.hid (by
            have h := hgo.out
            rw [List.drop_of_length_le (by have := Hss.out; omega)] at h
            rw [← h]
            rfl)
          obtain ⟨⟨a0, g0⟩, ⟨a1, g1⟩, ⟨a2, g2⟩, ⟨a3, g3⟩, ⟨a4, g4⟩⟩ := hA8.five
          obtain ⟨⟨r0, f0⟩, ⟨r1, f1⟩, ⟨r2, f2⟩, ⟨r3, f3⟩, ⟨r4, f4⟩⟩ := hR8.five
          have hRf := ((((hR8.set 0 (.string (B a.name))).set 1 (.string (B a.p))).set 2 (.string (B a.q))).set 3 (.int .i64 a.n)).set 4 (.int .i64 a.m)
          obtain ⟨⟨z0, _⟩, ⟨z1, _⟩, ⟨z2, _⟩, ⟨z3, _⟩, ⟨z4, _⟩⟩ := hRf.five
          clear hgo hA8 hR8 hRf
          go_wp2
          refine bodyPost_ret (v := .tuple #[a.val, .bool true]) (by simp [results, Tryz.f46, go_sem, z0, z1, z2, z3, z4, ActP.val]) rfl ?_
          rw [hr.out]
          exact ⟨rfl, ((((hbw.setCell (p := ⟨rb, 0, none⟩) hle _).setCell (p := ⟨rb, 1, none⟩) hle _).setCell (p := ⟨rb, 2, none⟩) hle _).setCell (p := ⟨rb, 3, none⟩) hle _).setCell (p := ⟨rb, 4, none⟩) hle _⟩
    · have hq' : ((qs.length : Int) + 1 != 1 + (s.size : Int)) = true := by simp; omega
      obtain ⟨⟨r0, f0⟩, ⟨r1, f1⟩, ⟨r2, f2⟩, ⟨r3, f3⟩, ⟨r4, f4⟩⟩ := hR7.five
      go_wp2
      rw [setCell_same r0, setCell_same r1, setCell_same r2, setCell_same r3, setCell_same r4]
      refine bodyPost_ret (v := .tuple #[.agg #[.string ⟨#[]⟩, .string ⟨#[]⟩, .string ⟨#[]⟩, .int .i64 0, .int .i64 0], .bool false]) (by simp [results, Tryz.f46, go_sem, r0, r1, r2, r3, r4]) rfl ?_
      have e : ofP (nm :: qs) = none := by simp only [ofP, Hn.out]; rw [if_neg hq]
      rw [e]
      exact ⟨rfl, hE8⟩
end Go.Proofs.YtiomljaengonoaaGreatDoor
