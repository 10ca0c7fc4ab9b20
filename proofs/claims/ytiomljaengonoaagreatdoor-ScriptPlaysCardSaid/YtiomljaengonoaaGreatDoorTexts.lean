/- (script.Act).texts: what an act needs, as texts. -/
import Derived.Test.YtiomljaengonoaaGreatDoorNumber
import Derived.Test.YtiomljaengonoaaGreatDoorBlk
import Derived.Test.YtiomljaengonoaaGreatDoorRd
import Derived.Lib.OthersKept
import Derived.Laws.RangeAny
import Derived.Deep.LoopGhost
import Derived.WalkSmall
import Derived.Maps.AppendAt
namespace Go.Proofs.YtiomljaengonoaaGreatDoor
open Go Go.RowKit Go.Shelf Go.Proofs

/-- An act in memory. -/
def ActP.cells (a : ActP) : List Value := [.string (B a.name), .string (B a.p), .string (B a.q), .int .i64 a.n, .int .i64 a.m]
def ActP.val (a : ActP) : Value := .agg #[.string (B a.name), .string (B a.p), .string (B a.q), .int .i64 a.n, .int .i64 a.m]
/-- Its numbers are an int's, its texts no greater than memory has room. -/
structure ActP.fits (a : ActP) : Prop where
  nm : a.name.length ≤ 35184372088831
  p : a.p.length ≤ 35184372088831
  q : a.q.length ≤ 35184372088831
  n0 : -9223372036854775808 ≤ a.n
  n1 : a.n ≤ 9223372036854775807
  m0 : -9223372036854775808 ≤ a.m
  m1 : a.m ≤ 9223372036854775807

def needB (c : UInt8) : Bool := c == 112 || c == 113 || c == 110 || c == 109
theorem needs_all {nm w : List UInt8} (h : needsOf nm = some w) : w.all needB = true ∧ w.length ≤ 3 := by
  rcases needs_kinds h with rfl | rfl | rfl | rfl | rfl | rfl | rfl <;> exact ⟨by decide, by decide⟩
theorem needB_cases {c : UInt8} (h : needB c = true) : c = 112 ∨ c = 113 ∨ c = 110 ∨ c = 109 := by
  simp only [needB, Bool.or_eq_true, beq_iff_eq] at h
  rcases h with ((h | h) | h) | h <;> simp [h]

theorem info_str : (Tryz.prog.info? 9).map (fun i => (i.zero, i.size, i.bytes)) = some (some (.string ⟨#[]⟩), 1, 16) := by kernel_rfl

def textsV (a : ActP) (w : List UInt8) : List Value := w.map fun c => .string (B (textP a c))
def TextsPost (a : ActP) (what : List UInt8) (w : World) (e : Ending) (w' : World) : Prop :=
  ∃ v, e = .returned v ∧ w'.ownsRow w.heap.size 9 1 v what.length (textsV a what) ∧ Ext w w'

/-- The end of a round of texts. -/
theorem texts_round {a : ActP} {what : List UInt8} {W1 W w1 : World} {s : ByteArray} {g pos : Nat} {c : UInt8} {x : List UInt8} {v v' : Value} {o : Obj} (hit : W.heap[W1.heap.size]? = some (.stringIter s (pos + 1))) (hE : Ext W1 W)
    (hrow : W.ownsRow (W1.heap.size + 1) 9 1 v pos (textsV a (what.take pos))) (hown : w1.ownsRow (W1.heap.size + 1) 9 1 v' (pos + 1) (textsV a (what.take pos) ++ [.string (B x)]))
    (hg : (W.alloc o).grownBy w1 v.ownBlock) (htk : what.take (pos + 1) = what.take pos ++ [c]) (hx : textP a c = x) (hp : pos < s.size) (hfu : s.size ≤ pos + (g + 1)) :
    w1.heap[W1.heap.size]? = some (.stringIter s (pos + 1)) ∧ Ext W1 w1 ∧ pos + 1 ≤ s.size ∧ w1.ownsRow (W1.heap.size + 1) 9 1 v' (pos + 1) (textsV a (what.take (pos + 1))) ∧ s.size ≤ pos + 1 + g := by
  have hlt : W1.heap.size < W.heap.size := (Array.getElem?_eq_some_iff.1 hit).1
  have hne : ∀ k, v.ownBlock = some k → W1.heap.size + 1 ≤ k := fun k hk => (hrow.lt k hk).1
  refine ⟨?_, (hE.alloc o).grown hg (fun k hk => Nat.le_trans (Nat.le_succ _) (hne k hk)), hp, ?_, by omega⟩
  · rw [hg.block W1.heap.size (by simp; omega) (fun e => by have := hne _ e.symm; omega), Below.heap_alloc _ _ _ hlt]
    exact hit
  · rw [htk, textsV, List.map_append]
    rw [← hx] at hown
    exact hown

set_option maxRecDepth 100000 in
set_option maxHeartbeats 8000000 in
theorem texts_any (a : ActP) (hf : a.fits) (what : List UInt8) (hw : what.all needB = true) (hl : what.length ≤ 3) (w : World) (hN : NumVars w) :
    Calls Tryz.prog 72 #[a.val, .string (B what)] w (TextsPost a what w) := by
  have HI := fun w' h => itoa_any a.n hf.n0 hf.n1 w' (hN.ext h)
  have HM := fun w' h => itoa_any a.m hf.m0 hf.m1 w' (hN.ext h)
  obtain ⟨s, hs⟩ : ∃ s, B what = s := ⟨_, rfl⟩
  have hsz : s.size = what.length := by rw [← hs, size_B]
  have Hs := Lib.hid hs
  rw [hs, show a.val = .agg #[.string (B a.name), .string (B a.p), .string (B a.q), .int .i64 a.n, .int .i64 a.m] from rfl]
  clear hN hs
  go_enter Tryz.func72, Tryz.ntmps72
  go_upto_region 2 with (fail)
  have hX := Blk.new w 48 #[.string (B a.name), .string (B a.p), .string (B a.q), .int .i64 a.n, .int .i64 a.m]
  have hE1 := (Ext.refl w).alloc (.cells #[.string (B a.name), .string (B a.p), .string (B a.q), .int .i64 a.n, .int .i64 a.m] 48)
  have hbW : w.heap.size < (w.alloc (.cells #[.string (B a.name), .string (B a.p), .string (B a.q), .int .i64 a.n, .int .i64 a.m] 48)).heap.size := by simp
  generalize w.alloc (.cells #[.string (B a.name), .string (B a.p), .string (B a.q), .int .i64 a.n, .int .i64 a.m] 48) = W1 at hX hE1 hbW ⊢
  go_wp2
  go_loopg [5, 7] s.size (fun g out _ wx => ∃ pos : Nat, wx.heap[W1.heap.size]? = some (.stringIter s pos) ∧ Ext W1 wx ∧ pos ≤ s.size ∧ wx.ownsRow (W1.heap.size + 1) 9 1 out pos (textsV a (what.take pos)) ∧ s.size ≤ pos + g)
  case atStart => exact ⟨0, World.iter_heap W1 s 0, (Ext.refl W1).alloc _, Nat.zero_le _, by simp [textsV, World.ownsRow], by omega⟩
  case round =>
    obtain ⟨pos, hit, hbw, hple, hrow, hfu⟩ := hrel
    have hsz1 : W1.heap.size < wr.heap.size := (Array.getElem?_eq_some_iff.1 hit).1
    by_cases hp : pos < s.size
    · obtain ⟨g, rfl⟩ : ∃ g, gk = g + 1 := ⟨gk - 1, by omega⟩
      have hget : ∃ c, what[pos]? = some c ∧ s[pos]'hp = c := by
        have h2 : s.data.toList[pos]? = some (s[pos]'hp) := by
          rw [Array.getElem?_toList]
          exact Array.getElem?_eq_getElem hp
        have h3 : s.data.toList = what := by rw [← Hs.out, toList_B]
        rw [h3] at h2
        exact ⟨_, h2, rfl⟩
      obtain ⟨c, hc, hsc⟩ := hget
      have hcb := needB_cases (List.all_eq_true.1 hw c (List.mem_of_getElem? hc))
      have hc128 : (s[pos]'hp).toNat < 128 := by rw [hsc]; rcases hcb with rfl | rfl | rfl | rfl <;> decide
      have hnx : ∀ ty, (Instr.next (.pointer (some ⟨W1.heap.size, 0, none⟩)) true ty).run Tryz.prog wr = _ := fun ty => Lib.run_next_ascii_at wr W1.heap.size s pos ty hit hp hc128
      rw [hsc] at hnx
      have htk : what.take (pos + 1) = what.take pos ++ [c] := by rw [List.take_add_one, hc]; rfl
      have hit2 := Lib.iterAt_heap wr W1.heap.size s pos (pos + 1) hit
      have hbw2 : Ext W1 (wr.iterAt W1.heap.size s (pos + 1)) := Lib.below_iterAt hbw.below (k := W1.heap.size) (Nat.le_refl _) s (pos + 1)
      have hrow2 := ownsRow_iterAt hrow (k := W1.heap.size) (by omega) s (pos + 1)
      obtain ⟨W, hWd⟩ : ∃ W, wr.iterAt W1.heap.size s (pos + 1) = W := ⟨_, rfl⟩
      rw [hWd] at hnx hit2 hbw2 hrow2
      obtain ⟨⟨x0, _⟩, ⟨x1, _⟩, ⟨x2, _⟩, ⟨x3, _⟩, ⟨x4, _⟩⟩ := (hX.ext hbw2).five
      obtain ⟨i0, hi, hz0, hz1, hz2⟩ := info_parts info_str
      have Hrow := Lib.hid hrow2
      have hW1 : W1.heap.size + 1 ≤ W.heap.size := by have := (Array.getElem?_eq_some_iff.1 hit2).1; omega
      have hEw := hE1.trans hbw2
      clear hrow hrow2 hWd hit hbw
      rcases hcb with rfl | rfl | rfl | rfl
      · go_wp2_with (at_builtin; refine wpList_append_own _ rfl _ _ 74 rfl (W1.heap.size + 1) 9 i0 (.string ⟨#[]⟩) 1 16 Tryz.underlying74 hi hz0 hz1 hz2 rfl (by decide) _ _ _ rfl (Hrow.out.alloc _) ⟨W.heap.size, 0, none⟩ 1 1 [.string (B a.p)] rfl rfl (cell_one_new _ _ _) (by simp [Value.oneCell']) (by unfold maxLen; omega) (by omega) (by simp; omega) ?_; intro v' w1 hown hgrow hnil')
        go_roundg g
        case measure => omega
        case rel => exact ⟨pos + 1, texts_round hit2 hbw2 Hrow.out hown hgrow htk rfl hp hfu⟩
      · go_wp2_with (at_builtin; refine wpList_append_own _ rfl _ _ 74 rfl (W1.heap.size + 1) 9 i0 (.string ⟨#[]⟩) 1 16 Tryz.underlying74 hi hz0 hz1 hz2 rfl (by decide) _ _ _ rfl (Hrow.out.alloc _) ⟨W.heap.size, 0, none⟩ 1 1 [.string (B a.q)] rfl rfl (cell_one_new _ _ _) (by simp [Value.oneCell']) (by unfold maxLen; omega) (by omega) (by simp; omega) ?_; intro v' w1 hown hgrow hnil')
        go_roundg g
        case measure => omega
        case rel => exact ⟨pos + 1, texts_round hit2 hbw2 Hrow.out hown hgrow htk rfl hp hfu⟩
      · go_wp2_with (first
          | (go_at_call 99; refine (HI _ hEw).mono ?_; rintro e W5 ⟨rfl, hE5⟩)
          | (at_builtin; refine wpList_append_own _ rfl _ _ 74 rfl (W1.heap.size + 1) 9 i0 (.string ⟨#[]⟩) 1 16 Tryz.underlying74 hi hz0 hz1 hz2 rfl (by decide) _ _ _ rfl ((own_ext Hrow.out hE5).alloc _) ⟨W5.heap.size, 0, none⟩ 1 1 [.string (B (Lib.itoa a.n))] rfl rfl (cell_one_new _ _ _) (by simp [Value.oneCell']) (by unfold maxLen; omega) (by omega) (by have := hE5.size; simp; omega) ?_; intro v' w1 hown hgrow hnil'))
        go_roundg g
        case measure => omega
        case rel => exact ⟨pos + 1, texts_round (hE5.block hit2) (hbw2.trans hE5) (own_ext Hrow.out hE5) hown hgrow htk rfl hp hfu⟩
      · go_wp2_with (first
          | (go_at_call 99; refine (HM _ hEw).mono ?_; rintro e W5 ⟨rfl, hE5⟩)
          | (at_builtin; refine wpList_append_own _ rfl _ _ 74 rfl (W1.heap.size + 1) 9 i0 (.string ⟨#[]⟩) 1 16 Tryz.underlying74 hi hz0 hz1 hz2 rfl (by decide) _ _ _ rfl ((own_ext Hrow.out hE5).alloc _) ⟨W5.heap.size, 0, none⟩ 1 1 [.string (B (Lib.itoa a.m))] rfl rfl (cell_one_new _ _ _) (by simp [Value.oneCell']) (by unfold maxLen; omega) (by omega) (by have := hE5.size; simp; omega) ?_; intro v' w1 hown hgrow hnil'))
        go_roundg g
        case measure => omega
        case rel => exact ⟨pos + 1, texts_round (hE5.block hit2) (hbw2.trans hE5) (own_ext Hrow.out hE5) hown hgrow htk rfl hp hfu⟩
    · have hnx : ∀ ty, (Instr.next (.pointer (some ⟨W1.heap.size, 0, none⟩)) true ty).run Tryz.prog wr = _ := fun ty => Lib.run_next_end_at wr W1.heap.size s pos ty hit hp
      have hpe : pos = what.length := by omega
      have Hrow := Lib.hid hrow
      clear hrow
      go_wp2
      go_ret
      refine ⟨_, rfl, ?_, hE1.trans hbw⟩
      have h := Hrow.out
      rw [hpe, List.take_length] at h
      exact own_lower h (by omega)
end Go.Proofs.YtiomljaengonoaaGreatDoor
