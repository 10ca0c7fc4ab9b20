/- Joined: strings; tree; path; slices; fold; What lies under a directory of a stack, gathered name by name, in plain Lean; What the laws over stacks share: errors' numbers, Few's answers; look; maps; slices -/
import Derived.Test.YtneefmgidplbcaaGreatDoorJE3
import Derived.Shelf.Strings.BuilderF
import Derived.Lib.RepeatB
import Derived.Lib.Hide
import Derived.Deep.LoopGhost
import Derived.Deep.DeepCutAuto
import Derived.Deep.CutBlock
import Derived.Maps.AppendAt
import Derived.Deep.AppendLies
import Derived.Test.YtneefmgidplbcaaGreatDoorJE2
import Derived.Test.YtneefmgidplbcaaGreatDoorJE0
import Derived.Test.YtneefmgidplbcaaGreatDoorJE1
import Derived.Shelf.Spec.SlicesInsertGrow
import Derived.Deep.RegionLaw
import Derived.BigRegion
import Derived.Laws.AppendOwnNone
import Derived.Deep.QuietTactic
import Derived.BigQuiet
import Derived.Lib.QuietBelow
import Derived.Test.YtneefmgidplbcaaGreatDoorLayK
import Derived.Shelf.SlIter.Stops
import Derived.Sort.OwnSorted
/-! RepZ -/
namespace Go.Proofs.YtneefmgidplbcaaGreatDoor
open Go Go.RowKit Go.Shelf Go.Proofs

theorem copyCheckF_any (B b : Nat) (bs : List Value) (w : World) (h : Lib.IsBuilderF 210 5 B b bs w) :
    Calls Tryz.prog 189 #[.pointer (some ⟨b, 0, none⟩)] w fun e w' => e = .returned (.tuple #[]) ∧ (Lib.BuilderAtF 210 5 B b (.pointer (some ⟨b, 0, none⟩)) bs w' ∧ Below B w w') := by
  rcases h with h | h
  · refine (copyCheck_fresh b w h.cell0 h.shape h.frozen0).mono ?_
    rintro e w' ⟨rfl, rfl⟩
    exact ⟨rfl, h.used _, (Below.refl B w).setCell (p := ⟨b, 0, none⟩) h.1 _⟩
  · refine (copyCheck_used b w h.cell0).mono ?_
    rintro e w' ⟨rfl, rfl⟩
    exact ⟨rfl, h, Below.refl B _⟩

set_option maxHeartbeats 2000000 in
set_option maxRecDepth 100000 in
theorem writeF_any (B b : Nat) (bs : List Value) (s : ByteArray) (w : World) (h : Lib.IsBuilderF 210 5 B b bs w) (hlen : bs.length + s.size ≤ 140737488355328) (hBw : B ≤ w.heap.size) :
    Calls Tryz.prog 148 #[.pointer (some ⟨b, 0, none⟩), .string s] w fun e w' => e = .returned (.tuple #[.int .i64 s.size, .nilIface]) ∧ (Lib.BuilderAtF 210 5 B b (.pointer (some ⟨b, 0, none⟩)) (bs ++ Lib.strCells s) w' ∧ Below B w w') := by
  obtain ⟨i0, hi, hz0, hz1, hz2⟩ := info_parts byte_info
  go_enter Tryz.func148, Tryz.ntmps148
  go_wp2_with (go_at_call 189; refine (copyCheckF_any B b bs _ h).mono ?_)
  rintro e w1 ⟨rfl, h1, hb1⟩
  obtain ⟨hB, v, hbk, hown, hne⟩ := h1
  have c0 : w1.cell? ⟨b, 0, none⟩ = some (.pointer (some ⟨b, 0, none⟩)) := by rw [Lib.cell_of_heap hbk]; rfl
  have c1 : w1.cell? ⟨b, 1, none⟩ = some v := by rw [Lib.cell_of_heap hbk]; rfl
  go_wp2_with (at_builtin; refine Lib.wpList_append_own_stringF _ rfl _ _ 208 9 rfl B 5 i0 Tryz.underlying208 Tryz.underlying9 hi hz0 hz1 hz2 _ _ _ rfl hown s rfl ?c3 ?c4 ?c5 ?_)
  case c3 => unfold maxLen; omega
  case c4 => omega
  case c5 => have := hb1.size; omega
  intro v' w2 hown' hgrow _
  have hlt : b < w1.heap.size := by
    rcases Nat.lt_or_ge b w1.heap.size with h' | h'
    · exact h'
    · simp [Array.getElem?_eq_none h'] at hbk
  have hb2 : w2.heap[b]? = some (.cells #[.pointer (some ⟨b, 0, none⟩), v] 210 (0, 0)) := by
    rw [hgrow.block b hlt (fun e => hne e.symm)]
    exact hbk
  have d0 : w2.cell? ⟨b, 0, none⟩ = some (.pointer (some ⟨b, 0, none⟩)) := by rw [Lib.cell_of_heap hb2]; rfl
  have d1 : w2.cell? ⟨b, 1, none⟩ = some v := by rw [Lib.cell_of_heap hb2]; rfl
  have f1 : w2.frozen? ⟨b, 1, none⟩ = false := Lib.frozen_of_heap hb2 1
  obtain ⟨ao, n', cap, rfl⟩ : ∃ ao n' cap, v' = .slice ao n' cap := by
    rcases hown'.2 with ⟨hv, _⟩ | ⟨g, cap, cur, fz, hv, _⟩
    · exact ⟨_, _, _, hv⟩
    · exact ⟨_, _, _, hv⟩
  go_wp2
  go_ret2
  refine ⟨rfl, ?_, ?_⟩
  · exact Lib.BuilderAtF.put (T := 210) (e := 5) hB hb2 (bs' := bs ++ Lib.strCells s) (by simpa [Lib.strCells_length] using hown') (by decide)
  · exact (hb1.grown hgrow (by have := hb1.size; omega) (fun k hk => (hown.lt k hk).1)).setCell (p := ⟨b, 1, none⟩) hB _

/-- So many zero bytes. -/
def zeros (n : Nat) : List UInt8 := List.replicate n 0
theorem zeros_len (n : Nat) : (zeros n).length = n := by simp [zeros]
theorem zeros_add (a b : Nat) : zeros (a + b) = zeros a ++ zeros b := by simp [zeros, List.replicate_append_replicate]
theorem zeros_take {a b : Nat} (h : a ≤ b) : (zeros b).take a = zeros a := by rw [zeros, List.take_replicate, Nat.min_eq_left h]; rfl

theorem run_min3 {P : Program} {w : World} (ts : Array TypeId) (t : TypeId) (x y z : Int) :
    (Builtin.min_ ts t #[.int .i64 x, .int .i64 y, .int .i64 z]).run P w = .ok (.int .i64 (if z < (if y < x then y else x) then z else (if y < x then y else x))) w := by
  simp [Builtin.min_, Builtin.min2]

set_option maxHeartbeats 4000000 in
set_option maxRecDepth 1000000 in
theorem RepZ_many (c : Nat) (w : World) (hc2 : 2 ≤ c) (hc : c ≤ 8192) :
    Calls Tryz.prog 111 #[.string ⟨#[0]⟩, .int .i64 c] w fun e w' => e = .returned (.string (B (zeros c))) ∧ Ext w w' := by
  have hMul := Tryz.bits_Mul 1 c (by omega) (by omega) w
  rw [Nat.one_mul, Nat.div_eq_of_lt (by omega : c < 18446744073709551616), Nat.mod_eq_of_lt (by omega : c < 18446744073709551616)] at hMul
  have hc0 : ((c : Int) == 0) = false := by simp; omega
  have hc1 : ((c : Int) == 1) = false := by simp; omega
  have h8 : ¬ (8192 : Int) < (c : Int) := by omega
  go_enter Tryz.func111, Tryz.ntmps111
  go_upto_region 35 with (go_at_call 146; refine hMul.mono ?_; rintro e W0 ⟨rfl, rfl⟩)
  clear hMul hc0 hc1 h8
  have b0 : Below W0.heap.size W0 (W0.alloc (.cells #[.pointer none, .slice none 0 0] 210)) := (Below.refl _ W0).alloc (Nat.le_refl _) _
  have cG := Tryz.Builder_Grow_fresh W0.heap.size W0.heap.size c (W0.alloc (.cells #[.pointer none, .slice none 0 0] 210)) (Nat.le_refl _) (heap_alloc_new W0 _) b0.size (by omega)
  go_wp2_with (go_at_call 147; refine cG.mono ?_; rintro e W1 ⟨rfl, h1, b1⟩)
  clear cG
  have cW := writeF_any W0.heap.size W0.heap.size [] ⟨#[0]⟩ W1 (Lib.IsBuilderF.of (Or.inr h1)) (by simp [ByteArray.size]) (Nat.le_trans b0.size b1.size)
  go_wp2_with (go_at_call 148; refine cW.mono ?_; rintro e W2 ⟨rfl, h2, b2⟩)
  clear cW h1
  have h2' : Lib.IsBuilderF 210 5 W0.heap.size W0.heap.size (Lib.byteCells (zeros 1)) W2 := by
    rw [List.nil_append, Lib.strCells_eq] at h2
    exact Or.inr h2
  have b02 : Below W0.heap.size W0 W2 := b0.trans (b1.trans b2)
  clear h2 b0 b1 b2
  go_loopg [] (c - 1) (fun g wx => ∃ q : Nat, 1 ≤ q ∧ q + g = c ∧ Lib.IsBuilderF 210 5 W0.heap.size W0.heap.size (Lib.byteCells (zeros q)) wx ∧ Below W0.heap.size W0 wx)
  case atStart => exact ⟨1, Nat.le_refl _, by omega, h2', b02⟩
  case round =>
    obtain ⟨q, hq1, hqg, hB, hbx⟩ := hrel
    have hlq : (Lib.byteCells (zeros q)).length = q := by rw [Lib.byteCells_length, zeros_len]
    have cLen := Tryz.Builder_Len_f W0.heap.size W0.heap.size _ wr hB
    rw [hlq] at cLen
    have cStr := Tryz.Builder_String_any_f W0.heap.size W0.heap.size (zeros q) wr hB hbx.size
    obtain ⟨S, hS⟩ : ∃ S : ByteArray, (⟨(zeros q).toArray⟩ : ByteArray) = S := ⟨_, rfl⟩
    have hSd : S.data.toList = zeros q := by rw [← hS]
    have hSz : S.size = q := by rw [Lib.size_eq, hSd, zeros_len]
    rw [hS] at cStr
    have HS := Lib.hid hS
    have HSd := Lib.hid hSd
    have HSz := Lib.hid hSz
    have Hlq := Lib.hid hlq
    clear hS hSd hSz hlq
    cases gk with
    | zero =>
      obtain rfl : q = c := by omega
      have hQn : ¬ ((q : Int) < (q : Int)) := by omega
      go_wp2_with (first
        | (go_at_call 149; refine cLen.mono ?_; rintro e w9 ⟨rfl, hw⟩; rw [hw]; clear hw)
        | (go_at_call 150; refine cStr.mono ?_; rintro e W3 ⟨rfl, h3, b3⟩))
      go_ret
      exact ⟨by rw [← HS.out]; rfl, hbx.trans b3⟩
    | succ g =>
      have hqc : q < c := by omega
      have hQn : (q : Int) < (c : Int) := by omega
      obtain ⟨k, hk⟩ : ∃ k, k = min (c - q) q := ⟨_, rfl⟩
      have hk1 : 1 ≤ k := by omega
      have hkq : k ≤ q := by omega
      have hkc : q + k ≤ c := by omega
      have hmin3 : ∀ (ts : Array TypeId) (t : TypeId) (W : World), (Builtin.min_ ts t #[.int .i64 ((c : Int) - (q : Int)), .int .i64 (q : Int), .int .i64 (c : Int)]).run Tryz.prog W = .ok (.int .i64 (k : Int)) W := fun ts t W => by
        rw [run_min3]
        congr 2
        omega
      clear hk
      have HSz := HSz.out
      go_wp2_with (first
        | (go_at_call 149; refine cLen.mono ?_; rintro e w9 ⟨rfl, hw⟩; rw [hw]; clear hw)
        | (go_at_call 150; refine cStr.mono ?_; rintro e W3 ⟨rfl, h3, b3⟩))
      have cWr := writeF_any W0.heap.size W0.heap.size _ (S.extract 0 k) W3 h3 (by
        rw [Hlq.out, Lib.size_eq, Lib.extract_data, HSd.out]
        simp only [List.drop_zero, Nat.sub_zero, List.length_take, zeros_len]
        omega) (Nat.le_trans hbx.size b3.size)
      go_wp2_with (go_at_call 148; refine cWr.mono ?_; rintro e W4 ⟨rfl, h4, b4⟩)
      go_roundg (c - (q + k))
      case measure => omega
      case rel =>
        refine ⟨q + k, by omega, by omega, Or.inr ?_, hbx.trans (b3.trans b4)⟩
        rw [Lib.strCells_eq, ← Lib.byteCells_append, Lib.extract_data, HSd.out] at h4
        simp only [List.drop_zero, Nat.sub_zero] at h4
        rw [zeros_take hkq, ← zeros_add] at h4
        exact h4
set_option maxRecDepth 1000000 in
theorem RepZ_one (w : World) : Calls Tryz.prog 111 #[.string ⟨#[0]⟩, .int .i64 1] w fun e w' => e = .returned (.string (B (zeros 1))) ∧ Ext w w' := by
  go_enter Tryz.func111, Tryz.ntmps111
  go_wp2
  go_ret
  exact ⟨rfl, Ext.refl _⟩
set_option maxRecDepth 1000000 in
theorem RepZ_zero (w : World) : Calls Tryz.prog 111 #[.string ⟨#[0]⟩, .int .i64 0] w fun e w' => e = .returned (.string (B (zeros 0))) ∧ Ext w w' := by
  go_enter Tryz.func111, Tryz.ntmps111
  go_wp2
  go_ret
  exact ⟨rfl, Ext.refl _⟩
theorem RepZ_any (c : Nat) (w : World) (hc : c ≤ 8192) : Calls Tryz.prog 111 #[.string ⟨#[0]⟩, .int .i64 c] w fun e w' => e = .returned (.string (B (zeros c))) ∧ Ext w w' := by
  rcases c with _ | _ | c
  · exact RepZ_zero w
  · exact RepZ_one w
  · exact RepZ_many (c + 2) w (by omega) hc
end Go.Proofs.YtneefmgidplbcaaGreatDoor

/-! TreeCut -/
namespace Go.Proofs.YtneefmgidplbcaaGreatDoor
open Go Go.RowKit Go.Shelf Go.Proofs

theorem filled_eq (s : ByteArray) (n m r : Nat) (hm : m = min s.size n) (hr : r = n - s.size) : s.extract 0 m ++ B (zeros r) = filledT s n := by
  have hl : s.data.toList.length = s.size := Array.length_toList
  refine data_inj ?_
  rw [filledT, toList_B]
  have h1 : (s.extract 0 m ++ B (zeros r)).data.toList = (s.extract 0 m).data.toList ++ (B (zeros r)).data.toList := by simp
  rw [h1, toList_B, Lib.extract_data]
  simp only [List.drop_zero, Nat.sub_zero]
  rw [zeros, hr]
  congr 1
  rw [hm]
  rcases Nat.le_total s.size n with h | h
  · rw [Nat.min_eq_left h, List.take_of_length_le (by omega), List.take_of_length_le (by omega)]
  · rw [Nat.min_eq_right h]

set_option maxHeartbeats 2000000 in
theorem Filled_any (s : ByteArray) (n : Nat) (w : World) (hn : n ≤ 256) (hs : s.size ≤ 256) :
    Calls Tryz.prog 66 #[.string s, .int .i64 n] w fun e w' => e = .returned (.string (filledT s n)) ∧ Ext w w' := by
  obtain ⟨m, hm⟩ : ∃ m, m = min s.size n := ⟨_, rfl⟩
  obtain ⟨r, hr⟩ : ∃ r, r = n - s.size := ⟨_, rfl⟩
  have heq := filled_eq s n m r hm hr
  rw [← heq]
  have hm1 : m ≤ s.size := by omega
  have hr1 : r ≤ 8192 := by omega
  have hb1 : (0 : Int) ≤ min (s.size : Int) (n : Int) := by omega
  have hb2 : min (s.size : Int) (n : Int) ≤ (s.size : Int) := by omega
  have hbm : (min (s.size : Int) (n : Int)).toNat = m := by omega
  have hmr : max ((n : Int) - (s.size : Int)) 0 = (r : Int) := by omega
  have hsub : IntKind.i64.wrap ((n : Int) - (s.size : Int)) = (n : Int) - (s.size : Int) := IntWalk.i64_in _ ⟨by omega, by omega⟩
  have hz1 : (s.extract 0 m).size ≤ 256 := by rw [ByteArray.size_extract]; omega
  have hz2 : (B (zeros r)).size ≤ 8192 := by rw [size_B, zeros_len]; exact hr1
  have HR := fun w => RepZ_any r w hr1
  clear hm hr heq
  go_enter Tryz.func66, Tryz.ntmps66
  go_wp2
  (refine wp_region_quiet_below (by kernel_rfl) (by kernel_rfl) ?_; (repeat (go_big_quiet_step ((go_at_call 111; exact Calls.regrown_of (HR _))))); refine wpQuiet_nil ?_; intro _ hq; obtain ⟨⟨dq, osq⟩, hq2⟩ := hq; subst hq2)
  go_wp2
  go_ret
  exact ⟨rfl, below_regrown w dq osq⟩

/-! ### with, without -/

theorem perm_rising {ys zs : List Ent} (hp : ys.Perm zs) (hs : ys.Pairwise fun a b => lt b.path a.path = false) (hz : zs.Pairwise fun a b => a.path ≠ b.path) : Rising ys := by
  have hy : ys.Pairwise fun a b => a.path ≠ b.path := (hp.pairwise_iff (fun {a b} h e => h e.symm)).2 hz
  refine (hs.and hy).imp fun {a b} ⟨h1, h2⟩ => ?_
  rcases h3 : lt a.path b.path with _ | _
  · exact absurd (lt_total h3 h1) h2
  · rfl

theorem sorted_ins {t ys : List Ent} {e : Ent} (hr : Rising t) (hp : ys.Perm (delT t e.path ++ [e])) (hs : ys.Pairwise fun a b => lt b.path a.path = false) : ys = insT t e := by
  have hz : (delT t e.path ++ [e]).Pairwise fun a b => a.path ≠ b.path := by
    rw [List.pairwise_append]
    refine ⟨(rising_delT hr e.path).imp fun h => lt_ne h, by simp, fun a ha b hb => ?_⟩
    rw [List.mem_singleton] at hb
    subst hb
    exact (mem_delT.1 ha).2
  refine rising_ext (perm_rising hp hs hz) (rising_insT hr e) fun x => ?_
  rw [hp.mem_iff, List.mem_append, List.mem_singleton, mem_delT, mem_insT]
  exact or_comm

theorem with1_any (cb : Nat) (y x : Ent) (W : World) (hq : Blk W cb 66 #[.string y.path, .int .i64 y.kind, .string y.data]) :
    Calls Tryz.prog 113 #[.agg #[.string x.path, .int .i64 x.kind, .string x.data], .pointer (some ⟨cb, 0, none⟩)] W fun e w' => e = .returned (.bool (decide (x.path = y.path))) ∧ Ext W w' := by
  have hq0 := hq.three.1.1
  have hq2 := Lib.cell?_alloc_some (.cells #[.string x.path, .int .i64 x.kind, .string x.data] 66) hq0
  clear hq
  go_enter Tryz.func113, Tryz.ntmps113
  go_wp2
  go_ret
  exact ⟨congrArg (fun b => Ending.returned (.bool b)) (beq_path x.path y.path), (by repeat (first | exact Ext.refl _ | assumption | refine Ext.alloc ?_ _ | refine Ext.drew ?_ | refine Ext.drewN ?_ _ | refine Ext.setCell ?_ (by first | omega | (simp; done) | (simp; omega)) _ | refine Ext.trans ?_ (by assumption)))⟩
theorem asks_with (cb : Nat) (y : Ent) : Asks 113 cb (fun x => decide (x.path = y.path)) (fun W => Blk W cb 66 #[.string y.path, .int .i64 y.kind, .string y.data]) where
  enter := enters_of Tryz.func113 (by kernel_rfl) rfl
  call := fun x W _ hq => with1_any cb y x W hq
  ext := fun W W' h he => h.ext he

theorem without1_any (cb : Nat) (p : ByteArray) (x : Ent) (W : World) (hq : W.cell? ⟨cb, 0, none⟩ = some (.string p)) :
    Calls Tryz.prog 185 #[.agg #[.string x.path, .int .i64 x.kind, .string x.data], .pointer (some ⟨cb, 0, none⟩)] W fun e w' => e = .returned (.bool (decide (x.path = p))) ∧ Ext W w' := by
  have hq2 := Lib.cell?_alloc_some (.cells #[.string x.path, .int .i64 x.kind, .string x.data] 66) hq
  go_enter Tryz.func185, Tryz.ntmps185
  go_wp2
  go_ret
  exact ⟨congrArg (fun b => Ending.returned (.bool b)) (beq_path x.path p), (by repeat (first | exact Ext.refl _ | assumption | refine Ext.alloc ?_ _ | refine Ext.drew ?_ | refine Ext.drewN ?_ _ | refine Ext.setCell ?_ (by first | omega | (simp; done) | (simp; omega)) _ | refine Ext.trans ?_ (by assumption)))⟩
theorem asks_without (cb : Nat) (p : ByteArray) : Asks 185 cb (fun x => decide (x.path = p)) (fun W => W.cell? ⟨cb, 0, none⟩ = some (.string p)) where
  enter := enters_of Tryz.func185 (by kernel_rfl) rfl
  call := fun x W _ hq => without1_any cb p x W hq
  ext := fun W W' h he => he.cell h

set_option maxHeartbeats 1000000 in
theorem with2_any : CmpPaths 114 := fun x y W => by
  have H := fun w => Tryz.strings_Compare x.path y.path w
  show Calls Tryz.prog 114 #[.agg #[.string x.path, .int .i64 x.kind, .string x.data], .agg #[.string y.path, .int .i64 y.kind, .string y.data]] W _
  go_enter Tryz.func114, Tryz.ntmps114
  go_wp2_with (go_at_call 90; refine (H _).mono ?_; rintro e w' ⟨rfl, rfl⟩)
  go_ret
  exact ⟨rfl, 0, _, by rw [Sort.alloc_eq_grow, Sort.alloc_eq_grow, Sort.grow_grow]; rfl⟩

def WithoutAns (t : List Ent) (p : ByteArray) (w : World) (e : Ending) (w' : World) : Prop := ∃ v, e = .returned v ∧ RdE w' v (delT t p) ∧ Ext w w'

set_option maxHeartbeats 4000000 in
theorem Without_any (v : Value) (t : List Ent) (p : ByteArray) (w : World) (hv : RdE w v t) (hl : t.length ≤ 1000000) :
    Calls Tryz.prog 142 #[v, .string p] w (WithoutAns t p w) := by
  have HC := fun W h => CloneE_any v t W h (by omega)
  have hfit := RdE.fits hv
  have Hv := Lib.hid hv
  have Hfit := Lib.hid hfit
  obtain ⟨A, c, rfl, _, _, _⟩ := rdE_form hv rfl
  clear hv hfit
  go_enter Tryz.func142, Tryz.ntmps142
  go_wp2_with (go_at_call 55; refine (HC _ (Hv.out.ext (by exact (by repeat (first | exact Ext.refl _ | assumption | refine Ext.alloc ?_ _ | refine Ext.drew ?_ | refine Ext.drewN ?_ _ | refine Ext.setCell ?_ (by first | omega | (simp; done) | (simp; omega)) _ | refine Ext.trans ?_ (by assumption)))))).mono ?_; rintro e W1 ⟨v1, rfl, hrow1, hE1⟩)
  have hE0 : Ext w W1 := Ext.trans (by exact (by repeat (first | exact Ext.refl _ | assumption | refine Ext.alloc ?_ _ | refine Ext.drew ?_ | refine Ext.drewN ?_ _ | refine Ext.setCell ?_ (by first | omega | (simp; done) | (simp; omega)) _ | refine Ext.trans ?_ (by assumption)))) hE1
  have hq : W1.cell? ⟨w.heap.size, 0, none⟩ = some (.string p) := ((Blk.new w 9 #[.string p]).ext hE1).one.1
  have hD := DelE_any (asks_without w.heap.size p) (w.alloc (.cells #[.string p] 9)).heap.size (fun W gb j u hgb h => by
    rw [World.size_alloc] at hgb
    exact (World.cell?_setCell_other _ _ _ _ (fun e => by cases e; omega)).trans h) v1 t w W1 hE0 (by simp) hrow1 hl Hfit.out hq
  obtain ⟨A1, c1, rfl⟩ := own_form hrow1
  refine hD.mono ?_
  rintro e W2 ⟨v2, rfl, hrow2, hE2, _⟩
  obtain ⟨A2, c2, rfl⟩ := own_form hrow2
  have hrd : RdE W2 (.slice A2 (delT t p).length c2) (delT t p) := RdE.of_own hrow2 (Nat.le_trans (delT_len t p) (by omega)) (fun x hx => Hfit.out x (mem_delT.1 hx).1)
  have Hrd := Lib.hid hrd
  clear hrow2 hrd hD hq hrow1
  go_wp2
  go_ret
  exact ⟨_, rfl, Hrd.out, hE2⟩

/-! ### with -/

def WithOk (l : List Ent) (w : World) (e : Ending) (w' : World) : Prop := ∃ v, e = .returned (.tuple #[v, .nilIface]) ∧ RdE w' v l ∧ Ext w w'
def WithBad (c : Int) (w : World) (e : Ending) (w' : World) : Prop := e = .returned (.tuple #[.slice none 0 0, .iface 88 (.int .i64 c)]) ∧ Ext w w'
def WithAns (r : Except Int (List Ent)) (w : World) (e : Ending) (w' : World) : Prop := match r with
  | .ok l => WithOk l w e w'
  | .error c => WithBad c w e w'

theorem eg_with2 : ∀ args w, (callFunc 114 args).run Tryz.prog w = .ok (.enter 114 args) w := enters_of Tryz.func114 (by kernel_rfl) rfl

theorem insT_fits {t : List Ent} {e : Ent} (ht : ∀ x ∈ t, x.fits) (he : e.fits) : ∀ x ∈ insT t e, x.fits := by
  intro x hx
  rcases mem_insT.1 hx with rfl | ⟨h, _⟩
  · exact he
  · exact ht x h

theorem flatE_snoc (l : List Ent) (e : Ent) : flatE (l ++ [e]) = flatE l ++ [.string e.path, .int .i64 e.kind, .string e.data] := by
  rw [flatE, List.flatMap_append]
  rfl

instance inhEntT : Inhabited Ent := ⟨⟨⟨#[]⟩, 0, ⟨#[]⟩⟩⟩

set_option maxHeartbeats 8000000 in
set_option maxRecDepth 20000 in
theorem With_any (v : Value) (t : List Ent) (x : Ent) (w : World) (hv : RdE w v t) (hl : t.length ≤ 900000) (hr : Rising t) (hx : x.fits) :
    Calls Tryz.prog 67 #[v, .agg #[.string x.path, .int .i64 x.kind, .string x.data]] w (WithAns (withT t x) w) := by
  have HC := fun W h => CloneE_any v t W h (by omega)
  have hfit := RdE.fits hv
  have Hv := Lib.hid hv
  have Hfit := Lib.hid hfit
  have Hr := Lib.hid hr
  have Hx := Lib.hid hx
  obtain ⟨i0, hi, hz0, hz1, hz2⟩ := info_parts info_ent
  obtain ⟨A, c, rfl, _, _, _⟩ := rdE_form hv rfl
  obtain ⟨m, hm⟩ : ∃ m, (delT t x.path).length = m := ⟨_, rfl⟩
  have hmt : m ≤ t.length := by rw [← hm]; exact delT_len t x.path
  have hil : (insT t x).length = m + 1 := by rw [insT_len, hm]
  have Hm := Lib.hid hm
  have Hil := Lib.hid hil
  have hw : withT t x = if m + 1 ≤ 1024 then .ok (insT t x) else .error 9 := by rw [withT, hil]
  obtain ⟨R, hR⟩ : ∃ R, withT t x = R := ⟨_, rfl⟩
  rw [hR] at hw ⊢
  have Hw := Lib.hid hw
  obtain ⟨K, hK⟩ : ∃ K, WithAns R w = K := ⟨_, rfl⟩
  rw [hK]
  have HK := Lib.hid hK
  clear hv hfit hr hx hm hil hw hR hK
  go_enter Tryz.func67, Tryz.ntmps67
  go_wp2_with (go_at_call 55; refine (HC _ (Hv.out.ext (by exact (by repeat (first | exact Ext.refl _ | assumption | refine Ext.alloc ?_ _ | refine Ext.drew ?_ | refine Ext.drewN ?_ _ | refine Ext.setCell ?_ (by first | omega | (simp; done) | (simp; omega)) _ | refine Ext.trans ?_ (by assumption)))))).mono ?_; rintro e W1 ⟨v1, rfl, hrow1, hE1⟩)
  have hE0 : Ext w W1 := Ext.trans (by exact (by repeat (first | exact Ext.refl _ | assumption | refine Ext.alloc ?_ _ | refine Ext.drew ?_ | refine Ext.drewN ?_ _ | refine Ext.setCell ?_ (by first | omega | (simp; done) | (simp; omega)) _ | refine Ext.trans ?_ (by assumption)))) hE1
  have hBx : Blk W1 w.heap.size 66 #[.string x.path, .int .i64 x.kind, .string x.data] := (Blk.new w 66 #[.string x.path, .int .i64 x.kind, .string x.data]).ext hE1
  have hD := DelE_any (asks_with w.heap.size x) (w.alloc (.cells #[.string x.path, .int .i64 x.kind, .string x.data] 66)).heap.size (fun W gb j u hgb h => by
    rw [World.size_alloc] at hgb
    exact (Below.heap_setCell _ _ _ _ (fun e => absurd (show gb = w.heap.size from by first | exact e | exact e.symm) (by omega))).trans h) v1 t w W1 hE0 (by simp) hrow1 (by omega) Hfit.out hBx
  obtain ⟨A1, c1, rfl⟩ := own_form hrow1
  refine hD.mono ?_
  rintro e W2 ⟨v2, rfl, hrow2, hE2, hB2⟩
  obtain ⟨⟨b0, _⟩, ⟨b1, _⟩, ⟨b2, _⟩⟩ := hB2.three
  have hrow2' : W2.ownsRow (w.heap.size + 1) 66 3 v2 m (flatE (delT t x.path)) := by
    rw [World.size_alloc] at hrow2
    rw [← Hm.out]; exact hrow2
  have Hrow2 := Lib.hid hrow2'
  obtain ⟨A2, c2, rfl⟩ := own_form hrow2'
  have hsz2 : w.heap.size + 1 ≤ W2.heap.size := hB2.lt
  clear hrow2 hrow2' hD hrow1 hBx HC hB2
  go_wp2_with (at_builtin; refine wpList_append_own _ rfl _ _ 54 rfl (w.heap.size + 1) 66 i0 (.agg #[.string ⟨#[]⟩, .int .i64 0, .string ⟨#[]⟩]) 3 40 Tryz.underlying54 hi hz0 hz1 hz2 rfl (by decide) _ _ _ rfl (Hrow2.out.alloc _) ⟨W2.heap.size, 0, none⟩ 1 1 [.string x.path, .int .i64 x.kind, .string x.data] rfl rfl (World.news_of_block (cs := #[.string x.path, .int .i64 x.kind, .string x.data]) (t := 66) (fr := (0, 0)) (Blk.new W2 _ _)) (by simp [Value.oneCell']) (by unfold maxLen; omega) (by omega) (by rw [World.size_alloc]; omega) ?_; intro v3 w1 hown hgrow hnil')
  have hown' : w1.ownsRow (w.heap.size + 1) 66 3 v3 (delT t x.path ++ [x]).length (flatE (delT t x.path ++ [x])) := by
    rw [flatE_snoc, List.length_append, List.length_singleton, Hm.out]
    exact hown
  have hE3 : Ext w w1 := Ext.grown (hE2.alloc _) hgrow (fun j hj => Nat.le_of_succ_le (Hrow2.out.lt j hj).1)
  have HS := sortE_any 114 with2_any eg_with2 (w.heap.size + 1) v3 _ w1 hown' (by rw [List.length_append, List.length_singleton, Hm.out]; omega)
  have hlen3 : (delT t x.path ++ [x]).length = m + 1 := by rw [List.length_append, List.length_singleton, Hm.out]
  rw [hlen3] at hown'
  have Hown := Lib.hid hown'
  obtain ⟨A3, c3, rfl⟩ := own_form hown'
  have Hlen3 := Lib.hid hlen3
  clear hown hown' hgrow hnil' hlen3
  refine HS.mono ?_
  rintro e W4 ⟨rfl, ys, hperm, hsort, hrow4, hgr4⟩
  rw [Hlen3.out] at hrow4
  have hys : ys = insT t x := sorted_ins Hr.out hperm hsort
  subst hys
  have hE4 : Ext w W4 := Ext.grown hE3 (hgr4 _ rfl) (fun j hj => Nat.le_of_succ_le (Hown.out.lt j hj).1)
  have hrd : m + 1 ≤ 1024 → RdE W4 (.slice A3 (m + 1) c3) (insT t x) := fun _ => RdE.of_own (by rw [Hil.out]; exact hrow4) (by rw [Hil.out]; omega) (insT_fits Hfit.out Hx.out)
  have Hrd := Lib.hid hrd
  clear hperm hsort hrow4 hgr4 hrd HS
  by_cases hm4 : m + 1 ≤ 1024
  · go_wp2
    rw [← HK.out, show R = .ok (insT t x) by rw [Hw.out, if_pos hm4]]
    exact ⟨_, rfl, Hrd.out hm4, hE4⟩
  · go_wp2
    rw [← HK.out, show R = .error 9 by rw [Hw.out, if_neg hm4]]
    exact ⟨rfl, hE4⟩
end Go.Proofs.YtneefmgidplbcaaGreatDoor

/-! Under -/
namespace Go.Proofs.YtneefmgidplbcaaGreatDoor
open Go Go.RowKit Go.Shelf Go.Proofs

theorem join_app (b : List (List UInt8)) (hb : b ≠ []) : ∀ (a : List (List UInt8)), a ≠ [] → Lib.join (a ++ b) [47] = Lib.join a [47] ++ 47 :: Lib.join b [47]
  | [], h => absurd rfl h
  | [x], _ => by
    rcases b with _ | ⟨y, b⟩
    · exact absurd rfl hb
    · show Lib.join (x :: y :: b) [47] = _
      rw [join_cons2, Lib.join_one]
  | x :: y :: a, _ => by
    have ih := join_app b hb (y :: a) (by simp)
    show Lib.join (x :: y :: (a ++ b)) [47] = _
    rw [join_cons2, join_cons2, List.append_assoc, List.cons_append, ← ih]
    rfl

theorem data_pathOf {xs : List ByteArray} (h : xs ≠ []) : (pathOf xs).data.toList = 47 :: Lib.join (xs.map (·.data.toList)) [47] := by
  rw [pathOf, if_neg h, toList_B]

theorem map_data_inj {xs ys : List ByteArray} (h : xs.map (·.data.toList) = ys.map (·.data.toList)) : xs = ys := by
  rw [← map_B_toList xs, h, map_B_toList]

/-- What path.Under asks. -/
theorem under_is (p q : ByteArray) : underB p q = (decide (0 ≤ deep q) && decide (deep q < deep p) && (decide (q = ⟨#[47]⟩) || Lib.hasPrefix p.data.toList (q.data.toList ++ [47]))) := by
  rw [underB, deep, deep]
  rcases hq : names q with _ | ys
  · rcases hp : names p with _ | xs <;> simp
  · rcases hp : names p with _ | xs
    · simp
      omega
    · obtain ⟨vx, ex⟩ := ValN.of hp
      obtain ⟨vy, ey⟩ := ValN.of hq
      by_cases hlt : ys.length < xs.length
      · have h1 : (decide ((0 : Int) ≤ (ys.length : Int)) && decide ((ys.length : Int) < (xs.length : Int))) = true := by
          rw [Bool.and_eq_true, decide_eq_true_eq, decide_eq_true_eq]; omega
        dsimp only
        rw [decide_eq_true hlt, Bool.true_and, h1, Bool.true_and, Bool.eq_iff_iff, decide_eq_true_eq, Bool.or_eq_true, decide_eq_true_eq]
        by_cases hy : ys = []
        · subst hy
          constructor
          · intro _
            left
            rw [← ey]
            rfl
          · intro _
            rfl
        · have hx : xs ≠ [] := List.ne_nil_of_length_pos (by omega)
          have hroot : q ≠ ⟨#[47]⟩ := names_ne_root hq hy
          have hnx : ∀ x ∈ xs.map (·.data.toList), ∀ b ∈ x, b ≠ 47 := by
            intro x hx2
            obtain ⟨y, hy2, rfl⟩ := List.mem_map.1 hx2
            exact nameOk_no (List.all_eq_true.1 vx.1 y hy2)
          have hny : ∀ x ∈ ys.map (·.data.toList), ∀ b ∈ x, b ≠ 47 := by
            intro x hx2
            obtain ⟨y, hy2, rfl⟩ := List.mem_map.1 hx2
            exact nameOk_no (List.all_eq_true.1 vy.1 y hy2)
          rw [Lib.hasPrefix, List.isPrefixOf_iff_prefix, ← ex, ← ey, data_pathOf hx, data_pathOf hy]
          constructor
          · intro h
            right
            have e : xs = ys ++ xs.drop ys.length := by
              have := List.take_append_drop ys.length xs
              rw [h] at this
              exact this.symm
            have hr : xs.drop ys.length ≠ [] := by
              intro h2
              have := congrArg List.length h2
              rw [List.length_drop] at this
              simp at this
              omega
            rw [e, List.map_append, join_app _ (by simpa using hr) _ (by simpa using hy)]
            exact ⟨Lib.join ((xs.drop ys.length).map (·.data.toList)) [47], by simp⟩
          · rintro (h | ⟨r, h⟩)
            · rw [ey] at h
              exact absurd h hroot
            · rw [List.append_assoc, List.cons_append, List.cons.injEq] at h
              have h2 := h.2
              rw [List.singleton_append] at h2
              have h3 := segs_join _ (by simpa using hx) hnx
              have h4 := segs_join _ (by simpa using hy) hny
              rw [← h2, segs_append, h4] at h3
              have h5 := congrArg (List.take ys.length) h3
              rw [List.take_append_of_le_length (by simp), List.take_of_length_le (by simp), ← List.map_take] at h5
              exact (map_data_inj h5).symm
      · have h1 : decide ((ys.length : Int) < (xs.length : Int)) = false := by
          rw [decide_eq_false_iff_not]; omega
        dsimp only
        rw [decide_eq_false hlt, h1]
        simp

theorem entOk_fits {e : Ent} (h : entOk e = true) : e.fits := by
  obtain ⟨ys, z, _, _, h3, h4, h5, h6⟩ := ent_names h
  have h7 : e.path.size ≤ 55 := by
    rw [h6]
    exact pathOf_size (by rw [List.all_append, h3]; simpa using h4) (by rw [List.length_append, List.length_singleton]; omega)
  have h8 : e.data.size ≤ 256 := by
    by_cases hk : e.kind = 1
    · exact entOk_data h hk
    · rw [entOk, Bool.and_eq_true] at h
      have h9 := h.2
      rw [if_neg hk, Bool.and_eq_true, List.isEmpty_iff] at h9
      have : e.data = ⟨#[]⟩ := data_inj h9.2
      rw [this]
      decide
  exact ⟨by omega, by omega⟩

theorem root_eq (q : ByteArray) : (q.toList == [47]) = decide (q = ⟨#[47]⟩) := by
  rw [Bool.eq_iff_iff, beq_iff_eq, decide_eq_true_eq]
  constructor
  · intro h
    exact data_inj (by rw [← toList_eq, h])
  · rintro rfl
    rw [toList_eq]

set_option maxHeartbeats 4000000 in
theorem Under_any (p q : ByteArray) (w : World) (hp : p.size ≤ 140737488355328) (hq : q.size ≤ 70368744177664) :
    Calls Tryz.prog 62 #[.string p, .string q] w fun e w' => e = .returned (.bool (underB p q)) ∧ Ext w w' := by
  have HD := fun w => Deep_any p w (by omega)
  have HD2 := fun w => Deep_any q w (by omega)
  have HP := fun w => Tryz.strings_HasPrefix p (q ++ ⟨#[47]⟩) w
  have e0 : (q ++ ⟨#[47]⟩).data.toList = q.data.toList ++ [47] := by simp
  rw [e0] at HP
  have hsz : (q ++ (⟨#[47]⟩ : ByteArray)).size = q.size + 1 := by simp [ByteArray.size_append]; rfl
  have hU := under_is p q
  have hr := root_eq q
  obtain ⟨a, ha⟩ : ∃ a, deep p = a := ⟨_, rfl⟩
  obtain ⟨b, hb⟩ : ∃ b, deep q = b := ⟨_, rfl⟩
  obtain ⟨r, hr2⟩ : ∃ r, decide (q = ⟨#[47]⟩) = r := ⟨_, rfl⟩
  obtain ⟨h, hh⟩ : ∃ h, Lib.hasPrefix p.data.toList (q.data.toList ++ [47]) = h := ⟨_, rfl⟩
  rw [ha] at HD
  rw [hb] at HD2
  rw [hh] at HP
  rw [ha, hb, hr2, hh] at hU
  rw [hr2] at hr
  rw [hU]
  clear hU ha hb hr2 hh e0
  by_cases h1 : 0 ≤ b
  · by_cases h2 : b < a
    · have e : (decide (0 ≤ b) && decide (b < a) && (r || h)) = (r || h) := by rw [decide_eq_true h1, decide_eq_true h2]; rfl
      rw [e]
      clear e
      cases r
      · go_enter Tryz.func62, Tryz.ntmps62
        go_wp2_with (first | (go_at_call 36; ((with_reducible refine (HD _).mono ?_)); rintro e w1 ⟨rfl, hE1⟩) | (go_at_call 36; ((with_reducible refine (HD2 _).mono ?_)); rintro e w2 ⟨rfl, hE2⟩) | (go_at_call 96; refine (HP _).mono ?_; rintro e w3 ⟨rfl, rfl⟩))
        go_ret
        exact ⟨by first | rfl | simp, by exact (by repeat (first | exact Ext.refl _ | assumption | refine Ext.alloc ?_ _ | refine Ext.drew ?_ | refine Ext.drewN ?_ _ | refine Ext.setCell ?_ (by first | omega | (simp; done) | (simp; omega)) _ | refine Ext.trans ?_ (by assumption)))⟩
      · go_enter Tryz.func62, Tryz.ntmps62
        go_wp2_with (first | (go_at_call 36; ((with_reducible refine (HD _).mono ?_)); rintro e w1 ⟨rfl, hE1⟩) | (go_at_call 36; ((with_reducible refine (HD2 _).mono ?_)); rintro e w2 ⟨rfl, hE2⟩))
        go_ret
        exact ⟨by first | rfl | simp, by exact (by repeat (first | exact Ext.refl _ | assumption | refine Ext.alloc ?_ _ | refine Ext.drew ?_ | refine Ext.drewN ?_ _ | refine Ext.setCell ?_ (by first | omega | (simp; done) | (simp; omega)) _ | refine Ext.trans ?_ (by assumption)))⟩
    · have e : (decide (0 ≤ b) && decide (b < a) && (r || h)) = false := by rw [decide_eq_true h1, decide_eq_false h2]; rfl
      rw [e]
      clear e
      go_enter Tryz.func62, Tryz.ntmps62
      go_wp2_with (first | (go_at_call 36; ((with_reducible refine (HD _).mono ?_)); rintro e w1 ⟨rfl, hE1⟩) | (go_at_call 36; ((with_reducible refine (HD2 _).mono ?_)); rintro e w2 ⟨rfl, hE2⟩))
      go_ret
      exact ⟨by first | rfl | simp, by exact (by repeat (first | exact Ext.refl _ | assumption | refine Ext.alloc ?_ _ | refine Ext.drew ?_ | refine Ext.drewN ?_ _ | refine Ext.setCell ?_ (by first | omega | (simp; done) | (simp; omega)) _ | refine Ext.trans ?_ (by assumption)))⟩
  · have e : (decide (0 ≤ b) && decide (b < a) && (r || h)) = false := by rw [decide_eq_false h1]; rfl
    rw [e]
    clear e
    go_enter Tryz.func62, Tryz.ntmps62
    go_wp2_with (first | (go_at_call 36; ((with_reducible refine (HD _).mono ?_)); rintro e w1 ⟨rfl, hE1⟩) | (go_at_call 36; ((with_reducible refine (HD2 _).mono ?_)); rintro e w2 ⟨rfl, hE2⟩))
    go_ret
    exact ⟨by first | rfl | simp, by exact (by repeat (first | exact Ext.refl _ | assumption | refine Ext.alloc ?_ _ | refine Ext.drew ?_ | refine Ext.drewN ?_ _ | refine Ext.setCell ?_ (by first | omega | (simp; done) | (simp; omega)) _ | refine Ext.trans ?_ (by assumption)))⟩
end Go.Proofs.YtneefmgidplbcaaGreatDoor

/-! InsE -/
namespace Go.Proofs.YtneefmgidplbcaaGreatDoor
open Go Go.RowKit Go.Shelf Go.Proofs

theorem shape_of {w : World} {b : Nat} {t : TypeId} {cs : Array Value} (h : Blk w b t cs) : w.shape? b = some (t, cs.size) := by
  rw [Blk] at h
  simp [World.shape?, h]

theorem run_copy3 (w : World) (ty : TypeId) (b o dLen dCap : Nat) (a : Addr) (sLen sCap : Nat) (cs : List Value) (hn : cs.length = Nat.min sLen dLen * 3)
    (hsrc : ∀ j v, cs[j]? = some v → w.cell? (a.add j) = some v) (hc : ∀ j, j < cs.length → (w.cell? ⟨b, o + j, none⟩).isSome = true) (hf : ∀ j, j < cs.length → w.frozen? ⟨b, o + j, none⟩ = false) (h1 : ∀ v ∈ cs, v.oneCell' = true) :
    (Builtin.copy_ #[54, 54] ty #[.slice (some ⟨b, o, none⟩) dLen dCap, .slice (some a) sLen sCap]).run Tryz.prog w = .ok (goInt (Nat.min sLen dLen)) (w.setCells b o cs) := by
  have hl := run_loadCells_list (P := Tryz.prog) w a cs hsrc
  have hst := run_storeCells_cells (P := Tryz.prog) b o cs 0 w (by simpa using hc) (by simpa using hf) h1
  obtain ⟨i0, hi, hz0, hz1, hz2⟩ := info_parts info_ent
  simp [Builtin.copy_, run_underlying Tryz.underlying54, Builtin.lenOf, Builtin.firstCells, sizeOf, typeInfo, hi, hz1, ← hn, hl, hst]

theorem Blk.cellIs {w : World} {b : Nat} {t : TypeId} {cs : Array Value} (h : Blk w b t cs) (j : Nat) : w.cell? ⟨b, j, none⟩ = cs[j]? := by
  rw [Blk] at h
  simp [World.cell?, h]

theorem Blk.setCells {b : Nat} {t : TypeId} : ∀ (vs : List Value) (o : Nat) (w : World) (cs : Array Value), Blk w b t cs → ∃ cs' : Array Value, cs'.size = cs.size ∧ Blk (w.setCells b o vs) b t cs' ∧ w.grownBy (w.setCells b o vs) (some b)
  | [], _, w, cs, h => ⟨cs, rfl, h, ⟨rfl, rfl, rfl, Nat.le_refl _, fun _ _ _ => rfl⟩⟩
  | v :: r, o, w, cs, h => by
    obtain ⟨cs', h1, h2, h3⟩ := Blk.setCells r (o + 1) (w.setCell ⟨b, o, none⟩ v) _ (h.set o v)
    refine ⟨cs', by rw [h1]; simp, h2, World.grownBy.trans ?_ h3⟩
    refine ⟨rfl, rfl, rfl, by simp, fun k hk hne => ?_⟩
    exact Below.heap_setCell _ _ _ _ (fun e => hne (congrArg some e))

theorem row_of {W : World} {g cap m base : Nat} {cs : Array Value} {target : List Value} (hb : Blk W g 66 cs) (hsz : cs.size = cap * 3) (hm : m ≤ cap) (hcap : cap ≤ maxLen) (hbase : base ≤ g) (hl : target.length = m * 3)
    (hc : ∀ (j : Nat) (h : j < target.length), W.cell? ⟨g, j, none⟩ = some target[j]) : W.ownsRow base 66 3 (.slice (some ⟨g, 0, none⟩) m cap) m target := by
  refine ⟨hl, .inr ⟨g, cap, cs, rfl, hbase, hb, hm, hcap, hsz, ?_⟩⟩
  have hm3 : m * 3 ≤ cap * 3 := Nat.mul_le_mul_right 3 hm
  apply List.ext_getElem?
  intro j
  by_cases hj : j < m * 3
  · have h1 := hc j (by omega)
    rw [hb.cellIs] at h1
    rw [List.getElem?_take_of_lt hj, Array.getElem?_toList, h1, List.getElem?_eq_getElem (by omega)]
  · rw [List.getElem?_take_eq_none (by omega), List.getElem?_eq_none (by omega)]

/-- What Insert answers. -/
def InsAns (base : Nat) (w0 : World) (ys : List Ent) (e : Ending) (w' : World) : Prop := ∃ v', e = .returned v' ∧ w'.ownsRow base 66 3 v' ys.length (flatE ys) ∧ Ext w0 w'

variable {xs : List Ent} {x : Ent}
theorem flat_app2 (a b : List Ent) : flatE (a ++ b) = flatE a ++ flatE b := by simp [flatE]
theorem ins_flat (k : Nat) : flatE (xs.take k ++ x :: xs.drop k) = flatE (xs.take k) ++ (x.cells ++ flatE (xs.drop k)) := by simp [flatE]
theorem ins_len {k : Nat} (hk : k ≤ xs.length) : (xs.take k ++ x :: xs.drop k).length = xs.length + 1 := by
  rw [List.length_append, List.length_cons, List.length_take, List.length_drop]; omega

set_option maxHeartbeats 4000000 in
set_option maxRecDepth 100000 in
theorem Ins_end (base : Nat) (v : Value) (vb : Nat) (w0 w : World) (hE0 : Ext w0 w) (hb0 : w0.heap.size ≤ base) (hbw : base ≤ w.heap.size) (hrow : w.ownsRow base 66 3 v xs.length (flatE xs)) (hl : xs.length ≤ 1000000)
    (hvb : Blk w vb 66 #[.string x.path, .int .i64 x.kind, .string x.data]) :
    Calls Tryz.prog 184 #[v, .int .i64 xs.length, .slice (some ⟨vb, 0, none⟩) 1 1] w (InsAns base w0 (xs ++ [x])) := by
  obtain ⟨i0, hi, hz0, hz1, hz2⟩ := info_parts info_ent
  obtain ⟨n, hn⟩ : ∃ n, xs.length = n := ⟨_, rfl⟩
  rw [hn] at hrow hl ⊢
  have Hn := Lib.hid hn
  have Hrow := Lib.hid hrow
  have Hvb := Lib.hid hvb
  have Hcap : ∃ A cap, v = .slice A n cap ∧ n ≤ cap ∧ cap ≤ 9223372036854775807 ∧ (A = none ∧ n = 0 ∧ cap = 0 ∨ ∃ g, A = some ⟨g, 0, none⟩) := by
    rcases hrow.2 with ⟨e, h0⟩ | ⟨g, cap, cur, e, _, _, h3, h4, _⟩
    · exact ⟨none, 0, by rw [e, h0], by omega, by omega, .inl ⟨rfl, h0, rfl⟩⟩
    · exact ⟨some ⟨g, 0, none⟩, cap, e, h3, by unfold maxLen at h4; exact h4, .inr ⟨g, rfl⟩⟩
  obtain ⟨A, cap, rfl, hc1, hc2, hA⟩ := Hcap
  clear hrow hvb hn
  rcases hA with ⟨rfl, rfl, rfl⟩ | ⟨g, rfl⟩
  · go_enter Tryz.func184, Tryz.ntmps184
    go_wp2_with (at_builtin; (refine wpList_append_own _ rfl _ _ 54 rfl base 66 i0 (.agg #[.string ⟨#[]⟩, .int .i64 0, .string ⟨#[]⟩]) 3 40 Tryz.underlying54 hi hz0 hz1 hz2 rfl (by decide) _ _ _ rfl Hrow.out ⟨vb, 0, none⟩ 1 1 [.string x.path, .int .i64 x.kind, .string x.data] rfl rfl (World.news_of_block (cs := #[.string x.path, .int .i64 x.kind, .string x.data]) (t := 66) (fr := (0, 0)) Hvb.out) (by simp [Value.oneCell']) (by unfold maxLen; omega) (by omega) hbw ?_; intro v3 w1 hown hgrow hnil'))
    go_ret
    exact ⟨_, rfl, by rw [flatI_snoc, List.length_append, List.length_singleton, Hn.out]; exact hown, Ext.grown hE0 hgrow (fun j hj => Nat.le_trans hb0 (Hrow.out.lt j hj).1)⟩
  · by_cases hcn : cap = n
    · subst hcn
      go_enter Tryz.func184, Tryz.ntmps184
      go_wp2_with (at_builtin; refine wpList_append_own _ rfl _ _ 54 rfl base 66 i0 (.agg #[.string ⟨#[]⟩, .int .i64 0, .string ⟨#[]⟩]) 3 40 Tryz.underlying54 hi hz0 hz1 hz2 rfl (by decide) _ _ _ rfl Hrow.out ⟨vb, 0, none⟩ 1 1 [.string x.path, .int .i64 x.kind, .string x.data] rfl rfl (World.news_of_block (cs := #[.string x.path, .int .i64 x.kind, .string x.data]) (t := 66) (fr := (0, 0)) Hvb.out) (by simp [Value.oneCell']) (by unfold maxLen; omega) (by omega) hbw ?_; intro v3 w1 hown hgrow hnil')
      go_ret
      exact ⟨_, rfl, by rw [flatI_snoc, List.length_append, List.length_singleton, Hn.out]; exact hown, Ext.grown hE0 hgrow (fun j hj => Nat.le_trans hb0 (Hrow.out.lt j hj).1)⟩
    · have hnc : ¬ n = cap := fun e => hcn e.symm
      go_enter Tryz.func184, Tryz.ntmps184
      go_wp2_with (at_builtin; refine wpList_append_own _ rfl _ _ 54 rfl base 66 i0 (.agg #[.string ⟨#[]⟩, .int .i64 0, .string ⟨#[]⟩]) 3 40 Tryz.underlying54 hi hz0 hz1 hz2 rfl (by decide) _ _ _ rfl Hrow.out ⟨vb, 0, none⟩ 1 1 [.string x.path, .int .i64 x.kind, .string x.data] rfl rfl (World.news_of_block (cs := #[.string x.path, .int .i64 x.kind, .string x.data]) (t := 66) (fr := (0, 0)) Hvb.out) (by simp [Value.oneCell']) (by unfold maxLen; omega) (by omega) hbw ?_; intro v3 w1 hown hgrow hnil')
      go_ret
      exact ⟨_, rfl, by rw [flatI_snoc, List.length_append, List.length_singleton, Hn.out]; exact hown, Ext.grown hE0 hgrow (fun j hj => Nat.le_trans hb0 (Hrow.out.lt j hj).1)⟩

set_option maxHeartbeats 4000000 in
set_option maxRecDepth 100000 in
theorem Ins_room (base g cap k : Nat) (vb : Nat) (w0 w : World) (hE0 : Ext w0 w) (hb0 : w0.heap.size ≤ base) (hrow : w.ownsRow base 66 3 (.slice (some ⟨g, 0, none⟩) xs.length cap) xs.length (flatE xs)) (hl : xs.length ≤ 1000000)
    (hk : k < xs.length) (hroom : xs.length < cap) (hvb : Blk w vb 66 #[.string x.path, .int .i64 x.kind, .string x.data]) (hne : vb ≠ g) :
    Calls Tryz.prog 184 #[.slice (some ⟨g, 0, none⟩) xs.length cap, .int .i64 k, .slice (some ⟨vb, 0, none⟩) 1 1] w (InsAns base w0 (xs.take k ++ x :: xs.drop k)) := by
  obtain ⟨n, hn⟩ : ∃ n, xs.length = n := ⟨_, rfl⟩
  rw [hn] at hrow hl hk hroom ⊢
  have Hn := Lib.hid hn
  obtain ⟨cur, hb, hbase, hcapm, hcs, htk⟩ : ∃ cur, Blk w g 66 cur ∧ base ≤ g ∧ cap ≤ 9223372036854775807 ∧ cur.size = cap * 3 ∧ ∀ j, j < n * 3 → w.cell? ⟨g, j, none⟩ = (flatE xs)[j]? := by
    rcases hrow.2 with ⟨e, _⟩ | ⟨g', cap', cur, e, hbase, hh, h3, h4, h5, h6⟩
    · cases e
    · cases e
      exact ⟨cur, hh, hbase, by unfold maxLen at h4; exact h4, h5, fun j hj => hrow.cellAt j hj⟩
  have hcc : n * 3 + 3 ≤ cap * 3 := by omega
  have hF2 : (flatE (xs.drop k)).length = (n - k) * 3 := by rw [ents_length, List.length_drop, hn]
  have hF : flatE xs = flatE (xs.take k) ++ flatE (xs.drop k) := by rw [← flat_app2, List.take_append_drop]
  have hF1 : (flatE (xs.take k)).length = k * 3 := by rw [ents_length, List.length_take, hn, Nat.min_eq_left (by omega)]
  have Hb := Lib.hid hb
  have Hvb := Lib.hid hvb
  have hkn : k ≤ n := by omega
  have hw1 : IntKind.i64.wrap ((k : Int) + 1) = (k : Int) + 1 := by rw [IntKind.wrap_i64]; omega
  have hw2 : IntKind.i64.wrap ((n : Int) + 1) = (n : Int) + 1 := by rw [IntKind.wrap_i64]; omega
  have hnk : ((k : Int) == (n : Int)) = false := by rw [beq_eq_false_iff_ne]; omega
  have hroom' : ¬ (cap : Int) < (n : Int) + 1 := by omega
  have htn : ((k : Int) + 1).toNat = k + 1 := by omega
  have htn2 : ((n : Int) + 1).toNat = n + 1 := by omega
  have hb1 : (0 : Int) ≤ (k : Int) + 1 := by omega
  have hb2 : ¬ (cap = k + 1) := by omega
  have hb3 : (k : Int) ≤ (n : Int) + 1 := by omega
  have hb4 : ¬ (cap = k) := by omega
  have hb5 : (n : Int) + 1 ≤ (cap : Int) := by omega
  have hb6 : (k : Int) + 1 ≤ (n : Int) + 1 := by omega
  have hFF := hF
  clear hn hb hvb hrow hF
  go_enter Tryz.func184, Tryz.ntmps184
  have hov : ∀ lb cb, (callFunc 215 #[.slice (some ⟨vb, 0, none⟩) 1 1, .slice (some ⟨g, (k + 1) * 3, none⟩) lb cb]).run Tryz.prog w = .ok (.value (.bool false)) w := fun lb cb => by
    rw [run_callFunc_extern Tryz.func215 (by kernel_rfl) (by kernel_rfl) (by kernel_rfl) (e := Extern.SlicesOverlaps.overlaps #[54, 54] #[4]) (by kernel_rfl),
      Lib.run_overlaps_apart w 54 4 66 Tryz.underlying54 3 (fun w => by kernel_rfl) ⟨vb, 0, none⟩ ⟨g, (k + 1) * 3, none⟩ 1 1 lb cb hne 66 66 3 cur.size (shape_of Hvb.out) (shape_of Hb.out) (by omega) (Hvb.out.frozen 0) (Hvb.out.frozen 3)]
    rfl
  obtain ⟨F1, hF1e⟩ : ∃ F1, flatE (xs.take k) = F1 := ⟨_, rfl⟩
  obtain ⟨F2, hF2e⟩ : ∃ F2, flatE (xs.drop k) = F2 := ⟨_, rfl⟩
  have hF1k := hF1e
  have hF2k := Lib.hid hF2e
  have ho1 : ∀ v ∈ F2, v.oneCell' = true := by rw [← hF2e]; exact ents_one _
  rw [hF1e] at hF1
  rw [hF2e] at hF2
  have HF1 : Hid (∀ j, j < k * 3 → w.cell? ⟨g, j, none⟩ = F1[j]?) := Lib.hid fun j hj => by
    rw [htk j (by omega), hFF, hF1e, List.getElem?_append_left (by omega)]
  have HF2 : Hid (∀ j, j < (n - k) * 3 → w.cell? ⟨g, k * 3 + j, none⟩ = F2[j]?) := Lib.hid fun j hj => by
    rw [htk _ (by omega), hFF, hF1e, hF2e, List.getElem?_append_right (by omega)]
    congr 1
    omega
  have hsome : ∀ j, j < cap * 3 → (w.cell? ⟨g, j, none⟩).isSome = true := fun j hj => by
    rw [Hb.out.cellIs, Array.getElem?_eq_getElem (by omega)]; rfl
  have hcp1 : ∀ ty dc sc, (Builtin.copy_ #[54, 54] ty #[.slice (some ⟨g, (k + 1) * 3, none⟩) (n - k) dc, .slice (some ⟨g, k * 3, none⟩) (n + 1 - k) sc]).run Tryz.prog w.drew = .ok (goInt (Nat.min (n + 1 - k) (n - k))) (w.drew.setCells g ((k + 1) * 3) F2) := fun ty dc sc =>
    run_copy3 w.drew ty g ((k + 1) * 3) (n - k) dc ⟨g, k * 3, none⟩ (n + 1 - k) sc F2 (by rw [hF2]; simp only [Nat.min_def]; split <;> omega)
      (fun j v hj => by
        have hjl := (List.getElem?_eq_some_iff.1 hj).1
        rw [Addr.add_lit]
        exact (HF2.out j (by omega)).trans hj)
      (fun j hj => hsome _ (by omega)) (fun j hj => Hb.out.frozen _) ho1
  obtain ⟨W1, hW1⟩ : ∃ W1, w.drew.setCells g ((k + 1) * 3) F2 = W1 := ⟨_, rfl⟩
  obtain ⟨c1, hc1s, hc1b, hc1g⟩ := Blk.setCells F2 ((k + 1) * 3) w.drew cur Hb.out
  rw [hW1] at hcp1 hc1b hc1g
  have hvb1 : Blk W1 vb 66 #[.string x.path, .int .i64 x.kind, .string x.data] := (hc1g.block vb Hvb.out.lt (fun e => hne (by injection e))).trans Hvb.out
  have hcp2 : ∀ (W : World), (∀ x, W.cell? x = W1.cell? x) → (∀ x, W.frozen? x = W1.frozen? x) → ∀ ty dc, (Builtin.copy_ #[54, 54] ty #[.slice (some ⟨g, k * 3, none⟩) (n + 1 - k) dc, .slice (some ⟨vb, 0, none⟩) 1 1]).run Tryz.prog W = .ok (goInt (Nat.min 1 (n + 1 - k))) (W.setCells g (k * 3) [.string x.path, .int .i64 x.kind, .string x.data]) := fun W hWc hWf ty dc =>
    run_copy3 W ty g (k * 3) (n + 1 - k) dc ⟨vb, 0, none⟩ 1 1 _ (by simp only [Nat.min_def, List.length_cons, List.length_nil]; split <;> omega)
      (fun j v hj => by
        rw [Addr.add_lit, hWc, hvb1.cellIs]
        rw [Nat.zero_add]
        simpa using hj)
      (fun j hj => by
        simp only [List.length_cons, List.length_nil] at hj
        rw [hWc, hc1b.cellIs, Array.getElem?_eq_getElem (by omega)]; rfl) (fun j hj => by rw [hWf]; exact hc1b.frozen _) (by simp [Value.oneCell'])
  have Hd := Lib.hid hW1
  have Hc1 := Lib.hid hc1b
  have Hg1 := Lib.hid hc1g
  have Hcap := Lib.hid hcapm
  have Hs1 := Lib.hid hc1s
  have Hcs := Lib.hid hcs
  have HF1k := Lib.hid hF1k
  clear hW1 hc1b hc1g hsome hvb1 htk hFF hF1e ho1 hcapm hc1s hcs hF1k hF2e
  go_wp2_with (simp only [hov])
  go_region_law (refine step_copy_runI rfl _ _ 54 54 rfl _ _ (by simp [Act.eval, Act.put]) (by simp [Act.eval, Act.put]) (hcp1 _ _ _) ?_)
  go_wp2_with (at_builtin; refine wpList_copy_runI _ rfl _ _ 54 54 rfl _ _ rfl rfl (hcp2 _ (fun _ => rfl) (fun _ => rfl) _ _) ?_)
  go_ret
  obtain ⟨c2, hs2, hb2', hg2⟩ := Blk.setCells [.string x.path, .int .i64 x.kind, .string x.data] (k * 3) W1 c1 Hc1.out
  refine ⟨_, rfl, ?_, Ext.grown (Ext.grown hE0.drew Hg1.out (fun j hj => by cases hj; omega)) hg2 (fun j hj => by cases hj; omega)⟩
  rw [ins_len (by rw [Hn.out]; omega), Hn.out, ins_flat, hF2k.out]
  have hl1 : (flatE (xs.take k)).length = k * 3 := by rw [ents_length, List.length_take, Hn.out, Nat.min_eq_left (by omega)]
  refine row_of hb2' (by rw [hs2, Hs1.out, Hcs.out]) (by omega) (by unfold maxLen; exact Hcap.out) hbase (by rw [List.length_append, List.length_append, hl1, hF2]; show k * 3 + (3 + _) = _; omega) fun j hj => ?_
  rw [List.length_append, List.length_append, hl1, hF2] at hj
  have hj : j < k * 3 + (3 + (n - k) * 3) := hj
  rw [← List.getElem?_eq_getElem (by rw [List.length_append, List.length_append, hl1, hF2]; exact hj)]
  by_cases h1 : j < k * 3
  · rw [World.cell?_setCells_out _ _ _ _ _ (fun _ _ => .inl h1), ← Hd.out, World.cell?_setCells_out _ _ _ _ _ (fun _ _ => .inl (by show j < (k + 1) * 3; omega))]
    rw [List.getElem?_append_left (by omega), HF1k.out]
    exact HF1.out j h1
  · by_cases h2 : j < k * 3 + 3
    · obtain ⟨i, rfl⟩ : ∃ i, j = k * 3 + i := ⟨j - k * 3, by omega⟩
      have h3 := World.cell?_setCells_in g [.string x.path, .int .i64 x.kind, .string x.data] (k * 3) W1 (fun t ht => by
        simp only [List.length_cons, List.length_nil] at ht
        rw [Hc1.out.cellIs, Array.getElem?_eq_getElem (by rw [Hs1.out, Hcs.out]; omega)]; rfl) i (by show i < 3; omega)
      rw [h3, List.getElem?_append_right (by omega), hl1, show k * 3 + i - k * 3 = i by omega, List.getElem?_append_left (by show i < 3; omega)]
      rw [← List.getElem?_eq_getElem]
      rfl
    · obtain ⟨i, rfl⟩ : ∃ i, j = (k + 1) * 3 + i := ⟨j - (k + 1) * 3, by omega⟩
      have h3 := World.cell?_setCells_in g F2 ((k + 1) * 3) w.drew (fun t ht => by
        show (w.cell? _).isSome = true
        rw [Hb.out.cellIs, Array.getElem?_eq_getElem (by rw [Hcs.out]; omega)]; rfl) i (by omega)
      rw [World.cell?_setCells_out _ _ _ _ _ (fun _ _ => .inr (by show k * 3 + 3 ≤ (k + 1) * 3 + i; omega)), ← Hd.out, h3, List.getElem?_append_right (by omega), hl1, List.getElem?_append_right (by show 3 ≤ _; omega), ← List.getElem?_eq_getElem]
      congr 1
      show i = (k + 1) * 3 + i - k * 3 - 3
      omega

theorem zero_len (m : Nat) : (Builtin.zeroCells #[Value.string ⟨#[]⟩, .int .i64 0, .string ⟨#[]⟩] m).size = m * 3 := by simp [Builtin.zeroCells]

set_option maxHeartbeats 4000000 in
set_option maxRecDepth 100000 in
theorem Ins_grow (base g k : Nat) (vb : Nat) (w0 w : World) (hE0 : Ext w0 w) (hb0 : w0.heap.size ≤ base) (hbw : base ≤ w.heap.size) (hrow : w.ownsRow base 66 3 (.slice (some ⟨g, 0, none⟩) xs.length xs.length) xs.length (flatE xs)) (hl : xs.length ≤ 1000000)
    (hk : k < xs.length) (hvb : Blk w vb 66 #[.string x.path, .int .i64 x.kind, .string x.data]) :
    Calls Tryz.prog 184 #[.slice (some ⟨g, 0, none⟩) xs.length xs.length, .int .i64 k, .slice (some ⟨vb, 0, none⟩) 1 1] w (InsAns base w0 (xs.take k ++ x :: xs.drop k)) := by
  obtain ⟨i0, hi, hz0, hz1, hz2⟩ := info_parts info_ent
  obtain ⟨n, hn⟩ : ∃ n, xs.length = n := ⟨_, rfl⟩
  rw [hn] at hrow hl hk ⊢
  have Hn := Lib.hid hn
  obtain ⟨cur, hb, hbase, htk⟩ : ∃ cur, Blk w g 66 cur ∧ base ≤ g ∧ ∀ j, j < n * 3 → w.cell? ⟨g, j, none⟩ = (flatE xs)[j]? := by
    rcases hrow.2 with ⟨e, _⟩ | ⟨g', cap', cur, e, hbase, hh, h3, h4, h5, h6⟩
    · cases e
    · cases e
      exact ⟨cur, hh, hbase, fun j hj => hrow.cellAt j hj⟩
  have hF2 : (flatE (xs.drop k)).length = (n - k) * 3 := by rw [ents_length, List.length_drop, hn]
  have hFF : flatE xs = flatE (xs.take k) ++ flatE (xs.drop k) := by rw [← flat_app2, List.take_append_drop]
  have hF1 : (flatE (xs.take k)).length = k * 3 := by rw [ents_length, List.length_take, hn, Nat.min_eq_left (by omega)]
  have Hb := Lib.hid hb
  have Hvb := Lib.hid hvb
  have hgw := hb.lt
  have hvw := hvb.lt
  have hkn : k ≤ n := by omega
  obtain ⟨F1, hF1e⟩ : ∃ F1, flatE (xs.take k) = F1 := ⟨_, rfl⟩
  obtain ⟨F2, hF2e⟩ : ∃ F2, flatE (xs.drop k) = F2 := ⟨_, rfl⟩
  have ho1 : ∀ v ∈ F2, v.oneCell' = true := by rw [← hF2e]; exact ents_one _
  rw [hF1e] at hF1
  rw [hF2e] at hF2
  have HF1 : Hid (∀ j, j < k * 3 → w.cell? ⟨g, j, none⟩ = F1[j]?) := Lib.hid fun j hj => by
    rw [htk j (by omega), hFF, hF1e, List.getElem?_append_left (by omega)]
  have HF2 : Hid (∀ j, j < (n - k) * 3 → w.cell? ⟨g, k * 3 + j, none⟩ = F2[j]?) := Lib.hid fun j hj => by
    rw [htk _ (by omega), hFF, hF1e, hF2e, List.getElem?_append_right (by omega)]
    congr 1
    omega
  have hik : k + (n + 1 - k) = n + 1 := by omega
  have hold : (Builtin.firstCells i0.size k (.slice (some ⟨g, 0, none⟩) k n)).run Tryz.prog w.drew = .ok F1.toArray w.drew := by
    rw [hz1]
    exact run_firstCells_some w.drew 3 k ⟨g, 0, none⟩ k n F1 hF1 fun j v hj => by
      rw [Addr.add_lit, Nat.zero_add]
      exact (HF1.out j (by have := (List.getElem?_eq_some_iff.1 hj).1; omega)).trans hj
  obtain ⟨ROW, hROW⟩ : ∃ ROW : Array Value, ROW = F1.toArray ++ Builtin.zeroCells #[Value.string ⟨#[]⟩, .int .i64 0, .string ⟨#[]⟩] (n + 1 - k) ++ Builtin.zeroCells #[Value.string ⟨#[]⟩, .int .i64 0, .string ⟨#[]⟩] (grownCap w (n + 1) n 66 - (n + 1)) := ⟨_, rfl⟩
  have hkk : (n : Int) + 1 - (k : Int) = ((n + 1 - k : Nat) : Int) := by omega
  have hrz : ∀ ty, (Builtin.append_ #[54, 3] ty #[.slice (some ⟨g, 0, none⟩) k n, .int .i64 ((n : Int) + 1 - (k : Int))]).run Tryz.prog w = .ok (.slice (some ⟨w.heap.size, 0, none⟩) (n + 1) (grownCap w (n + 1) n 66)) (w.drew.alloc (.cells ROW 66)) := fun ty => by
    have h := Lib.run_append_grow_zeros w 54 3 ty 66 i0 _ .i64 .i64 Tryz.underlying54 Tryz.underlying3 hi hz0 (some ⟨g, 0, none⟩) k n F1 hold (n + 1 - k) (by omega) (by omega) (by omega) (by omega) (by rw [hz2]; omega) (by rw [hz2, hik]; exact growslice_fits (by omega) (by omega))
    rw [hik] at h
    rw [hkk, h, hROW]
    rfl
  obtain ⟨G, hG⟩ : ∃ G, grownCap w (n + 1) n 66 = G := ⟨_, rfl⟩
  have hGn : n + 1 ≤ G := by rw [← hG]; exact grownCap_ge w _ _ _
  have hG63 : G ≤ 9223372036854775807 := by
    have := grownCap_le_maxLen w (n + 1) n 66 (by unfold maxLen; omega)
    rw [hG] at this
    unfold maxLen at this
    omega
  have hRs : ROW.size = G * 3 := by
    rw [hROW, hG]
    simp only [Array.size_append, zero_len, List.size_toArray, hF1]
    omega
  have hR1 : ∀ j, j < k * 3 → ROW[j]? = F1[j]? := fun j hj => by
    rw [hROW, Array.append_assoc, Array.getElem?_append_left (by simp [hF1]; exact hj)]
    simp
  rw [hG] at hrz
  obtain ⟨N, hN⟩ : ∃ N, w.heap.size = N := ⟨_, rfl⟩
  obtain ⟨W1, hW1⟩ : ∃ W1, w.drew.alloc (.cells ROW 66) = W1 := ⟨_, rfl⟩
  have hEW : Ext w W1 := by rw [← hW1]; exact ((Ext.refl w).drew).alloc _
  have hbN : Blk W1 N 66 ROW := by rw [← hW1, ← hN]; exact Blk.new w.drew _ _
  rw [hW1, hN] at hrz
  rw [hN] at hgw hvw hbw
  have hb1 := hb.ext hEW
  have hvb1 := hvb.ext hEW
  have hcpA : ∀ (W : World), (∀ x, W.cell? x = W1.cell? x) → (∀ x, W.frozen? x = W1.frozen? x) → ∀ ty dc, (Builtin.copy_ #[54, 54] ty #[.slice (some ⟨N, k * 3, none⟩) (n + 1 - k) dc, .slice (some ⟨vb, 0, none⟩) 1 1]).run Tryz.prog W = .ok (goInt (Nat.min 1 (n + 1 - k))) (W.setCells N (k * 3) [.string x.path, .int .i64 x.kind, .string x.data]) := fun W hWc hWf ty dc =>
    run_copy3 W ty N (k * 3) (n + 1 - k) dc ⟨vb, 0, none⟩ 1 1 _ (by simp only [Nat.min_def, List.length_cons, List.length_nil]; split <;> omega)
      (fun j v hj => by
        rw [Addr.add_lit, hWc, hvb1.cellIs]
        rw [Nat.zero_add]
        simpa using hj)
      (fun j hj => by
        simp only [List.length_cons, List.length_nil] at hj
        rw [hWc, hbN.cellIs, Array.getElem?_eq_getElem (by omega)]; rfl) (fun j hj => by rw [hWf]; exact hbN.frozen _) (by simp [Value.oneCell'])
  obtain ⟨W2, hW2⟩ : ∃ W2, W1.setCells N (k * 3) [.string x.path, .int .i64 x.kind, .string x.data] = W2 := ⟨_, rfl⟩
  obtain ⟨c2, hc2s, hc2b, hc2g⟩ := Blk.setCells [.string x.path, .int .i64 x.kind, .string x.data] (k * 3) W1 ROW hbN
  rw [hW2] at hc2b hc2g
  have hg2 : ∀ j, W2.cell? ⟨g, j, none⟩ = W1.cell? ⟨g, j, none⟩ := fun j => by rw [← hW2, World.cell?_setCells_out _ _ _ _ _ (fun h _ => absurd h (by show g ≠ N; omega))]
  have hg1 : ∀ j, W1.cell? ⟨g, j, none⟩ = w.cell? ⟨g, j, none⟩ := fun j => by rw [hb1.cellIs, hb.cellIs]
  have hcpB : ∀ (W : World), (∀ x, W.cell? x = W2.cell? x) → (∀ x, W.frozen? x = W2.frozen? x) → ∀ ty dc sc, (Builtin.copy_ #[54, 54] ty #[.slice (some ⟨N, (k + 1) * 3, none⟩) (n - k) dc, .slice (some ⟨g, k * 3, none⟩) (n - k) sc]).run Tryz.prog W = .ok (goInt (Nat.min (n - k) (n - k))) (W.setCells N ((k + 1) * 3) F2) := fun W hWc hWf ty dc sc =>
    run_copy3 W ty N ((k + 1) * 3) (n - k) dc ⟨g, k * 3, none⟩ (n - k) sc F2 (by rw [hF2]; simp only [Nat.min_def]; split <;> omega)
      (fun j v hj => by
        have hjl := (List.getElem?_eq_some_iff.1 hj).1
        rw [Addr.add_lit, hWc, hg2, hg1]
        exact (HF2.out j (by omega)).trans hj)
      (fun j hj => by rw [hWc, hc2b.cellIs, Array.getElem?_eq_getElem (by omega)]; rfl) (fun j hj => by rw [hWf]; exact hc2b.frozen _) ho1
  have hw1 : IntKind.i64.wrap ((k : Int) + 1) = (k : Int) + 1 := by rw [IntKind.wrap_i64]; omega
  have hw2 : IntKind.i64.wrap ((n : Int) + 1) = (n : Int) + 1 := by rw [IntKind.wrap_i64]; omega
  have hnk : ((k : Int) == (n : Int)) = false := by rw [beq_eq_false_iff_ne]; omega
  have hroom' : (n : Int) < (n : Int) + 1 := by omega
  have htn : ((k : Int) + 1).toNat = k + 1 := by omega
  have hb1' : (0 : Int) ≤ (k : Int) + 1 := by omega
  have hb3 : (k : Int) ≤ (n : Int) + 1 := by omega
  have hb4 : ¬ (n = k) := by omega
  have hb6 : (k : Int) + 1 ≤ (n : Int) + 1 := by omega
  have hb7 : ¬ (G = k) := by omega
  have hb8 : ¬ (G = k + 1) := by omega
  have hb9 : (k : Int) ≤ (n : Int) := by omega
  have HW2 := Lib.hid hW2
  have Hc2 := Lib.hid hc2b
  have Hg2 := Lib.hid hc2g
  have HEW := Lib.hid hEW
  have HbN := Lib.hid hbN
  have Hc2s := Lib.hid hc2s
  have HR := Lib.hid (And.intro hRs hR1)
  have HF1k := Lib.hid hF1e
  have HF2k := Lib.hid hF2e
  have HN := Lib.hid hN
  have HG := Lib.hid (And.intro hGn hG63)
  clear hn hb hvb hrow hFF htk hF1e hF2e ho1 hik hold hROW hkk hG hRs hR1 hW1 hEW hbN hb1 hvb1 hc2s hc2b hc2g hg1 hg2 hN hgw hvw
  have hcpA1 := hcpA W1 (fun _ => rfl) (fun _ => rfl)
  rw [HW2.out] at hcpA1
  have hcpB1 := hcpB W2.drew (fun _ => rfl) (fun _ => rfl)
  clear hcpA hcpB hW2
  go_enter Tryz.func184, Tryz.ntmps184
  go_wp2_with (first | (at_builtin; refine Lib.wpList_append_run _ rfl _ _ _ _ rfl _ _ rfl rfl _ _ (hrz _) ?_) | (at_builtin; refine wpList_copy_runI _ rfl _ _ 54 54 rfl _ _ rfl rfl (hcpA1 _ _) ?_))
  go_region_law (refine step_copy_runI rfl _ _ 54 54 rfl _ _ (by simp [Act.eval, Act.put]) (by simp [Act.eval, Act.put]) (hcpB1 _ _ _) ?_)
  go_wp2
  go_ret
  obtain ⟨c3, hs3, hb3', hg3⟩ := Blk.setCells F2 ((k + 1) * 3) W2.drew c2 Hc2.out
  refine ⟨_, rfl, ?_, Ext.grown (Ext.grown (hE0.trans HEW.out) Hg2.out (fun j hj => by cases hj; omega)).drew hg3 (fun j hj => by cases hj; omega)⟩
  have hGs := HG.out
  have hRs := HR.out
  rw [ins_len (by rw [Hn.out]; omega), Hn.out, ins_flat, HF2k.out]
  have hl1 : (flatE (xs.take k)).length = k * 3 := by rw [ents_length, List.length_take, Hn.out, Nat.min_eq_left (by omega)]
  refine row_of hb3' (by rw [hs3, Hc2s.out, hRs.1]) hGs.1 (by unfold maxLen; exact hGs.2) hbw (by rw [List.length_append, List.length_append, hl1, hF2]; show k * 3 + (3 + _) = _; omega) fun j hj => ?_
  rw [List.length_append, List.length_append, hl1, hF2] at hj
  have hj : j < k * 3 + (3 + (n - k) * 3) := hj
  rw [← List.getElem?_eq_getElem (by rw [List.length_append, List.length_append, hl1, hF2]; exact hj)]
  by_cases h1 : j < k * 3
  · rw [World.cell?_setCells_out _ _ _ _ _ (fun _ _ => .inl (by show j < (k + 1) * 3; omega))]
    show W2.cell? _ = _
    rw [← HW2.out, World.cell?_setCells_out _ _ _ _ _ (fun _ _ => .inl h1), HbN.out.cellIs, List.getElem?_append_left (by omega), HF1k.out]
    exact hRs.2 j h1
  · by_cases h2 : j < k * 3 + 3
    · obtain ⟨i, rfl⟩ : ∃ i, j = k * 3 + i := ⟨j - k * 3, by omega⟩
      have h3 := World.cell?_setCells_in N [.string x.path, .int .i64 x.kind, .string x.data] (k * 3) W1 (fun t ht => by
        simp only [List.length_cons, List.length_nil] at ht
        rw [HbN.out.cellIs, Array.getElem?_eq_getElem (by rw [hRs.1]; omega)]; rfl) i (by show i < 3; omega)
      rw [World.cell?_setCells_out _ _ _ _ _ (fun _ _ => .inl (by show k * 3 + i < (k + 1) * 3; omega))]
      show W2.cell? _ = _
      rw [← HW2.out, h3, List.getElem?_append_right (by omega), hl1, show k * 3 + i - k * 3 = i by omega, List.getElem?_append_left (by show i < 3; omega)]
      rw [← List.getElem?_eq_getElem]
      rfl
    · obtain ⟨i, rfl⟩ : ∃ i, j = (k + 1) * 3 + i := ⟨j - (k + 1) * 3, by omega⟩
      have h3 := World.cell?_setCells_in N F2 ((k + 1) * 3) W2.drew (fun t ht => by
        show (W2.cell? _).isSome = true
        rw [Hc2.out.cellIs, Array.getElem?_eq_getElem (by rw [Hc2s.out, hRs.1]; omega)]; rfl) i (by omega)
      rw [h3, List.getElem?_append_right (by omega), hl1, List.getElem?_append_right (by show 3 ≤ _; omega), ← List.getElem?_eq_getElem]
      congr 1
      show i = (k + 1) * 3 + i - k * 3 - 3
      omega

/-- slices.Insert: one entry at a place. -/
theorem InsE_any (base : Nat) (v : Value) (k vb : Nat) (w0 w : World) (hE0 : Ext w0 w) (hb0 : w0.heap.size ≤ base) (hbw : base ≤ w.heap.size) (hrow : w.ownsRow base 66 3 v xs.length (flatE xs)) (hl : xs.length ≤ 1000000)
    (hk : k ≤ xs.length) (hvb : Blk w vb 66 #[.string x.path, .int .i64 x.kind, .string x.data]) (hne : v.ownBlock ≠ some vb) :
    Calls Tryz.prog 184 #[v, .int .i64 k, .slice (some ⟨vb, 0, none⟩) 1 1] w (InsAns base w0 (xs.take k ++ x :: xs.drop k)) := by
  by_cases hkn : k = xs.length
  · subst hkn
    have := Ins_end base v vb w0 w hE0 hb0 hbw hrow hl hvb
    rwa [List.take_length, List.drop_length]
  · rcases hrow.2 with ⟨rfl, h0⟩ | ⟨g, cap, cur, rfl, _, _, h3, _⟩
    · omega
    · by_cases hc : xs.length < cap
      · exact Ins_room base g cap k vb w0 w hE0 hb0 hrow hl (by omega) hc hvb (fun e => hne (by rw [e]; rfl))
      · have : cap = xs.length := by omega
        subst this
        exact Ins_grow base g k vb w0 w hE0 hb0 hbw hrow hl (by omega) hvb
end Go.Proofs.YtneefmgidplbcaaGreatDoor

/-! FoldOne -/
namespace Go.Proofs.YtneefmgidplbcaaGreatDoor
open Go Go.RowKit Go.Shelf Go.Proofs

/-! ### The closures -/

theorem two_boxes {x y : Ent} {w W' : World} (h : Ext ((w.alloc (.cells #[.string x.path, .int .i64 x.kind, .string x.data] 66)).alloc (.cells #[.string y.path, .int .i64 y.kind, .string y.data] 66)) W') :
    Blk W' w.heap.size 66 #[.string x.path, .int .i64 x.kind, .string x.data] ∧ Blk W' (w.heap.size + 1) 66 #[.string y.path, .int .i64 y.kind, .string y.data] := by
  refine ⟨((Blk.new w _ _).ext ((Ext.refl _).alloc _)).ext h, ?_⟩
  have := Blk.new (w.alloc (.cells #[.string x.path, .int .i64 x.kind, .string x.data] 66)) 66 #[.string y.path, .int .i64 y.kind, .string y.data]
  rw [World.size_alloc] at this
  exact this.ext h

/-- What fold.put's closure answers. -/
def cmpI (a b : ByteArray) : Int := if lt a b = true then -1 else if lt b a = true then 1 else 0
theorem cmpI_lt {a b : ByteArray} (h : lt a b = true) : cmpI a b = -1 := if_pos h
theorem cmpI_gt {a b : ByteArray} (h1 : lt a b = false) (h2 : lt b a = true) : cmpI a b = 1 := by rw [cmpI, if_neg (by rw [h1]; simp), if_pos h2]
theorem cmpI_eq {a b : ByteArray} (h1 : lt a b = false) (h2 : lt b a = false) : cmpI a b = 0 := by rw [cmpI, if_neg (by rw [h1]; simp), if_neg (by rw [h2]; simp)]

set_option maxHeartbeats 2000000 in
theorem put1_any (x y : Ent) (w : World) :
    Calls Tryz.prog 183 #[.agg #[.string x.path, .int .i64 x.kind, .string x.data], .agg #[.string y.path, .int .i64 y.kind, .string y.data]] w fun e w' => e = .returned (.int .i64 (cmpI x.path y.path)) ∧ Ext w w' := by
  have H1 := fun w => Less_any x y w
  have H2 := fun w => Less_any y x w
  rcases h1 : lt x.path y.path with _ | _
  · rw [h1] at H1
    rcases h2 : lt y.path x.path with _ | _
    · rw [h2] at H2
      rw [cmpI_eq h1 h2]
      clear h1 h2
      go_enter Tryz.func183, Tryz.ntmps183
      go_wp2_with (first | (go_at_call 59; ((with_reducible refine (H1 _).mono ?_)); rintro e w1 ⟨rfl, hE1⟩; obtain ⟨b1, b2⟩ := two_boxes hE1; obtain ⟨⟨p0, _⟩, ⟨p1, _⟩, ⟨p2, _⟩⟩ := b1.three; obtain ⟨⟨r0, _⟩, ⟨r1, _⟩, ⟨r2, _⟩⟩ := b2.three) | (go_at_call 59; ((with_reducible refine (H2 _).mono ?_)); rintro e w2 ⟨rfl, hE2⟩))
      go_ret
      exact ⟨rfl, by exact (by repeat (first | exact Ext.refl _ | assumption | refine Ext.alloc ?_ _ | refine Ext.drew ?_ | refine Ext.drewN ?_ _ | refine Ext.setCell ?_ (by first | omega | (simp; done) | (simp; omega)) _ | refine Ext.trans ?_ (by assumption)))⟩
    · rw [h2] at H2
      rw [cmpI_gt h1 h2]
      clear h1 h2
      go_enter Tryz.func183, Tryz.ntmps183
      go_wp2_with (first | (go_at_call 59; ((with_reducible refine (H1 _).mono ?_)); rintro e w1 ⟨rfl, hE1⟩; obtain ⟨b1, b2⟩ := two_boxes hE1; obtain ⟨⟨p0, _⟩, ⟨p1, _⟩, ⟨p2, _⟩⟩ := b1.three; obtain ⟨⟨r0, _⟩, ⟨r1, _⟩, ⟨r2, _⟩⟩ := b2.three) | (go_at_call 59; ((with_reducible refine (H2 _).mono ?_)); rintro e w2 ⟨rfl, hE2⟩))
      go_ret
      exact ⟨rfl, by exact (by repeat (first | exact Ext.refl _ | assumption | refine Ext.alloc ?_ _ | refine Ext.drew ?_ | refine Ext.drewN ?_ _ | refine Ext.setCell ?_ (by first | omega | (simp; done) | (simp; omega)) _ | refine Ext.trans ?_ (by assumption)))⟩
  · rw [h1] at H1
    rw [cmpI_lt h1]
    clear h1
    go_enter Tryz.func183, Tryz.ntmps183
    go_wp2_with (go_at_call 59; ((with_reducible refine (H1 _).mono ?_)); rintro e w1 ⟨rfl, hE1⟩)
    go_ret
    exact ⟨rfl, by exact (by repeat (first | exact Ext.refl _ | assumption | refine Ext.alloc ?_ _ | refine Ext.drew ?_ | refine Ext.drewN ?_ _ | refine Ext.setCell ?_ (by first | omega | (simp; done) | (simp; omega)) _ | refine Ext.trans ?_ (by assumption)))⟩

set_option maxHeartbeats 4000000 in
theorem search3_any (v : Value) (l : List Ent) (y : Ent) (w : World) (hv : RdE w v l) (hs : Rising l) :
    Calls Tryz.prog 182 #[v, .agg #[.string y.path, .int .i64 y.kind, .string y.data], .func (.func 183) #[] #[]] w
      fun e w' => (∃ (k : Nat) (ok : Bool), e = .returned (.tuple #[.int .i64 k, .bool ok]) ∧ AtIs l y.path k ok) ∧ Ext w w' := by
  have hlen := Rd.len hv
  have eg : ∀ args w, (callFunc 183 args).run Tryz.prog w = .ok (.enter 183 args) w := enters_of Tryz.func183 (by kernel_rfl) rfl
  obtain ⟨n, hn⟩ : ∃ n, n = l.length := ⟨_, rfl⟩
  have Hn := Lib.hid hn
  obtain ⟨A, c, rfl, hc1, hc2, Hcell⟩ := rdE_form hv hn
  rw [← hn] at hlen
  clear hn hv
  have hB0 := Blk.new w 66 #[.string y.path, .int .i64 y.kind, .string y.data]
  have hE0 : Ext w (w.alloc (.cells #[.string y.path, .int .i64 y.kind, .string y.data] 66)) := (Ext.refl w).alloc _
  go_enter Tryz.func182, Tryz.ntmps182
  go_upto_region 3 with (fail)
  obtain ⟨yb, hyb⟩ : ∃ yb, w.heap.size = yb := ⟨_, rfl⟩
  rw [hyb] at hB0
  rw [hyb]
  clear hyb
  generalize w.alloc (.cells #[.string y.path, .int .i64 y.kind, .string y.data] 66) = W1 at hB0 hE0 ⊢
  go_loopw [9, 10] (fun i j wr => ∃ i' j' : Nat, i = .int .i64 i' ∧ j = .int .i64 j' ∧ i' ≤ j' ∧ j' ≤ n ∧ Bnd l y.path i' j' ∧ Ext W1 wr) (fun i j _ => (intOf j).toNat - (intOf i).toNat)
  case atStart => exact ⟨0, n, rfl, rfl, Nat.zero_le _, Nat.le_refl _, ⟨fun t _ h => by omega, fun t h h' => by have := Hn.out; omega⟩, Ext.refl W1⟩
  case round =>
    obtain ⟨i, j, rfl, rfl, hij, hjn, hB, hE⟩ := hrel
    obtain ⟨⟨y0, f0⟩, ⟨y1, f1⟩, ⟨y2, f2⟩⟩ := (hB0.ext hE).three
    have HB := Lib.hid hB
    clear hB
    by_cases hlt : i < j
    · have hh : (i + j) / 2 < l.length := by have := Hn.out; omega
      obtain ⟨b, o, rfl, hcell⟩ := Hcell.out (List.ne_nil_of_length_pos (by omega))
      obtain ⟨x, hx⟩ : ∃ x, l[(i + j) / 2]'hh = x := ⟨_, rfl⟩
      obtain ⟨q0, q1, q2, _⟩ := hcell _ hh
      rw [hx] at q0 q1 q2
      have g0 := (hE0.trans hE).cell q0
      have g1 := (hE0.trans hE).cell q1
      have g2 := (hE0.trans hE).cell q2
      have Hx := Lib.hid hx
      have HP := fun w => put1_any x y w
      clear q0 q1 q2 hx hcell
      have q0' := fun d os => cell_regrown g0 d os
      have q1' := fun d os => cell_regrown g1 d os
      have q2' := fun d os => cell_regrown g2 d os
      have y0' := fun d os => cell_regrown y0 d os
      have y1' := fun d os => cell_regrown y1 d os
      have y2' := fun d os => cell_regrown y2 d os
      rcases hl : lt x.path y.path with _ | _
      · have hc : ∃ k : Int, cmpI x.path y.path = k ∧ ¬ k < 0 := by
          rcases h2 : lt y.path x.path with _ | _
          · exact ⟨_, cmpI_eq hl h2, by decide⟩
          · exact ⟨_, cmpI_gt hl h2, by decide⟩
        obtain ⟨k, hk, hk0⟩ := hc
        rw [hk] at HP
        have Hl := Lib.hid hl
        clear hl hk
        go_upto_region 5 with (fail)
        (refine wp_region_quiet_below (by kernel_rfl) (by kernel_rfl) ?_; (repeat (go_big_quiet_step ((go_at_fn 183; exact Calls.regrown_of (HP _))))); refine wpQuiet_nil ?_; intro _ hq; obtain ⟨⟨dq, osq⟩, hq2⟩ := hq; subst hq2)
        have hE2 := below_regrown wr dq osq
        go_wp2
        go_roundw
        case rel =>
          refine ⟨i, (i + j) / 2, rfl, by go_num, by omega, by omega, ⟨HB.out.1, fun t ht h => ?_⟩, by first | exact hE.trans hE2 | exact (by repeat (first | exact Ext.refl _ | assumption | refine Ext.alloc ?_ _ | refine Ext.drew ?_ | refine Ext.drewN ?_ _ | refine Ext.setCell ?_ (by first | omega | (simp; done) | (simp; omega)) _ | refine Ext.trans ?_ (by assumption)))⟩
          rcases Nat.lt_or_ge ((i + j) / 2) t with h1 | h1
          · rcases hl2 : lt l[t].path y.path with _ | _
            · rfl
            · have := lt_trans (hs.at_ h1 ht) hl2
              rw [Hx.out, Hl.out] at this
              cases this
          · obtain rfl : t = (i + j) / 2 := by omega
            rw [Hx.out]; exact Hl.out
        case measure => simp [intOf]; omega
      · rw [cmpI_lt hl] at HP
        have Hl := Lib.hid hl
        clear hl
        go_upto_region 5 with (fail)
        (refine wp_region_quiet_below (by kernel_rfl) (by kernel_rfl) ?_; (repeat (go_big_quiet_step ((go_at_fn 183; exact Calls.regrown_of (HP _))))); refine wpQuiet_nil ?_; intro _ hq; obtain ⟨⟨dq, osq⟩, hq2⟩ := hq; subst hq2)
        have hE2 := below_regrown wr dq osq
        go_wp2
        go_roundw
        case rel =>
          refine ⟨(i + j) / 2 + 1, j, by go_num, rfl, by omega, hjn, ⟨fun t ht h => ?_, HB.out.2⟩, by first | exact hE.trans hE2 | exact (by repeat (first | exact Ext.refl _ | assumption | refine Ext.alloc ?_ _ | refine Ext.drew ?_ | refine Ext.drewN ?_ _ | refine Ext.setCell ?_ (by first | omega | (simp; done) | (simp; omega)) _ | refine Ext.trans ?_ (by assumption)))⟩
          rcases Nat.lt_or_ge t ((i + j) / 2) with h1 | h1
          · exact lt_trans (hs.at_ h1 hh) (by rw [Hx.out]; exact Hl.out)
          · obtain rfl : t = (i + j) / 2 := by omega
            rw [Hx.out]; exact Hl.out
        case measure => simp [intOf]; omega
    · obtain rfl : i = j := by omega
      by_cases hin : i < n
      · have hh : i < l.length := by have := Hn.out; omega
        obtain ⟨b, o, rfl, hcell⟩ := Hcell.out (List.ne_nil_of_length_pos (by omega))
        obtain ⟨x, hx⟩ : ∃ x, l[i]'hh = x := ⟨_, rfl⟩
        obtain ⟨q0, q1, q2, _⟩ := hcell _ hh
        rw [hx] at q0 q1 q2
        have g0 := (hE0.trans hE).cell q0
        have g1 := (hE0.trans hE).cell q1
        have g2 := (hE0.trans hE).cell q2
        have Hx := Lib.hid hx
        have HP := fun w => put1_any x y w
        have hxy : lt x.path y.path = false := by rw [← hx]; exact HB.out.2 i hh (Nat.le_refl _)
        obtain ⟨ok, hok⟩ : ∃ ok : Bool, (cmpI x.path y.path == 0) = ok := ⟨_, rfl⟩
        obtain ⟨k, hk⟩ : ∃ k : Int, cmpI x.path y.path = k := ⟨_, rfl⟩
        have Hok : Hid (ok = true ↔ x.path = y.path) := Lib.hid (by
          rw [← hok, beq_iff_eq]
          rcases h2 : lt y.path x.path with _ | _
          · rw [cmpI_eq hxy h2]
            exact ⟨fun _ => lt_total hxy h2, fun _ => rfl⟩
          · rw [cmpI_gt hxy h2]
            exact ⟨fun h => absurd h (by decide), fun h => absurd h.symm (lt_ne h2)⟩)
        rw [hk] at HP hok
        clear q0 q1 q2 hx hcell hxy hk
        have q0' := fun d os => cell_regrown g0 d os
        have q1' := fun d os => cell_regrown g1 d os
        have q2' := fun d os => cell_regrown g2 d os
        have y0' := fun d os => cell_regrown y0 d os
        have y1' := fun d os => cell_regrown y1 d os
        have y2' := fun d os => cell_regrown y2 d os
        go_upto_region 8 with (fail)
        (refine wp_region_quiet_below (by kernel_rfl) (by kernel_rfl) ?_; (repeat (go_big_quiet_step ((go_at_fn 183; exact Calls.regrown_of (HP _))))); refine wpQuiet_nil ?_; intro _ hq; obtain ⟨⟨dq, osq⟩, hq2⟩ := hq; subst hq2)
        have hE2 := below_regrown wr dq osq
        go_wp2
        go_ret2
        refine ⟨⟨i, ok, rfl, by have := Hn.out; omega, HB.out.1, HB.out.2, ?_⟩, by first | exact hE0.trans (hE.trans hE2) | exact (by repeat (first | exact Ext.refl _ | assumption | refine Ext.alloc ?_ _ | refine Ext.drew ?_ | refine Ext.drewN ?_ _ | refine Ext.setCell ?_ (by first | omega | (simp; done) | (simp; omega)) _ | refine Ext.trans ?_ (by assumption)))⟩
        rw [Hok.out]
        constructor
        · intro h
          exact ⟨hh, by rw [Hx.out]; exact h⟩
        · rintro ⟨_, h⟩
          rw [Hx.out] at h
          exact h
      · go_upto_region 8 with (fail)
        go_quiet (fail)
        go_wp2
        go_ret2
        exact ⟨⟨i, false, rfl, by have := Hn.out; omega, HB.out.1, HB.out.2, ⟨fun h => (by cases h), fun ⟨h, _⟩ => absurd h (by have := Hn.out; omega)⟩⟩, hE0.trans (hE.drewN _)⟩

/-! ### fold.put -/

theorem ins_false {l : List Ent} {x : Ent} {k : Nat} (hr : Rising l) (h : AtIs l x.path k false) : l.take k ++ x :: l.drop k = insT l x := by
  obtain ⟨h1, h2, h3, h4⟩ := h
  have hne : ∀ y ∈ l, y.path ≠ x.path := any_none hr ⟨h1, h2, h3, h4⟩
  have e1 : l.filter (fun y => lt y.path x.path) = l.take k := by
    have e : l.filter (fun y => lt y.path x.path) = (l.take k ++ l.drop k).filter (fun y => lt y.path x.path) := by rw [List.take_append_drop]
    rw [e, List.filter_append, List.filter_eq_self.2, List.filter_eq_nil_iff.2, List.append_nil]
    · intro y hy
      obtain ⟨j, hj, rfl⟩ := List.getElem_of_mem hy
      rw [List.length_drop] at hj
      rw [List.getElem_drop, h3 _ (by omega) (by omega)]
      simp
    · intro y hy
      obtain ⟨j, hj, rfl⟩ := List.getElem_of_mem hy
      rw [List.length_take] at hj
      rw [List.getElem_take]
      exact h2 _ (by omega) (by omega)
  have e2 : l.filter (fun y => lt x.path y.path) = l.drop k := by
    have e : l.filter (fun y => lt x.path y.path) = (l.take k ++ l.drop k).filter (fun y => lt x.path y.path) := by rw [List.take_append_drop]
    rw [e, List.filter_append, List.filter_eq_nil_iff.2, List.filter_eq_self.2, List.nil_append]
    · intro y hy
      have hm := List.mem_of_mem_drop hy
      obtain ⟨j, hj, rfl⟩ := List.getElem_of_mem hy
      rw [List.length_drop] at hj
      have h5 := h3 (k + j) (by omega) (by omega)
      have h6 := hne _ hm
      rw [List.getElem_drop] at h6 ⊢
      rcases h7 : lt x.path l[k + j].path with _ | _
      · exact absurd (lt_total h5 h7) h6
      · rfl
    · intro y hy
      obtain ⟨j, hj, rfl⟩ := List.getElem_of_mem hy
      rw [List.length_take] at hj
      rw [List.getElem_take, lt_asymm (h2 _ (by omega) (by omega))]
      simp
  rw [insT, e1, e2]

theorem ins_true {l : List Ent} {x : Ent} {k : Nat} (hr : Rising l) (h : AtIs l x.path k true) : ∃ _hk : k < l.length, l.set k x = insT l x := by
  obtain ⟨hk, e, hu⟩ := at_one hr h
  refine ⟨hk, ?_⟩
  have hset : Rising (l.set k x) := by
    rw [Rising, List.pairwise_iff_getElem]
    intro i j hi hj hij
    rw [List.length_set] at hi hj
    have h5 := hr.at_ hij hj
    rw [List.getElem_set, List.getElem_set]
    split <;> split
    · omega
    · rename_i h1 h2
      subst h1
      rw [e] at h5
      exact h5
    · rename_i h1 h2
      subst h2
      rw [e] at h5
      exact h5
    · exact h5
  refine rising_ext hset (rising_insT hr x) fun y => ?_
  rw [mem_insT]
  constructor
  · intro hy
    obtain ⟨j, hj, rfl⟩ := List.getElem_of_mem hy
    rw [List.length_set] at hj
    rw [List.getElem_set]
    split
    · exact .inl rfl
    · rename_i h1
      refine .inr ⟨List.getElem_mem _, fun e2 => h1 ?_⟩
      have h6 := rising_one hr (List.getElem_mem hj) (List.getElem_mem hk) (by rw [e2, e])
      rcases Nat.lt_trichotomy j k with h7 | h7 | h7
      · have := hr.at_ h7 hk
        rw [h6, lt_irrefl] at this
        cases this
      · exact h7.symm
      · have := hr.at_ h7 hj
        rw [h6, lt_irrefl] at this
        cases this
  · rintro (rfl | ⟨h1, h2⟩)
    · exact List.mem_iff_getElem.2 ⟨k, by rw [List.length_set]; exact hk, by simp⟩
    · obtain ⟨j, hj, rfl⟩ := List.getElem_of_mem h1
      have hjk : k ≠ j := fun e2 => by
        subst e2
        exact h2 e
      exact List.mem_iff_getElem.2 ⟨j, by rw [List.length_set]; exact hj, by rw [List.getElem_set, if_neg hjk]⟩

set_option maxHeartbeats 4000000 in
set_option maxRecDepth 20000 in
theorem Put_any (base : Nat) (v : Value) (l : List Ent) (x : Ent) (w0 w : World) (hE0 : Ext w0 w) (hb0 : w0.heap.size ≤ base) (hbw : base ≤ w.heap.size) (hrow : w.ownsRow base 66 3 v l.length (flatE l)) (hl : l.length ≤ 1000000) (hf : ∀ y ∈ l, y.fits) (hr : Rising l) :
    Calls Tryz.prog 140 #[v, .agg #[.string x.path, .int .i64 x.kind, .string x.data]] w (InsAns base w0 (insT l x)) := by
  have hrd := RdE.of_own hrow (by omega) hf
  have HS := fun W h => search3_any v l x W h hr
  have Hrd := Lib.hid hrd
  have Hr := Lib.hid hr
  have Hrow := Lib.hid hrow
  obtain ⟨n, hn⟩ : ∃ n, l.length = n := ⟨_, rfl⟩
  have Hn := Lib.hid hn
  have hEb : Ext w (w.alloc (.cells #[.string x.path, .int .i64 x.kind, .string x.data] 66)) := (Ext.refl w).alloc _
  have hB := Blk.new w 66 #[.string x.path, .int .i64 x.kind, .string x.data]
  have hxp : x.cells = [.string x.path, .int .i64 x.kind, .string x.data] := rfl
  rw [hn] at hl
  obtain ⟨⟨z0, f0⟩, ⟨z1, f1⟩, ⟨z2, f2⟩⟩ := hB.three
  obtain ⟨A, cap, rfl⟩ := own_form hrow
  rw [hn] at HS ⊢
  rw [hn] at Hrow Hrd
  clear hrd hrow hf hr hn
  have HSk : ∃ (K : Nat → Bool → Prop), K = fun k ok => AtIs l x.path k ok := ⟨_, rfl⟩
  go_enter Tryz.func140, Tryz.ntmps140
  go_upto_region 2 with (go_at_call 182; refine (HS _ (Hrd.out.ext hEb)).mono ?_; rintro e W1 ⟨⟨k, ok, rfl, hk⟩, hE1⟩)
  have hE01 := hE0.trans (hEb.trans hE1)
  have hB1 := hB.ext hE1
  have hrow1 := own_ext (own_ext Hrow.out hEb) hE1
  have hbw1 : base ≤ W1.heap.size := Nat.le_trans hbw (hEb.trans hE1).size
  have hwb : w.heap.size < W1.heap.size := hB1.lt
  have hgb : ∀ g, A = some ⟨g, 0, none⟩ → g < w.heap.size := fun g e => (Hrow.out.lt g (by rw [e]; rfl)).2
  obtain ⟨eb, heb⟩ : ∃ eb, w.heap.size = eb := ⟨_, rfl⟩
  rw [heb] at hB1 hwb hgb ⊢
  have Hrow1 := Lib.hid hrow1
  have Hhb1 := Lib.hid hB1
  clear z0 z1 z2 f0 f1 f2 hrow1
  obtain ⟨⟨z0, f0⟩, ⟨z1, f1⟩, ⟨z2, f2⟩⟩ := hB1.three
  clear HS hEb hB hE1 heb hB1
  rcases ok with _ | _
  · have hins := ins_false Hr.out hk
    have hkl : k ≤ l.length := hk.1
    have HI := fun W vb h1 h2 h3 h4 h5 => InsE_any (xs := l) (x := x) base (.slice A n cap) k vb w0 W h1 hb0 h2 (by rw [Hn.out]; exact h3) (by rw [Hn.out]; exact hl) hkl h4 h5
    rw [hins] at HI
    have HII := Lib.hid HI
    clear hk hins HI
    go_wp2_with (go_at_call 184; refine (HII.out _ _ (hE01.alloc _) (by rw [World.size_alloc]; omega) (Hrow1.out.alloc _) (Blk.new W1 _ _) (fun e => by have := (Hrow1.out.lt _ e).2; omega)).mono ?_; rintro e W3 ⟨v3, rfl, hrow3, hE3⟩)
    go_ret
    exact ⟨_, rfl, hrow3, hE3⟩
  · obtain ⟨hkl, hset⟩ := ins_true Hr.out hk
    rw [Hn.out] at hkl
    obtain ⟨g, rfl⟩ : ∃ g, A = some ⟨g, 0, none⟩ := by
      rcases Hrow.out.2 with ⟨e, h0⟩ | ⟨gb, _, _, e, _⟩
      · cases e; omega
      · cases e; exact ⟨_, rfl⟩
    have hgb := hgb g rfl
    have hbg : base ≤ g := (Hrow.out.lt g rfl).1
    have hrow1 := Hrow1.out
    have hcell : ∀ j, j < n * 3 → ∃ u, W1.cell? ⟨g, j, none⟩ = some u := fun j hj => ⟨_, (hrow1.cellAt j hj).trans (List.getElem?_eq_getElem (by rw [ents_length, Hn.out]; exact hj))⟩
    obtain ⟨u0, c0⟩ := hcell (k * 3) (by omega)
    obtain ⟨u1, c1⟩ := hcell (k * 3 + 1) (by omega)
    obtain ⟨u2, c2⟩ := hcell (k * 3 + 2) (by omega)
    have g0 := hrow1.frozenAt (k * 3)
    have g1 := hrow1.frozenAt (k * 3 + 1)
    have g2 := hrow1.frozenAt (k * 3 + 2)
    have s1 := hrow1.stored (k * 3) (.string x.path)
    have s2 := s1.1.stored (k * 3 + 1) (.int .i64 x.kind)
    have s3 := s2.1.stored (k * 3 + 2) (.string x.data)
    have s4 := s3.1
    rw [← flat_set l x k (by rw [Hn.out]; exact hkl), hset] at s4
    have hil : (insT l x).length = n := by rw [← hset, List.length_set, Hn.out]
    have Hs4 := Lib.hid s4
    have Hil := Lib.hid hil
    have hgeb : ¬ g = eb := by omega
    clear hk hset s1 s2 s3 s4 hil hrow1 hcell
    go_wp2
    go_ret
    exact ⟨_, rfl, by rw [Hil.out]; exact Hs4.out, (((hE01.setCell (p := ⟨g, k * 3, none⟩) (Nat.le_trans hb0 hbg) _).setCell (p := ⟨g, k * 3 + 1, none⟩) (Nat.le_trans hb0 hbg) _).setCell (p := ⟨g, k * 3 + 2, none⟩) (Nat.le_trans hb0 hbg) _)⟩
end Go.Proofs.YtneefmgidplbcaaGreatDoor

/-! ShN -/
namespace Go.Proofs.YtneefmgidplbcaaGreatDoor
open Go Go.RowKit

/-- All that a stack shows under a directory, each once. -/
def AllUnder (s : List (List Ent)) (xs : List ByteArray) (ys : List Ent) : Prop :=
  (ys.map (·.path)).Nodup ∧ ∀ e, e ∈ ys ↔ ∃ rest, rest ≠ [] ∧ ValN (xs ++ rest) ∧ showL s (pathOf (xs ++ rest)) = some e
/-- All that a stack shows under some names of a directory, each once. -/
def SomeUnder (s : List (List Ent)) (xs : List ByteArray) (l : List ByteArray) (ys : List Ent) : Prop :=
  (ys.map (·.path)).Nodup ∧ ∀ e, e ∈ ys ↔ ∃ z rest, z ∈ l ∧ ValN (xs ++ z :: rest) ∧ showL s (pathOf (xs ++ z :: rest)) = some e

theorem some_nil (s : List (List Ent)) (xs : List ByteArray) : SomeUnder s xs [] [] := ⟨by simp, fun e => by simp⟩

variable {s : List (List Ent)} {xs : List ByteArray}

theorem show_path (hs : stackOk s = true) {p : ByteArray} {e : Ent} (h : showL s p = some e) : e.path = p ∧ entOk e = true ∧ e.kind ≤ 2 ∧ e ∈ foldT s := by
  obtain ⟨h1, _, h3⟩ := fold_show hs
  rw [← h3] at h
  obtain ⟨h4, h5⟩ := findT_some h
  exact ⟨h5, ((treeOk_iff.1 h1).2.2 e h4).1, ((treeOk_iff.1 h1).2.2 e h4).2.1, h4⟩

/-- No more than the folded stack. -/
theorem some_len (hs : stackOk s = true) {l : List ByteArray} {ys : List Ent} (h : SomeUnder s xs l ys) : ys.length ≤ 576 ∧ ∀ e ∈ ys, entOk e = true := by
  obtain ⟨h1, h2, h3⟩ := fold_show hs
  have hm : ∀ e ∈ ys, e ∈ foldT s ∧ entOk e = true := fun e he => by
    obtain ⟨z, rest, _, _, h4⟩ := (h.2 e).1 he
    obtain ⟨_, g2, _, g4⟩ := show_path hs h4
    exact ⟨g4, g2⟩
  refine ⟨?_, fun e he => (hm e he).2⟩
  have hn := nodup_sub (ys.map (·.path)) ((foldT s).map (·.path)) h.1 fun p hp => by
    obtain ⟨e, he, rfl⟩ := List.mem_map.1 hp
    exact List.mem_map.2 ⟨e, (hm e he).1, rfl⟩
  rw [List.length_map, List.length_map] at hn
  omega

/-- A directory's names are those that it has shown. -/
theorem all_of (hs : stackOk s = true) {f : Nat} {l : List ByteArray} {ys : List Ent} (hv : ValN xs) (hd : dirE s (pathOf xs) = .ok f) (hl : NamesIs s (pathOf xs) f l) (h : SomeUnder s xs l ys) : AllUnder s xs ys := by
  obtain ⟨h1, _, h3⟩ := fold_show hs
  obtain ⟨_, hlay⟩ := stackOk_layers hs
  have hT := show_tree hlay
  refine ⟨h.1, fun e => ?_⟩
  rw [h.2]
  constructor
  · rintro ⟨z, rest, _, h4, h5⟩
    exact ⟨z :: rest, by simp, h4, h5⟩
  · rintro ⟨rest, h0, h4, h5⟩
    rcases rest with _ | ⟨z, rest⟩
    · exact absurd rfl h0
    · refine ⟨z, rest, ?_, h4, h5⟩
      have hup : ∀ (r : List ByteArray) (e : Ent), ValN (xs ++ z :: r) → showL s (pathOf (xs ++ z :: r)) = some e → ∃ d, showL s (pathOf (xs ++ [z])) = some d := by
        intro r
        induction hlen : r.length generalizing r with
        | zero =>
          intro e _ h5
          rw [List.eq_nil_of_length_eq_zero hlen] at h5
          exact ⟨e, h5⟩
        | succ n ih =>
          intro e h4 h5
          have hne : r ≠ [] := List.ne_nil_of_length_pos (by omega)
          rw [← List.dropLast_concat_getLast hne, ← List.cons_append, ← List.append_assoc] at h4 h5
          obtain ⟨d, hd, _⟩ := hT _ _ _ (by simp) h4 h5
          exact ih r.dropLast (by rw [List.length_dropLast]; omega) d h4.left hd
      obtain ⟨d, hd2⟩ := hup rest e h4 h5
      have hv1 : ValN (xs ++ [z]) := by
        have := h4.take (xs.length + 1)
        rwa [List.take_append, List.take_of_length_le (by omega), show xs.length + 1 - xs.length = 1 by omega, List.take_succ_cons, List.take_zero] at this
      have hzn : nameB z = true := by
        have := hv1.1
        rw [List.all_append, Bool.and_eq_true] at this
        simpa using this.2
      rw [names_fold hs hd hl, inT_mem h1 hv.names hzn, h3, child_path hv.1 hv.2, hd2]
      rfl

/-- One name more: what lies there, and what lies under it. -/
theorem some_snoc (hs : stackOk s = true) {l : List ByteArray} {z : ByteArray} {ys sub : List Ent} {e : Ent} (hz : z ∉ l) (hv : ValN (xs ++ [z])) (h : SomeUnder s xs l ys) (he : showL s (pathOf (xs ++ [z])) = some e)
    (hsub : (e.kind = 2 ∧ AllUnder s (xs ++ [z]) sub) ∨ (e.kind ≠ 2 ∧ sub = [])) : SomeUnder s xs (l ++ [z]) (ys ++ (e :: sub)) := by
  obtain ⟨_, hlay⟩ := stackOk_layers hs
  have hT := show_tree hlay
  obtain ⟨hep, _, _, _⟩ := show_path hs he
  -- what lies under the name
  have hall : AllUnder s (xs ++ [z]) sub := by
    rcases hsub with ⟨_, h1⟩ | ⟨h1, rfl⟩
    · exact h1
    · refine ⟨by simp, fun u => ⟨fun h => by simp at h, ?_⟩⟩
      rintro ⟨rest, h0, h2, h3⟩
      exfalso
      have : ∀ n (rest : List ByteArray) (u : Ent), rest.length = n + 1 → ValN ((xs ++ [z]) ++ rest) → showL s (pathOf ((xs ++ [z]) ++ rest)) = some u → e.kind = 2 := by
        intro n
        induction n with
        | zero =>
          intro rest u hl hv2 hu
          obtain ⟨y, rfl⟩ := List.length_eq_one_iff.1 hl
          obtain ⟨d, hd, hk⟩ := hT _ _ _ (by simp) hv2 hu
          rw [he] at hd
          cases hd
          exact hk
        | succ n ih =>
          intro rest u hl hv2 hu
          have hne : rest ≠ [] := List.ne_nil_of_length_pos (by omega)
          rw [← List.dropLast_concat_getLast hne, ← List.append_assoc] at hv2 hu
          obtain ⟨d, hd, _⟩ := hT _ _ _ (by simp) hv2 hu
          exact ih rest.dropLast d (by rw [List.length_dropLast]; omega) hv2.left hd
      have hl := List.length_pos_iff.2 h0
      exact h1 (this (rest.length - 1) rest u (by omega) h2 h3)
  have hblk : ∀ u, u ∈ e :: sub ↔ ∃ rest, ValN (xs ++ z :: rest) ∧ showL s (pathOf (xs ++ z :: rest)) = some u := fun u => by
    rw [List.mem_cons, hall.2]
    constructor
    · rintro (rfl | ⟨rest, _, h1, h2⟩)
      · exact ⟨[], hv, he⟩
      · exact ⟨rest, by simpa using h1, by simpa using h2⟩
    · rintro ⟨rest, h1, h2⟩
      by_cases h0 : rest = []
      · subst h0
        left
        rw [he] at h2
        exact (Option.some.inj h2).symm
      · exact .inr ⟨rest, h0, by simpa using h1, by simpa using h2⟩
  have hpath : ∀ u, (u ∈ e :: sub → ∃ rest, ValN (xs ++ z :: rest) ∧ u.path = pathOf (xs ++ z :: rest)) := fun u hu => by
    obtain ⟨rest, h1, h2⟩ := (hblk u).1 hu
    exact ⟨rest, h1, (show_path hs h2).1⟩
  refine ⟨?_, fun u => ?_⟩
  · rw [List.map_append, List.nodup_append]
    refine ⟨h.1, ?_, ?_⟩
    · rw [List.map_cons, List.nodup_cons]
      refine ⟨fun hm => ?_, hall.1⟩
      obtain ⟨u, hu, hp⟩ := List.mem_map.1 hm
      obtain ⟨rest, h0, h1, h2⟩ := (hall.2 u).1 hu
      have := (show_path hs h2).1
      rw [hp, hep] at this
      have h3 := congrArg List.length (hv.inj h1 this)
      simp only [List.length_append, List.length_singleton] at h3
      have := List.length_pos_iff.2 h0
      omega
    · intro p hp q hq e2
      subst e2
      obtain ⟨u, hu, rfl⟩ := List.mem_map.1 hp
      obtain ⟨v, hv2, hpv⟩ := List.mem_map.1 hq
      obtain ⟨y, rest, hy, h1, h2⟩ := (h.2 u).1 hu
      obtain ⟨rest2, h3, h4⟩ := hpath v hv2
      rw [hpv, (show_path hs h2).1] at h4
      have h5 := h1.inj h3 h4
      have h6 := List.append_cancel_left h5
      cases h6
      exact hz hy
  · rw [List.mem_append, h.2, hblk]
    constructor
    · rintro (⟨y, rest, h1, h2, h3⟩ | ⟨rest, h1, h2⟩)
      · exact ⟨y, rest, by simp [h1], h2, h3⟩
      · exact ⟨z, rest, by simp, h1, h2⟩
    · rintro ⟨y, rest, h1, h2, h3⟩
      rcases List.mem_append.1 h1 with h1 | h1
      · exact .inl ⟨y, rest, h1, h2, h3⟩
      · rw [List.mem_singleton] at h1
        subst h1
        exact .inr ⟨rest, h2, h3⟩

/-- All that a stack shows, sorted, is the folded stack. -/
theorem walk_fold (hs : stackOk s = true) {ys zs : List Ent} (h : AllUnder s [] ys) (hp : zs.Perm ys) (hz : zs.Pairwise fun a b => lt b.path a.path = false) : zs = foldT s := by
  obtain ⟨h1, _, h3⟩ := fold_show hs
  have hnd : (zs.map (·.path)).Nodup := (hp.map _).nodup_iff.2 h.1
  have hr : Rising zs := by
    have h4 : zs.Pairwise fun a b => a.path ≠ b.path := List.pairwise_map.1 hnd
    refine (hz.and h4).imp fun {a b} hab => ?_
    rcases h5 : lt a.path b.path with _ | _
    · exact absurd (lt_total h5 hab.1) hab.2
    · rfl
  refine rising_ext hr (treeOk_rising h1) fun e => ?_
  rw [hp.mem_iff, h.2]
  constructor
  · rintro ⟨rest, _, _, h5⟩
    exact (show_path hs h5).2.2.2
  · intro he
    obtain ⟨ws, w, h5, _⟩ := ent_names ((treeOk_iff.1 h1).2.2 e he).1
    obtain ⟨hv, hep⟩ := ValN.of h5
    refine ⟨ws ++ [w], by simp, by simpa using hv, ?_⟩
    rw [List.nil_append, hep, ← h3]
    exact findT_of (treeOk_rising h1) he

/-- A tree, as a stack of its own, folds to itself. -/
theorem fold_self {t : List Ent} (ht : treeOk t = true) (hl : t.length ≤ 64) : layerOk t = true ∧ foldT [t] = t ∧ foldT [t, t] = t := by
  obtain ⟨_, hr, hall⟩ := treeOk_iff.1 ht
  have ho : layerOk t = true := layerOk_iff.2 ⟨hl, hr, fun x hx => ⟨(hall x hx).1, (hall x hx).2.2.elim .inl fun ⟨y, hy, h1, h2⟩ => .inr ⟨y, hy, h1, by simp [holds, h2]⟩⟩⟩
  have hres : ∀ e ∈ t, resE e = some e := fun e he => by
    have h1 := (hall e he).1
    have h2 := (hall e he).2.1
    have h3 := entOk_kind h1
    by_cases h4 : e.kind = 1
    · rw [resE, if_neg (by omega), if_pos h4]
    · have h5 : e.kind = 2 := by omega
      rw [(resE_dir h1 (by omega) h4).1]
      cases e
      simp at h5 ⊢
      exact h5.symm
  have hstep : ∀ u : List Ent, (∀ p, findT u p = none ∨ u = t) → Rising u → overT u t = t := fun u hu hru => by
    have h1 := over_find hru ho
    refine rising_ext (h1 ⟨#[]⟩).1 hr fun e => ?_
    have h2 : ∀ p, findT (overT u t) p = findT t p := fun p => by
      rw [(h1 p).2]
      rcases hf : findT t p with _ | x
      · rw [stepL_none hf]
        rcases hu p with h3 | h3
        · rw [h3]; split <;> rfl
        · rw [h3, hf]; split <;> rfl
      · rw [stepL_some hf, hres x (findT_some hf).1]
    constructor
    · intro he
      have h3 := findT_of (h1 ⟨#[]⟩).1 he
      rw [h2] at h3
      exact (findT_some h3).1
    · intro he
      have h3 := findT_of hr he
      rw [← h2] at h3
      exact (findT_some h3).1
  have h1 : overT [] t = t := hstep [] (fun p => .inl rfl) List.Pairwise.nil
  refine ⟨ho, h1, ?_⟩
  show overT (overT [] t) t = t
  rw [h1]
  exact hstep t (fun _ => .inr rfl) hr
end Go.Proofs.YtneefmgidplbcaaGreatDoor

/-! LHelp -/
namespace Go.Proofs.YtneefmgidplbcaaGreatDoor
open Go Go.RowKit Go.Shelf Go.Proofs

def rootB : ByteArray := ⟨#[47]⟩
theorem look_root {s : List (List Ent)} (h : stackOk s = true) : lookE s rootB = .ok (⟨rootB, 2, ⟨#[]⟩⟩, 0) := by
  rw [lookE, if_pos h, rootB, names_root]
  rfl
theorem dir_root {s : List (List Ent)} (h : stackOk s = true) : dirE s rootB = .ok 0 := by
  rw [dirE, look_root h]
  rfl

theorem lookN_code {s : List (List Ent)} {xs : List ByteArray} {i : Nat} {c : Int} (h : lookN s xs i = .error c) : c ≠ 0 := by
  induction i with
  | zero => rw [lookN] at h; cases h
  | succ i ih =>
    rw [lookN] at h
    split at h
    · rename_i c' hc
      cases h
      exact ih hc
    · split at h
      · cases h; decide
      · split at h
        · cases h
        · cases h; decide
theorem lookE_code {s : List (List Ent)} {p : ByteArray} {c : Int} (h : lookE s p = .error c) : c ≠ 0 := by
  rw [lookE] at h
  split at h
  · split at h
    · cases h; decide
    · exact lookN_code h
  · cases h; decide
theorem dirE_code {s : List (List Ent)} {p : ByteArray} {c : Int} (h : dirE s p = .error c) : c ≠ 0 := by
  rw [dirE] at h
  split at h
  · rename_i c' hc
    cases h
    exact lookE_code hc
  · split at h
    · cases h; decide
    · cases h

theorem few_yes {v : Value} {s : List (List Ent)} (h : fewOk s = true) (w : World) (hv : RdK w v s) : Calls Tryz.prog 9 #[v] w fun e w' => e = .returned (.int .i64 1) ∧ Ext w w' := by
  have := Few_any v s w hv
  rwa [h] at this
theorem few_no {v : Value} {s : List (List Ent)} (h : fewOk s = false) (w : World) (hv : RdK w v s) : Calls Tryz.prog 9 #[v] w fun e w' => e = .returned (.int .i64 0) ∧ Ext w w' := by
  have := Few_any v s w hv
  rwa [h] at this

theorem rdS_form {w : World} {v : Value} {l : List ByteArray} {n : Nat} (hv : RdS w v l) (hn : n = l.length) :
    ∃ A c, v = .slice A n c ∧ n ≤ c ∧ c ≤ 9223372036854775807 ∧ Hid (l ≠ [] → ∃ b o, A = some ⟨b, o, none⟩ ∧ ∀ (j : Nat) (h : j < l.length), w.cell? ⟨b, o + j, none⟩ = some (.string l[j])) := by
  by_cases h0 : l = []
  · obtain ⟨A, c, e, h1, h2, _⟩ := hv
    rw [← hn] at e h1
    exact ⟨A, c, e, h1, h2, Lib.hid fun h => absurd h0 h⟩
  · obtain ⟨b, o, c, e, h1, h2, h3⟩ := RdS.open_ hv h0
    rw [← hn] at e h1
    exact ⟨_, c, e, h1, h2, Lib.hid fun _ => ⟨b, o, rfl, fun j h => h3 j _ (List.getElem?_eq_getElem h)⟩⟩
end Go.Proofs.YtneefmgidplbcaaGreatDoor

/-! LDir -/
namespace Go.Proofs.YtneefmgidplbcaaGreatDoor
open Go Go.RowKit Go.Shelf Go.Proofs

def DirOk (f : Nat) (w : World) (e : Ending) (w' : World) : Prop := e = .returned (.tuple #[.int .i64 f, .nilIface]) ∧ Ext w w'
def DirBad (c : Int) (w : World) (e : Ending) (w' : World) : Prop := ∃ a, e = .returned (.tuple #[.int .i64 0, .iface 135 (.pointer (some ⟨a, 0, none⟩))]) ∧ ErrN w' 1 (.iface 135 (.pointer (some ⟨a, 0, none⟩))) c ∧ Ext w w'
def DirAns (r : Except Int Nat) (w : World) (e : Ending) (w' : World) : Prop := match r with
  | .ok f => DirOk f w e w'
  | .error c => DirBad c w e w'

set_option maxHeartbeats 4000000 in
theorem Dir_any (v : Value) (s : List (List Ent)) (p : ByteArray) (w : World) (hv : RdK w v s) (hp : p.size ≤ 140737488355328) :
    Calls Tryz.prog 168 #[v, .string p] w (DirAns (dirE s p) w) := by
  have HA := LAt_any v s p w hv hp
  rcases hl : lookE s p with c | x
  · rw [hl] at HA
    have hd : dirE s p = .error c := by rw [dirE, hl]
    rw [hd]
    show Calls _ _ _ _ (DirBad c w)
    clear hv hl hd
    go_enter Tryz.func168, Tryz.ntmps168
    go_wp2_with (go_at_call 40; refine HA.mono ?_; rintro e W1 ⟨u, rfl, hEr, hE1⟩; obtain ⟨a5, rfl⟩ := ErrN_one hEr)
    go_ret2
    exact ⟨_, rfl, hEr.below ((Ext.refl W1).alloc _).below, (by repeat (first | exact Ext.refl _ | assumption | refine Ext.alloc ?_ _ | refine Ext.drew ?_ | refine Ext.drewN ?_ _ | refine Ext.setCell ?_ (by first | omega | (simp; done) | (simp; omega)) _ | refine Ext.trans ?_ (by assumption)))⟩
  · rw [hl] at HA
    obtain ⟨x, fl⟩ := x
    have HA : Calls Tryz.prog 40 #[v, .string p] w (AtOk (x, fl) w) := HA
    by_cases hk : x.kind = 1
    · have hd : dirE s p = .error 6 := by rw [dirE, hl]; exact if_pos hk
      rw [hd]
      show Calls _ _ _ _ (DirBad 6 w)
      clear hv hl hd
      go_enter Tryz.func168, Tryz.ntmps168
      go_wp2_with (first | (go_at_call 40; refine HA.mono ?_; rintro e W1 ⟨rfl, hE1⟩) | (go_at_call 38; refine (fail_At_c _ _ _ _).mono ?_; rintro e W3 ⟨⟨a5, rfl, hEr⟩, hE3⟩))
      go_ret2
      exact ⟨_, rfl, hEr, Ext.trans (by exact (by repeat (first | exact Ext.refl _ | assumption | refine Ext.alloc ?_ _ | refine Ext.drew ?_ | refine Ext.drewN ?_ _ | refine Ext.setCell ?_ (by first | omega | (simp; done) | (simp; omega)) _ | refine Ext.trans ?_ (by assumption)))) hE3⟩
    · have hd : dirE s p = .ok fl := by rw [dirE, hl]; exact if_neg hk
      rw [hd]
      show Calls _ _ _ _ (DirOk fl w)
      have hk1 : (x.kind == 1) = false := by simpa using hk
      clear hv hl hd hk
      go_enter Tryz.func168, Tryz.ntmps168
      go_wp2_with (go_at_call 40; refine HA.mono ?_; rintro e W1 ⟨rfl, hE1⟩)
      go_ret2
      exact ⟨rfl, (by repeat (first | exact Ext.refl _ | assumption | refine Ext.alloc ?_ _ | refine Ext.drew ?_ | refine Ext.drewN ?_ _ | refine Ext.setCell ?_ (by first | omega | (simp; done) | (simp; omega)) _ | refine Ext.trans ?_ (by assumption)))⟩

set_option maxHeartbeats 4000000 in
theorem Shows_any (v : Value) (s : List (List Ent)) (p : ByteArray) (w : World) (hv : RdK w v s) (hp : p.size ≤ 140737488355328) :
    Calls Tryz.prog 136 #[v, .string p] w fun e w' => e = .returned (.bool (showsE s p)) ∧ Ext w w' := by
  have HA := LAt_any v s p w hv hp
  rcases hl : lookE s p with c | x
  · rw [hl] at HA
    have hd : showsE s p = false := by rw [showsE, hl]
    rw [hd]
    clear hv hl hd
    go_enter Tryz.func136, Tryz.ntmps136
    go_wp2_with (go_at_call 40; refine HA.mono ?_; rintro e W1 ⟨u, rfl, hEr, hE1⟩; obtain ⟨a5, rfl⟩ := ErrN_one hEr)
    go_ret
    exact ⟨rfl, (by repeat (first | exact Ext.refl _ | assumption | refine Ext.alloc ?_ _ | refine Ext.drew ?_ | refine Ext.drewN ?_ _ | refine Ext.setCell ?_ (by first | omega | (simp; done) | (simp; omega)) _ | refine Ext.trans ?_ (by assumption)))⟩
  · rw [hl] at HA
    obtain ⟨x, fl⟩ := x
    have HA : Calls Tryz.prog 40 #[v, .string p] w (AtOk (x, fl) w) := HA
    have hd : showsE s p = true := by rw [showsE, hl]
    rw [hd]
    clear hv hl hd
    go_enter Tryz.func136, Tryz.ntmps136
    go_wp2_with (go_at_call 40; refine HA.mono ?_; rintro e W1 ⟨rfl, hE1⟩)
    go_ret
    exact ⟨rfl, (by repeat (first | exact Ext.refl _ | assumption | refine Ext.alloc ?_ _ | refine Ext.drew ?_ | refine Ext.drewN ?_ _ | refine Ext.setCell ?_ (by first | omega | (simp; done) | (simp; omega)) _ | refine Ext.trans ?_ (by assumption)))⟩

theorem child_any (d x : ByteArray) (w : World) (hd : d.size ≤ 70368744177664) (hx : x.size ≤ 70368744177664) :
    Calls Tryz.prog 130 #[.string d, .string x] w fun e w' => e = .returned (.string (childP d x)) ∧ Ext w w' := by
  by_cases h : d = ⟨#[47]⟩
  · subst h
    go_enter Tryz.func130, Tryz.ntmps130
    go_wp2
    go_ret
    refine ⟨congrArg (fun y => Ending.returned (.string y)) (?_ : (⟨#[47]⟩ : ByteArray) ++ x = _), (by repeat (first | exact Ext.refl _ | assumption | refine Ext.alloc ?_ _ | refine Ext.drew ?_ | refine Ext.drewN ?_ _ | refine Ext.setCell ?_ (by first | omega | (simp; done) | (simp; omega)) _ | refine Ext.trans ?_ (by assumption)))⟩
    rw [childP, if_pos rfl]
    exact ByteArray.ext (by simp [B])
  · have hne : (d.toList == [47]) = false := by
      rw [beq_eq_false_iff_ne]
      exact fun e => h (data_inj (by rw [← toList_eq, e]))
    go_enter Tryz.func130, Tryz.ntmps130
    go_wp2
    go_ret
    refine ⟨congrArg (fun y => Ending.returned (.string y)) (?_ : d ++ ⟨#[47]⟩ ++ x = _), (by repeat (first | exact Ext.refl _ | assumption | refine Ext.alloc ?_ _ | refine Ext.drew ?_ | refine Ext.drewN ?_ _ | refine Ext.setCell ?_ (by first | omega | (simp; done) | (simp; omega)) _ | refine Ext.trans ?_ (by assumption)))⟩
    rw [childP, if_neg h]
    exact ByteArray.ext (by simp [B])
end Go.Proofs.YtneefmgidplbcaaGreatDoor

/-! KeysP -/
namespace Go.Proofs.YtneefmgidplbcaaGreatDoor
open Go Go.RowKit Go.Shelf Go.Proofs Go.Maps Go.Sort

/-- What is known of what has come. -/
def KeysOf {H : Type} (D0 : DataW H) (pre : List (List UInt8)) : Prop := pre.Nodup ∧ ∀ y ∈ pre, Maps.has D0 (.string y) = true

set_option maxRecDepth 100000 in
set_option maxHeartbeats 1000000 in
theorem keys1P_in {P : Program} {ρ : Ren} (L : SlLaysZ.n10 P ρ) {H : Type} (F : Fence) (n : Nat) (h10 : F.fn (ρ.f 10)) (hro : F.round = none) (hn : 1 ≤ n) (l Bm b nn : Nat) (D0 : DataW H) {R : Value → Option (DataW H × List MemPlace)} (J Jx : List (List UInt8) → World → Prop)
    (hY : ∀ pre x W, J pre W → KeysOf D0 (pre ++ [x]) → YieldAt F (n - 1) P l #[encStr x] W fun e W' =>
      (e = .returned (.bool true) ∧ J (pre ++ [x]) W' ∧ KeepsWalks W W') ∨ (e = .returned (.bool false) ∧ Jx (pre ++ [x]) W'))
    (W : World) (hJ : AbidesFrom W.heap.size J) (hm : W.cell? ⟨Bm, 0, none⟩ = some (.map (some b))) (hown : W.ownsMap P (ρ.t 26) R b nn D0) (h0 : J [] W) :
    CallsIn F n P (ρ.f 10) #[.func (.yield l) #[] #[], .pointer (some ⟨Bm, 0, none⟩)] W fun e W' => (∃ v, e = .returned v) ∧
      ((∃ ss : List (List UInt8), (ss.Nodup ∧ ∀ x, x ∈ ss ↔ Maps.has D0 (.string x) = true) ∧ J ss W') ∨ (∃ pre : List (List UInt8), KeysOf D0 pre ∧ Jx pre W')) := by
  have mixed := L.mixed; have t0 := L.t0; have a0 := L.a0; have z0 := L.z0; have v0 := L.v0; have t4 := L.t4; have a4 := L.a4; have z4 := L.z4; have v4 := L.v4; have t23 := L.t23; have a23 := L.a23; have z23 := L.z23; have v23 := L.v23; have t26 := L.t26; have a26 := L.a26; have z26 := L.z26; have v26 := L.v26; have t33 := L.t33; have a33 := L.a33; have z33 := L.z33; have v33 := L.v33
  have u0 := run_underlying L.t0; have u4 := run_underlying L.t4; have u23 := run_underlying L.t23; have u26 := run_underlying L.t26; have u33 := run_underlying L.t33
  obtain ⟨_, _, FG⟩ := L.f10
  refine callsIn_of_wp FG rfl h10 ?_ hro
  simp only [SlBodyZ.n10_ntmps ρ, List.size_toArray, List.length_cons, List.length_nil, Nat.reduceAdd, Nat.reduceSub, Array.replicate_succ, Array.replicate_zero, List.push_toArray, List.append_toArray, List.nil_append, List.cons_append]
  gi_wp2_with (first
    | (gi_at_range; refine wpListIn_range_own _ rfl _ (ρ.t 23) rfl (ρ.t 26) (ρ.t 3) (string_keyed L.t26) L.t23 _ b nn _ rfl hown ?_; intro w0 hrg0 hg0 hs0)
    | gi_in)
  go_frame
  gi_loopw [3] (fun _ wr => ∃ (left : Lit → Bool) (cnt : Nat) (ss : List (List UInt8)), wr.ranges P (ρ.t 26) R b W.heap.size nn D0 left cnt ∧ ss.length + cnt ≤ Maps.size D0 ∧ Collected D0 left ss ∧ J ss wr)
    (fun _ wr => wr.rangeLeft b W.heap.size)
  case atStart =>
    exact ⟨_, _, [], hrg0, by simp, Collected.start D0, hJ [] W w0 none h0 hg0 (fun r e => by cases e)⟩
  case round =>
    obtain ⟨left, cnt, ss, hrg, hcs, hC, hJs⟩ := hrel
    gi_wp2_with (first
      | (gi_at_next; refine wpListIn_next_ranges _ rfl _ rfl (ρ.t 26) (string_keyed L.t26) R encStr id (fun key kl hk => by obtain ⟨x, hx, _⟩ := Maps.keyOf_str L.t26 hk; exact ⟨x, hx⟩) (fun v _ _ => ⟨v, rfl⟩) b W.heap.size nn _ _ _ rfl hrg ?_ ?_)
      | gi_in)
    · -- NOTHING IS LEFT
      intro hc0 hl0
      gi_wp2
      go_end0
      exact ⟨⟨_, rfl⟩, .inl ⟨ss, ⟨hC.1, fun x => by rw [hC.2 x, hl0]; simp⟩, hJs⟩⟩
    · -- AN ENTRY HAS COME: yield(k)
      intro x c kl yd yp w2 cnt2 hkey hlk hv hat hrg2 hlt hg2 hs2 hen
      obtain ⟨x', ex, rfl, _⟩ := Maps.keyOf_str L.t26 hkey
      obtain rfl : x = x' := encStr_inj ex
      have hJ2 : J ss w2 := hJ ss wr w2 (some W.heap.size) hJs hg2 (fun r e => by cases e; exact ⟨Nat.le_refl _, hrg.iter_walk⟩)
      have hC2 := hC.step hlk hat
      obtain ⟨fn, tmps, assign, body, hy, hR⟩ := hY ss x w2 hJ2 ⟨hC2.1, fun y hy => ((hC2.2 y).1 hy).1⟩
      clear hs2 hC2
      gi_wp2
      refine hR.mono ?_
      have hC2 := hC.step hlk hat
      rintro e W3 (⟨rfl, hJ3, hk3⟩ | ⟨rfl, hJx3⟩)
      · gi_wp2
        have hrg3 := hrg2.of_walks hk3
        go_roundw
        case rel => exact ⟨_, cnt2, ss ++ [x], hrg3, by simp; omega, hC2, hJ3⟩
        case measure => rw [hrg3.left_eq, hrg.left_eq]; exact hlt
      · -- THE ROUND HAS SAID 'NO MORE': 'if !yield(k) { return }'
        gi_wp2
        refine bodyPost_ret (results_none rfl _ _ _) rfl ?_
        exact ⟨⟨_, rfl⟩, .inr ⟨ss ++ [x], ⟨hC2.1, fun y hy => ((hC2.2 y).1 hy).1⟩, hJx3⟩⟩

/-- maps.Keys' iterator at this dump. -/
theorem keysP_stops {H : Type} (n : Nat) (hn : 1 ≤ n) (Bm b nn c : Nat) (D0 : DataW H) {R : Value → Option (DataW H × List MemPlace)} (w : World) (hBm : Bm < w.heap.size)
    (hm : w.cell? ⟨Bm, 0, none⟩ = some (.map (some b))) (hown : w.ownsMap Tryz.prog 9 R b nn D0) :
    SeqStopsC Fence.wide n Tryz.prog 209 #[.pointer (some ⟨Bm, 0, none⟩)] (fun x : List UInt8 => #[encStr x]) KeepsWalks (fun ss => ss.Nodup ∧ ∀ x, x ∈ ss ↔ Maps.has D0 (.string x) = true) (KeysOf D0) (KeysOf D0) c w := fun l J Jx W hW hJ _ _ hY h0 => by
  have hown' : W.ownsMap Tryz.prog 9 R b nn D0 := by
    have hbl := hown.lt
    obtain ⟨es, clock, hb, Ft, hs, hD⟩ := hown
    exact ⟨es, clock, (hW.block b hbl).trans hb, Ft, hs, hD⟩
  exact keys1P_in (ρ := Tryz.keysS_ren) { Tryz.keysS with } Fence.wide n trivial rfl hn l Bm b nn D0 J Jx hY W hJ ((hW.cell (p := ⟨Bm, 0, none⟩) hBm).trans hm) hown' h0
end Go.Proofs.YtneefmgidplbcaaGreatDoor

/-! SortS -/
namespace Go.Proofs.YtneefmgidplbcaaGreatDoor
open Go Go.RowKit Go.Shelf Go.Proofs Go.Sort

def SortAnsS (base : Nat) (v : Value) (ss : List (List UInt8)) (w : World) (e : Ending) (w' : World) : Prop :=
  e = .returned (.tuple #[]) ∧ w'.ownsRow base 9 1 v ss.length ((ss.mergeSort fun x y => decide (x ≤ y)).map encStr) ∧ (∀ row, v.ownBlock = row → w.grownBy w' row)

theorem sortS_any (base : Nat) (v : Value) (ss : List (List UInt8)) (w : World) (hrow : w.ownsRow base 9 1 v ss.length (ss.map encStr)) (hl : ss.length ≤ 1000000) :
    Calls Tryz.prog 170 #[v] w (SortAnsS base v ss w) := by
  rcases hrow.2 with ⟨rfl, hz⟩ | ⟨gb, cap, cur, rfl, hbase, hgb, r1, r2, r3, r4⟩
  · have hss : ss = [] := List.eq_nil_of_length_eq_zero hz
    subst hss
    have h := Any.slices_Sort_string_none Tryz.lays190 none 0 w
    change Calls Tryz.prog 170 _ _ _ at h
    refine h.mono ?_
    rintro e w' ⟨rfl, rfl⟩
    refine ⟨rfl, by simpa using hrow, fun row _ => ⟨rfl, rfl, rfl, Nat.le_refl _, fun _ _ _ => rfl⟩⟩
  · have hH : Holds encStr w gb 0 ss.toArray := holds_of_block hgb (by simpa using r4)
    have hgl : gb < w.heap.size := (Array.getElem?_eq_some_iff.1 hgb).1
    have h := Any.slices_Sort_string Tryz.lays190 gb 0 cap ss w hH hgl (by omega)
    change Calls Tryz.prog 170 _ _ _ at h
    refine h.mono ?_
    rintro e w' ⟨rfl, nn, os, rfl⟩
    refine ⟨rfl, ownsRow_sorted (by simp) hbase hgb r1 r2 r3, fun row hr => ?_⟩
    have : row = some gb := by rw [← hr]; rfl
    subst this
    exact grownBy_sorted _
end Go.Proofs.YtneefmgidplbcaaGreatDoor
