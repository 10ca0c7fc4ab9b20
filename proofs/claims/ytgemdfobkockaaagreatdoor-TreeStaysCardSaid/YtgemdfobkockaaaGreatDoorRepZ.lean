/- strings.Repeat of one zero byte: so many zero bytes; for at most 2^40 of them. -/
import Derived.Test.YtgemdfobkockaaaGreatDoorBuild
import Derived.Shelf.Strings.BuilderF
import Derived.Lib.RepeatB
import Derived.Lib.Hide
import Derived.Deep.LoopGhost
import Derived.Deep.DeepCutAuto
import Derived.Deep.CutBlock
namespace Go.Proofs.YtgemdfobkockaaaGreatDoor
open Go Go.RowKit Go.Shelf Go.Proofs

theorem copyCheckF_any (B b : Nat) (bs : List Value) (w : World) (h : Lib.IsBuilderF 217 5 B b bs w) :
    Calls Tryz.prog 197 #[.pointer (some ⟨b, 0, none⟩)] w fun e w' => e = .returned (.tuple #[]) ∧ (Lib.BuilderAtF 217 5 B b (.pointer (some ⟨b, 0, none⟩)) bs w' ∧ Below B w w') := by
  rcases h with h | h
  · refine (copyCheck_fresh b w h.cell0 h.shape h.frozen0).mono ?_
    rintro e w' ⟨rfl, rfl⟩
    exact ⟨rfl, h.used _, (Below.refl B w).setCell (p := ⟨b, 0, none⟩) h.1 _⟩
  · refine (copyCheck_used b w h.cell0).mono ?_
    rintro e w' ⟨rfl, rfl⟩
    exact ⟨rfl, h, Below.refl B _⟩

set_option maxHeartbeats 2000000 in
set_option maxRecDepth 100000 in
theorem writeF_any (B b : Nat) (bs : List Value) (s : ByteArray) (w : World) (h : Lib.IsBuilderF 217 5 B b bs w) (hlen : bs.length + s.size ≤ 140737488355328) (hBw : B ≤ w.heap.size) :
    Calls Tryz.prog 156 #[.pointer (some ⟨b, 0, none⟩), .string s] w fun e w' => e = .returned (.tuple #[.int .i64 s.size, .nilIface]) ∧ (Lib.BuilderAtF 217 5 B b (.pointer (some ⟨b, 0, none⟩)) (bs ++ Lib.strCells s) w' ∧ Below B w w') := by
  obtain ⟨i0, hi, hz0, hz1, hz2⟩ := info_parts byte_info
  go_enter Tryz.func156, Tryz.ntmps156
  go_wp2_with (go_at_call 197; refine (copyCheckF_any B b bs _ h).mono ?_)
  rintro e w1 ⟨rfl, h1, hb1⟩
  obtain ⟨hB, v, hbk, hown, hne⟩ := h1
  have c0 : w1.cell? ⟨b, 0, none⟩ = some (.pointer (some ⟨b, 0, none⟩)) := by rw [Lib.cell_of_heap hbk]; rfl
  have c1 : w1.cell? ⟨b, 1, none⟩ = some v := by rw [Lib.cell_of_heap hbk]; rfl
  go_wp2_with (at_builtin; refine Lib.wpList_append_own_stringF _ rfl _ _ 46 9 rfl B 5 i0 Tryz.underlying46 Tryz.underlying9 hi hz0 hz1 hz2 _ _ _ rfl hown s rfl ?c3 ?c4 ?c5 ?_)
  case c3 => unfold maxLen; omega
  case c4 => omega
  case c5 => have := hb1.size; omega
  intro v' w2 hown' hgrow _
  have hlt : b < w1.heap.size := by
    rcases Nat.lt_or_ge b w1.heap.size with h' | h'
    · exact h'
    · simp [Array.getElem?_eq_none h'] at hbk
  have hb2 : w2.heap[b]? = some (.cells #[.pointer (some ⟨b, 0, none⟩), v] 217 (0, 0)) := by
    rw [hgrow.block b hlt (fun e => hne e.symm)]
    exact hbk
  have d0 : w2.cell? ⟨b, 0, none⟩ = some (.pointer (some ⟨b, 0, none⟩)) := by rw [Lib.cell_of_heap hb2]; rfl
  have d1 : w2.cell? ⟨b, 1, none⟩ = some v := by rw [Lib.cell_of_heap hb2]; rfl
  have f1 : w2.frozen? ⟨b, 1, none⟩ = false := Lib.frozen_of_heap hb2 1
  obtain ⟨ao, n', cap, rfl⟩ : ∃ ao n' cap, v' = .slice ao n' cap := by
    rcases hown'.2 with ⟨hv, _⟩ | ⟨g, cap, cur, fz, hv, _⟩
    · exact ⟨_, _, _, hv⟩
    · exact ⟨_, _, _, hv⟩
  go_wp2
  go_ret2
  refine ⟨rfl, ?_, ?_⟩
  · exact Lib.BuilderAtF.put (T := 217) (e := 5) hB hb2 (bs' := bs ++ Lib.strCells s) (by simpa [Lib.strCells_length] using hown') (by decide)
  · exact (hb1.grown hgrow (by have := hb1.size; omega) (fun k hk => (hown.lt k hk).1)).setCell (p := ⟨b, 1, none⟩) hB _

/-- So many zero bytes. -/
def zeros (n : Nat) : List UInt8 := List.replicate n 0
theorem zeros_len (n : Nat) : (zeros n).length = n := by simp [zeros]
theorem zeros_add (a b : Nat) : zeros (a + b) = zeros a ++ zeros b := by simp [zeros, List.replicate_append_replicate]
theorem zeros_take {a b : Nat} (h : a ≤ b) : (zeros b).take a = zeros a := by rw [zeros, List.take_replicate, Nat.min_eq_left h]; rfl

theorem run_min3 {P : Program} {w : World} (ts : Array TypeId) (t : TypeId) (x y z : Int) :
    (Builtin.min_ ts t #[.int .i64 x, .int .i64 y, .int .i64 z]).run P w = .ok (.int .i64 (if z < (if y < x then y else x) then z else (if y < x then y else x))) w := by
  simp [Builtin.min_, Builtin.min2]

set_option maxHeartbeats 4000000 in
set_option maxRecDepth 1000000 in
theorem RepZ_many (c : Nat) (w : World) (hc2 : 2 ≤ c) (hc : c ≤ 8192) :
    Calls Tryz.prog 128 #[.string ⟨#[0]⟩, .int .i64 c] w fun e w' => e = .returned (.string (B (zeros c))) ∧ Ext w w' := by
  have hMul := Tryz.bits_Mul 1 c (by omega) (by omega) w
  rw [Nat.one_mul, Nat.div_eq_of_lt (by omega : c < 18446744073709551616), Nat.mod_eq_of_lt (by omega : c < 18446744073709551616)] at hMul
  have hc0 : ((c : Int) == 0) = false := by simp; omega
  have hc1 : ((c : Int) == 1) = false := by simp; omega
  have h8 : ¬ (8192 : Int) < (c : Int) := by omega
  go_enter Tryz.func128, Tryz.ntmps128
  go_upto_region 35 with (go_at_call 169; refine hMul.mono ?_; rintro e W0 ⟨rfl, rfl⟩)
  clear hMul hc0 hc1 h8
  have b0 : Below W0.heap.size W0 (W0.alloc (.cells #[.pointer none, .slice none 0 0] 217)) := (Below.refl _ W0).alloc (Nat.le_refl _) _
  have cG := Tryz.Builder_Grow_fresh W0.heap.size W0.heap.size c (W0.alloc (.cells #[.pointer none, .slice none 0 0] 217)) (Nat.le_refl _) (heap_alloc_new W0 _) b0.size (by omega)
  go_wp2_with (go_at_call 155; refine cG.mono ?_; rintro e W1 ⟨rfl, h1, b1⟩)
  clear cG
  have cW := writeF_any W0.heap.size W0.heap.size [] ⟨#[0]⟩ W1 (Lib.IsBuilderF.of (Or.inr h1)) (by simp [ByteArray.size]) (Nat.le_trans b0.size b1.size)
  go_wp2_with (go_at_call 156; refine cW.mono ?_; rintro e W2 ⟨rfl, h2, b2⟩)
  clear cW h1
  have h2' : Lib.IsBuilderF 217 5 W0.heap.size W0.heap.size (Lib.byteCells (zeros 1)) W2 := by
    rw [List.nil_append, Lib.strCells_eq] at h2
    exact Or.inr h2
  have b02 : Below W0.heap.size W0 W2 := b0.trans (b1.trans b2)
  clear h2 b0 b1 b2
  go_loopg [] (c - 1) (fun g wx => ∃ q : Nat, 1 ≤ q ∧ q + g = c ∧ Lib.IsBuilderF 217 5 W0.heap.size W0.heap.size (Lib.byteCells (zeros q)) wx ∧ Below W0.heap.size W0 wx)
  case atStart => exact ⟨1, Nat.le_refl _, by omega, h2', b02⟩
  case round =>
    obtain ⟨q, hq1, hqg, hB, hbx⟩ := hrel
    have hlq : (Lib.byteCells (zeros q)).length = q := by rw [Lib.byteCells_length, zeros_len]
    have cLen := Tryz.Builder_Len_f W0.heap.size W0.heap.size _ wr hB
    rw [hlq] at cLen
    have cStr := Tryz.Builder_String_any_f W0.heap.size W0.heap.size (zeros q) wr hB hbx.size
    obtain ⟨S, hS⟩ : ∃ S : ByteArray, (⟨(zeros q).toArray⟩ : ByteArray) = S := ⟨_, rfl⟩
    have hSd : S.data.toList = zeros q := by rw [← hS]
    have hSz : S.size = q := by rw [Lib.size_eq, hSd, zeros_len]
    rw [hS] at cStr
    have HS := Lib.hid hS
    have HSd := Lib.hid hSd
    have HSz := Lib.hid hSz
    have Hlq := Lib.hid hlq
    clear hS hSd hSz hlq
    cases gk with
    | zero =>
      obtain rfl : q = c := by omega
      have hQn : ¬ ((q : Int) < (q : Int)) := by omega
      go_wp2_with (first
        | (go_at_call 171; refine cLen.mono ?_; rintro e w9 ⟨rfl, hw⟩; rw [hw]; clear hw)
        | (go_at_call 157; refine cStr.mono ?_; rintro e W3 ⟨rfl, h3, b3⟩))
      go_ret
      exact ⟨by rw [← HS.out]; rfl, hbx.trans b3⟩
    | succ g =>
      have hqc : q < c := by omega
      have hQn : (q : Int) < (c : Int) := by omega
      obtain ⟨k, hk⟩ : ∃ k, k = min (c - q) q := ⟨_, rfl⟩
      have hk1 : 1 ≤ k := by omega
      have hkq : k ≤ q := by omega
      have hkc : q + k ≤ c := by omega
      have hmin3 : ∀ (ts : Array TypeId) (t : TypeId) (W : World), (Builtin.min_ ts t #[.int .i64 ((c : Int) - (q : Int)), .int .i64 (q : Int), .int .i64 (c : Int)]).run Tryz.prog W = .ok (.int .i64 (k : Int)) W := fun ts t W => by
        rw [run_min3]
        congr 2
        omega
      clear hk
      have HSz := HSz.out
      go_wp2_with (first
        | (go_at_call 171; refine cLen.mono ?_; rintro e w9 ⟨rfl, hw⟩; rw [hw]; clear hw)
        | (go_at_call 157; refine cStr.mono ?_; rintro e W3 ⟨rfl, h3, b3⟩))
      have cWr := writeF_any W0.heap.size W0.heap.size _ (S.extract 0 k) W3 h3 (by
        rw [Hlq.out, Lib.size_eq, Lib.extract_data, HSd.out]
        simp only [List.drop_zero, Nat.sub_zero, List.length_take, zeros_len]
        omega) (Nat.le_trans hbx.size b3.size)
      go_wp2_with (go_at_call 156; refine cWr.mono ?_; rintro e W4 ⟨rfl, h4, b4⟩)
      go_roundg (c - (q + k))
      case measure => omega
      case rel =>
        refine ⟨q + k, by omega, by omega, Or.inr ?_, hbx.trans (b3.trans b4)⟩
        rw [Lib.strCells_eq, ← Lib.byteCells_append, Lib.extract_data, HSd.out] at h4
        simp only [List.drop_zero, Nat.sub_zero] at h4
        rw [zeros_take hkq, ← zeros_add] at h4
        exact h4
set_option maxRecDepth 1000000 in
theorem RepZ_one (w : World) : Calls Tryz.prog 128 #[.string ⟨#[0]⟩, .int .i64 1] w fun e w' => e = .returned (.string (B (zeros 1))) ∧ Ext w w' := by
  go_enter Tryz.func128, Tryz.ntmps128
  go_wp2
  go_ret
  exact ⟨rfl, Ext.refl _⟩
set_option maxRecDepth 1000000 in
theorem RepZ_zero (w : World) : Calls Tryz.prog 128 #[.string ⟨#[0]⟩, .int .i64 0] w fun e w' => e = .returned (.string (B (zeros 0))) ∧ Ext w w' := by
  go_enter Tryz.func128, Tryz.ntmps128
  go_wp2
  go_ret
  exact ⟨rfl, Ext.refl _⟩
theorem RepZ_any (c : Nat) (w : World) (hc : c ≤ 8192) : Calls Tryz.prog 128 #[.string ⟨#[0]⟩, .int .i64 c] w fun e w' => e = .returned (.string (B (zeros c))) ∧ Ext w w' := by
  rcases c with _ | _ | c
  · exact RepZ_zero w
  · exact RepZ_one w
  · exact RepZ_many (c + 2) w (by omega) hc
end Go.Proofs.YtgemdfobkockaaaGreatDoor
