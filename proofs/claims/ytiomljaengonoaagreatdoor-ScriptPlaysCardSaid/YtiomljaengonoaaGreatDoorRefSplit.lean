/- The document's split: a text at a byte. -/
import Derived.Test.YtiomljaengonoaaGreatDoorRefSplitW
import Derived.Test.YtiomljaengonoaaGreatDoorRefWord
import Derived.Laws.OwnMore
namespace Go.Proofs.YtiomljaengonoaaGreatDoor
open Go Go.RowKit Go.Shelf Go.Proofs Go.Maps

/-- A text as a cell. -/
def sv (x : List UInt8) : Value := .string (B x)

/-- What split hands back: an own row of the pieces. -/
def SplitPost (b : UInt8) (s : List UInt8) (w : World) (e : Ending) (w' : World) : Prop :=
  ∃ A c, e = .returned (.slice A (segs b s).length c) ∧ w'.ownsRow w.heap.size 9 1 (.slice A (segs b s).length c) (segs b s).length ((segs b s).map sv) ∧ Ext w w'

theorem own_slice {w : World} {base e size n : Nat} {A : Option Addr} {c : Nat} {xs : List Value} (h : w.ownsRow base e size (.slice A n c) n xs) (hn : 0 < n) : ∃ g, A = some ⟨g, 0, none⟩ ∧ base ≤ g := by
  rcases h.2 with ⟨_, h0⟩ | ⟨g, cap, cur, hv, hb, _⟩
  · omega
  · simp only [Value.slice.injEq] at hv
    exact ⟨g, hv.1, hb⟩

theorem one_ext (s : ByteArray) (k : Nat) (hk : k < s.size) : s.extract k (k + 1) = B [s[k]'hk] := by
  rw [← B_toList (s.extract k (k + 1)), Lib.extract_data]
  congr 1
  have h1 : s.data.toList[k]? = some (s[k]'hk) := by
    rw [Array.getElem?_toList]
    exact Array.getElem?_eq_getElem hk
  obtain ⟨h2, h3⟩ := List.getElem?_eq_some_iff.1 h1
  rw [List.drop_eq_getElem_cons h2, h3, Nat.add_sub_cancel_left]
  rfl

set_option maxRecDepth 20000 in
set_option maxHeartbeats 4000000 in
theorem Split_ref (s : ByteArray) (hs : s.size ≤ 1000000) (b : UInt8) (w : World) :
    Calls Tryz.prog 52 #[.string s, .int .u8 (b.toNat : Int)] w (SplitPost b s.data.toList w) := by
  obtain ⟨i0, hi, hz0, hz1, hz2⟩ := info_parts info_str
  go_enter Tryz.func52, Tryz.ntmps52
  go_upto_region 2 with (fail)
  have hr0 := World.ownsRow_lit (base := w.heap.size) (e := 9) (size := 1) w #[.string ⟨#[]⟩] 1 (Nat.le_refl _) (by unfold maxLen; omega) rfl
  have hE0 := (Ext.refl w).alloc (.cells #[.string ⟨#[]⟩] 9)
  go_wp2
  go_loopw [5, 6] (fun out i wr => ∃ (k m : Nat) (A : Option Addr) (c : Nat), i = .int .i64 k ∧ k ≤ s.size ∧ out = .slice A m c ∧ m ≤ k + 1 ∧ 1 ≤ m ∧ Hid (m = (segs b (s.data.toList.take k)).length) ∧ wr.ownsRow w.heap.size 9 1 (.slice A m c) m ((segs b (s.data.toList.take k)).map sv) ∧ Ext w wr) (fun _ i _ => s.size - (intOf i).toNat)
  case atStart => exact ⟨0, 1, _, _, rfl, Nat.zero_le _, rfl, Nat.le_refl _, Nat.le_refl _, Lib.hid rfl, hr0, hE0⟩
  case round =>
    obtain ⟨k, m, A, c, rfl, hks, rfl, hm1, hm0, hm, hrow, hE⟩ := hrel
    by_cases hlt : k < s.size
    · have hlt' : (k : Int) < (s.size : Int) := by omega
      have hb : s.data.toList[k]? = some (s[k]'hlt) := by
        rw [Array.getElem?_toList]
        exact Array.getElem?_eq_getElem hlt
      have htk := take_snoc_u hb
      obtain ⟨g, rfl, hg⟩ := own_slice hrow hm0
      by_cases hq : s[k]'hlt = b
      · have hqe : ((((s[k]'hlt).toNat : Nat) : Int) == ((b.toNat : Nat) : Int)) = true := by rw [hq]; simp
        have hsn : Hid (segs b (s.data.toList.take (k + 1)) = segs b (s.data.toList.take k) ++ [[]]) := Lib.hid (by rw [htk, hq]; exact segs_snoc_eq b _)
        have Hrow := Lib.hid hrow
        clear hb htk hq
        go_wp2_with (at_builtin; refine wpList_append_own _ rfl _ _ 74 rfl w.heap.size 9 i0 (.string ⟨#[]⟩) 1 16 Tryz.underlying74 hi hz0 hz1 hz2 rfl (by decide) _ _ _ rfl (Hrow.out.alloc _) ⟨wr.heap.size, 0, none⟩ 1 1 [.string ⟨#[]⟩] rfl rfl (World.news_of_block (cs := #[.string ⟨#[]⟩]) (t := 9) (fr := (0, 0)) (heap_alloc_new wr _)) (by simp [Value.oneCell']) (by unfold maxLen; omega) (by omega) (by have := hE.size; simp; omega) ?_; intro v' w1 hown hgrow hnil')
        obtain ⟨A', c', rfl⟩ := own_form hown
        exact ⟨⟨k + 1, m + 1, A', c', by go_num, by omega, rfl, by omega, by omega, Lib.hid (by rw [hsn.out, List.length_append, ← hm.out]; rfl), by rw [hsn.out, List.map_append]; exact hown, Ext.grown (hE.alloc _) hgrow (fun j hj => (Hrow.out.lt j hj).1)⟩, by simp [intOf]; omega⟩
      · have hqe : ((((s[k]'hlt).toNat : Nat) : Int) == ((b.toNat : Nat) : Int)) = false := by
          simp only [beq_eq_false_iff_ne, ne_eq]
          intro e
          exact hq (UInt8.toNat_inj.1 (by omega))
        obtain ⟨x, hx1, hx2⟩ := segs_snoc_ne hq (s.data.toList.take k)
        rw [← hm.out] at hx1 hx2
        rw [← htk] at hx2
        obtain ⟨q, rfl⟩ : ∃ q, m = q + 1 := ⟨m - 1, by omega⟩
        rw [Nat.add_sub_cancel] at hx1 hx2
        have hcell : wr.cell? ⟨g, q, none⟩ = some (.string (B x)) := by
          rw [hrow.cellAt q (by omega), List.getElem?_map, hx1]
          rfl
        have hfz := hrow.frozenAt q
        obtain ⟨hst, _⟩ := hrow.stored q (.string (B x ++ s.extract k (k + 1)))
        have hset : ((segs b (s.data.toList.take k)).map sv).set q (.string (B x ++ s.extract k (k + 1))) = (segs b (s.data.toList.take (k + 1))).map sv := by
          rw [hx2, List.map_set, sv, one_ext s k hlt, B_add]
        rw [hset] at hst
        have hlen : Hid (q + 1 = (segs b (s.data.toList.take (k + 1))).length) := Lib.hid (by rw [hx2, List.length_set]; exact hm.out)
        have hxl : (B x).size ≤ 1000000 := by
          rw [size_B]
          have h1 := segs_len b _ _ (List.mem_of_getElem? hx1)
          have h2 := List.length_take_le k s.data.toList
          omega
        have hel : (s.extract k (k + 1)).size ≤ 1 := by rw [one_ext s k hlt, size_B]; exact Nat.le_refl 1
        have hE2 : Ext w (wr.setCell ⟨g, q, none⟩ (.string (B x ++ s.extract k (k + 1)))) := hE.setCell (p := ⟨g, q, none⟩) hg _
        have Hst := Lib.hid hst
        have Hlen := hlen
        clear hb htk hx1 hx2 hset hst hrow hm hq hlen
        go_upto_region 7 with (fail)
        go_region
        all_goals go_wp2
        all_goals exact ⟨⟨k + 1, q + 1, _, c, by go_num, by omega, rfl, by omega, by omega, Hlen, Hst.out, hE2.drew⟩, by simp [intOf]; omega⟩
    · have hlt' : ¬ (k : Int) < (s.size : Int) := by omega
      have hke : s.data.toList.take k = s.data.toList := List.take_of_length_le (by rw [Array.length_toList]; exact (by omega : s.size ≤ k))
      rw [hke] at hrow hm
      have Hrow := Lib.hid hrow
      clear hrow hke
      go_wp2
      go_ret
      have hm2 := hm.out
      subst hm2
      exact ⟨A, c, rfl, Hrow.out, hE⟩
end Go.Proofs.YtiomljaengonoaaGreatDoor
