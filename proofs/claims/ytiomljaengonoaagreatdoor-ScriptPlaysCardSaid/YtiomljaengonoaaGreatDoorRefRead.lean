/- The document's Read: the acts of a text, the line that is none. -/
import Derived.Test.YtiomljaengonoaaGreatDoorRefOne
import Derived.Test.YtiomljaengonoaaGreatDoorScrBuild
namespace Go.Proofs.YtiomljaengonoaaGreatDoor
open Go Go.RowKit Go.Shelf Go.Proofs Go.Maps

theorem info_refact : (Tryz.prog.info? 44).map (fun i => (i.zero, i.size, i.bytes)) = some (some (.agg #[.string ⟨#[]⟩, .string ⟨#[]⟩, .string ⟨#[]⟩, .int .i64 0, .int .i64 0]), 5, 64) := by kernel_rfl

def ReadRef (s : List UInt8) (w : World) (e : Ending) (w' : World) : Prop := match actsGo 0 (linesP s) with
  | .ok l => ∃ A c, e = .returned (.tuple #[.slice A l.length c, .int .i64 0, .int .i64 0]) ∧ w'.ownsRow w.heap.size 44 5 (.slice A l.length c) l.length (l.flatMap ActP.cells) ∧ Ext w w'
  | .error n => e = .returned (.tuple #[.slice none 0 0, .int .i64 n, .int .i64 13]) ∧ Ext w w'

set_option maxRecDepth 100000 in
set_option maxHeartbeats 8000000 in
theorem Read_ref (s : ByteArray) (hs : s.size ≤ 20000) (w : World) :
    Calls Tryz.prog 29 #[.string s] w (ReadRef s.data.toList w) := by
  have hs' : ¬ (20000 : Int) < (s.size : Int) := by omega
  have hsl : s.data.toList.length = s.size := Array.length_toList
  obtain ⟨x0, hx0⟩ : ∃ x0, s.data.toList = x0 := ⟨_, rfl⟩
  have HS : ∀ w', Calls Tryz.prog 52 #[.string s, .int .u8 10] w' (SplitPost 10 x0 w') := fun w' => by
    have := Split_ref s (by omega) 10 w'
    rw [hx0] at this
    exact this
  rw [hx0] at hsl ⊢
  clear hx0
  have hcount := segs_count 10 x0
  have hpos := List.length_pos_iff.2 (segs_ne 10 x0)
  obtain ⟨N, hN⟩ : ∃ N, (segs 10 x0).length = N + 1 := ⟨(segs 10 x0).length - 1, by omega⟩
  have hN2 : N ≤ 20000 := by omega
  have HN := Lib.hid hN
  have HS2 : ∀ w', Calls Tryz.prog 52 #[.string s, .int .u8 10] w' fun e w'' => ∃ A c, e = .returned (.slice A (N + 1) c) ∧ w''.ownsRow w'.heap.size 9 1 (.slice A (N + 1) c) (N + 1) ((segs 10 x0).map sv) ∧ Ext w' w'' := fun w' => (HS w').mono fun e w'' h => by
    rw [SplitPost, hN] at h
    exact h
  have hsm : ∀ p ∈ segs 10 x0, p.length ≤ 1000000 := fun p hp => Nat.le_trans (segs_len 10 _ _ hp) (by omega)
  have Hsm := Lib.hid hsm
  have HS3 := HS2 w
  clear HS HS2 hcount hpos hN hsm hsl
  go_enter Tryz.func29, Tryz.ntmps29
  go_upto_region 4 with (go_at_call 52; refine HS3.mono ?_; rintro e W1 ⟨A, c, rfl, hown, hE1⟩)
  obtain ⟨g, rfl, hg⟩ := own_slice hown (by omega)
  have hcell : ∀ (j : Nat) (y : List UInt8), (segs 10 x0)[j]? = some y → W1.cell? ⟨g, j, none⟩ = some (.string (B y)) := fun j y h => by
    have hj := (List.getElem?_eq_some_iff.1 h).1
    have := HN.out
    rw [hown.cellAt j (by omega), List.getElem?_map, h]
    rfl
  have Hcell := Lib.hid hcell
  have hbw : w.heap.size ≤ W1.heap.size := hE1.size
  have HE1 := Lib.hid hE1
  clear hcell HS3 hown hg hE1
  obtain ⟨i0, hi, hz0, hz1, hz2⟩ := info_parts info_refact
  go_wp2
  go_loopw [6, 7] (fun out i wr => ∃ (k : Nat) (l : List ActP), i = .int .i64 k ∧ k ≤ N ∧ l.length = k ∧ Ext W1 wr ∧ wr.ownsRow W1.heap.size 44 5 out k (l.flatMap ActP.cells) ∧ k ≤ 200 ∧ Hid (goR 0 ((segs 10 x0).dropLast.take k) = .ok l)) (fun _ i _ => N - (intOf i).toNat)
  case atStart => exact ⟨0, [], rfl, Nat.zero_le _, rfl, Ext.refl _, World.ownsRow_nil _ _ _ _, by omega, Lib.hid rfl⟩
  case round =>
    obtain ⟨k, l, rfl, hkn, hlk, hE, hrow, hk200, hgo⟩ := hrel
    by_cases hlt : k < N
    · have hlt' : (k : Int) < (N : Int) := by omega
      have hkl : k < (segs 10 x0).dropLast.length := by have := HN.out; rw [List.length_dropLast]; omega
      obtain ⟨x, hx⟩ : ∃ x, (segs 10 x0).dropLast[k] = x := ⟨_, rfl⟩
      have hxk : (segs 10 x0)[k]? = some x := by
        have := HN.out
        rw [← hx, List.getElem_dropLast, List.getElem?_eq_getElem (by omega)]
      have hcx := hE.cell (Hcell.out k x hxk)
      have hnext := goR_take hkl hgo.out
      rw [hx] at hnext
      have HO := One_ref x (Hsm.out x (List.mem_of_getElem? hxk)) wr
      have hk1 : (k : Int) < (N : Int) + 1 := by omega
      have Hrow := Lib.hid hrow
      clear hrow hx hkl hxk
      cases hof : ofP (segs 32 x) with
      | none =>
        have HO1 : Calls Tryz.prog 53 #[.string (B x)] wr fun e w' => e = .returned (.tuple #[.agg #[.string ⟨#[]⟩, .string ⟨#[]⟩, .string ⟨#[]⟩, .int .i64 0, .int .i64 0], .bool false]) ∧ Ext wr w' := by
          rw [hof] at HO
          exact HO
        rw [hof] at hnext
        have herr : Hid (actsGo 0 (linesP x0) = .error (k + 1)) := Lib.hid (by
          rw [read_segs, goR_err hnext])
        clear HO hof hnext hgo
        go_wp2_with (go_at_call 53; refine HO1.mono ?_; rintro e W4 ⟨rfl, hE4⟩)
        refine bodyPost_ret (v := .tuple #[.slice none 0 0, .int .i64 ((k : Int) + 1), .int .i64 13]) (by simp [results, Tryz.f29, go_sem]) rfl ?_
        rw [ReadRef, herr.out]
        exact ⟨rfl, HE1.out.trans (hE.trans (hE4.trans (by exact (by repeat (first | exact Ext.refl _ | assumption | refine Ext.alloc ?_ _ | refine Ext.drew ?_ | refine Ext.drewN ?_ _ | refine Ext.setCell ?_ (by first | omega | (simp; done) | (simp; omega)) _ | refine Ext.trans ?_ (by assumption))))))⟩
      | some a =>
        have HO1 : Calls Tryz.prog 53 #[.string (B x)] wr fun e w' => e = .returned (.tuple #[.agg #[.string (B a.name), .string (B a.p), .string (B a.q), .int .i64 a.n, .int .i64 a.m], .bool true]) ∧ Ext wr w' := by
          rw [hof] at HO
          exact HO
        rw [hof] at hnext
        simp only at hnext
        by_cases h200 : k = 200
        · rw [if_pos h200] at hnext
          have h200' : ((k : Int) == 200) = true := by simp; omega
          have herr : Hid (actsGo 0 (linesP x0) = .error (k + 1)) := Lib.hid (by
            rw [read_segs, goR_err hnext])
          clear HO hof hnext hgo h200
          go_wp2_with (go_at_call 53; refine HO1.mono ?_; rintro e W4 ⟨rfl, hE4⟩)
          refine bodyPost_ret (v := .tuple #[.slice none 0 0, .int .i64 ((k : Int) + 1), .int .i64 13]) (by simp [results, Tryz.f29, go_sem]) rfl ?_
          rw [ReadRef, herr.out]
          exact ⟨rfl, HE1.out.trans (hE.trans (hE4.trans (by exact (by repeat (first | exact Ext.refl _ | assumption | refine Ext.alloc ?_ _ | refine Ext.drew ?_ | refine Ext.drewN ?_ _ | refine Ext.setCell ?_ (by first | omega | (simp; done) | (simp; omega)) _ | refine Ext.trans ?_ (by assumption))))))⟩
        · rw [if_neg h200] at hnext
          have h200' : ((k : Int) == 200) = false := by simp; omega
          have Hn := Lib.hid hnext
          clear HO hof hnext hgo
          go_upto_region 11 with (go_at_call 53; refine HO1.mono ?_; rintro e W4 ⟨rfl, hE4⟩)
          have hY := Blk.new W4 44 #[.string (B a.name), .string (B a.p), .string (B a.q), .int .i64 a.n, .int .i64 a.m]
          have hE5 : Ext wr (W4.alloc (.cells #[.string (B a.name), .string (B a.p), .string (B a.q), .int .i64 a.n, .int .i64 a.m] 44)) := hE4.alloc _
          generalize W4.alloc (.cells #[.string (B a.name), .string (B a.p), .string (B a.q), .int .i64 a.n, .int .i64 a.m] 44) = W5 at hY hE5 ⊢
          obtain ⟨yb, hyb⟩ : ∃ yb, W4.heap.size = yb := ⟨_, rfl⟩
          rw [hyb] at hY ⊢
          clear hyb hE4 HO1
          obtain ⟨⟨y0, _⟩, ⟨y1, _⟩, ⟨y2, _⟩, ⟨y3, _⟩, ⟨y4, _⟩⟩ := hY.five
          have hrow2 := own_ext Hrow.out hE5
          have hb5 : W1.heap.size ≤ W5.heap.size := (hE.trans hE5).size
          go_wp2_with (at_builtin; refine wpList_append_own _ rfl _ _ 46 rfl W1.heap.size 44 i0 (.agg #[.string ⟨#[]⟩, .string ⟨#[]⟩, .string ⟨#[]⟩, .int .i64 0, .int .i64 0]) 5 64 Tryz.underlying46 hi hz0 hz1 hz2 rfl (by decide) _ _ _ rfl (hrow2.alloc _) ⟨W5.heap.size, 0, none⟩ 1 1 a.cells rfl rfl (World.news_of_block (cs := #[.string (B a.name), .string (B a.p), .string (B a.q), .int .i64 a.n, .int .i64 a.m]) (t := 44) (fr := (0, 0)) (heap_alloc_new W5 _)) (by simp [ActP.cells, Value.oneCell']) (by unfold maxLen; omega) (by omega) (by simp; omega) ?_; intro v' w1 hown hgrow hnil')
          exact ⟨⟨k + 1, l ++ [a], by go_num, by omega, by simp; omega, Ext.grown ((hE.trans hE5).alloc _) hgrow (fun j hj => (hrow2.lt j hj).1), by rw [List.flatMap_append, List.flatMap_cons, List.flatMap_nil, List.append_nil]; exact hown, by omega, Hn⟩, by simp [intOf]; omega⟩
    · have hlt' : ¬ (k : Int) < (N : Int) := by omega
      have hkN : k = N := by omega
      obtain ⟨y, hy⟩ : ∃ y, (segs 10 x0).getLast? = some y := by
        rcases e : (segs 10 x0).getLast? with _ | y
        · exact absurd (List.getLast?_eq_none_iff.1 e) (segs_ne 10 x0)
        · exact ⟨y, rfl⟩
      have hyN : (segs 10 x0)[N]? = some y := by
        have := HN.out
        rw [List.getLast?_eq_getElem?, this, Nat.add_sub_cancel] at hy
        exact hy
      have hcy := hE.cell (Hcell.out N y hyN)
      have hall : goR 0 (segs 10 x0).dropLast = .ok l := by
        have h := hgo.out
        rwa [List.take_of_length_le (by have := HN.out; rw [List.length_dropLast]; omega)] at h
      have hrd := read_segs x0
      rw [hall, hy, HN.out] at hrd
      simp only [Option.getD_some] at hrd
      have hN1 : (0 : Int) ≤ (N : Int) := by omega
      have hN3 : (N : Int) < (N : Int) + 1 := by omega
      by_cases hey : y = []
      · have ey := emp_eq hey
        rw [if_pos hey] at hrd
        have Hrd := Lib.hid hrd
        have hlN : l.length = k := hlk
        obtain ⟨A', c', rfl⟩ := own_form hrow
        have Hrow := Lib.hid hrow
        have Hl := Lib.hid hlN
        clear hgo hey hrd hall hy hyN hkN hlk hlN hrow
        go_wp2
        refine bodyPost_ret (v := .tuple #[.slice A' k c', .int .i64 0, .int .i64 0]) (by simp [results, Tryz.f29, go_sem]) rfl ?_
        rw [ReadRef, Hrd.out]
        have := Hl.out
        subst this
        exact ⟨A', c', rfl, own_lower Hrow.out hbw, HE1.out.trans hE⟩
      · have ey := emp_ne hey
        rw [if_neg hey] at hrd
        have Hrd := Lib.hid hrd
        clear hgo hey hrd hall hy hyN hkN hlk hrow
        go_wp2
        refine bodyPost_ret (v := .tuple #[.slice none 0 0, .int .i64 ((N : Int) + 1), .int .i64 13]) (by simp [results, Tryz.f29, go_sem]) rfl ?_
        rw [ReadRef, Hrd.out]
        exact ⟨rfl, HE1.out.trans hE⟩
end Go.Proofs.YtiomljaengonoaaGreatDoor
