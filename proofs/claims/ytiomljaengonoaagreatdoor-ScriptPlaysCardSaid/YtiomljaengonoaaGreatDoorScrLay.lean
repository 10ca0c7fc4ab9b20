/- script.Lay: acts' text. -/
import Derived.Test.YtiomljaengonoaaGreatDoorScrRead
import Derived.Test.YtiomljaengonoaaGreatDoorBuild
namespace Go.Proofs.YtiomljaengonoaaGreatDoor
open Go Go.RowKit Go.Shelf Go.Proofs Go.Maps

def LayAns (l : List ActP) (w : World) (e : Ending) (w' : World) : Prop := match layP l with
  | some s => e = .returned (.tuple #[.string (B s), .nilIface]) ∧ Ext w w'
  | none => ∃ a, e = .returned (.tuple #[.string ⟨#[]⟩, .iface 131 (.pointer (some ⟨a, 0, none⟩))]) ∧ ErrN w' 1 (.iface 131 (.pointer (some ⟨a, 0, none⟩))) 1 ∧ Ext w w'

theorem RdA.at2 {w : World} {v : Value} {l : List ActP} (h : RdA w v l) (hne : l ≠ []) :
    ∃ b o c, v = .slice (some ⟨b, o, Option.none⟩) l.length c ∧ l.length ≤ c ∧ c ≤ 9223372036854775807 ∧
      ∀ (j : Nat) (h : j < l.length), w.cell? ⟨b, o + j * 5, Option.none⟩ = some (.string (B l[j].name)) ∧ w.cell? ⟨b, o + j * 5 + 1, Option.none⟩ = some (.string (B l[j].p)) ∧ w.cell? ⟨b, o + j * 5 + 2, Option.none⟩ = some (.string (B l[j].q)) ∧
        w.cell? ⟨b, o + j * 5 + 3, Option.none⟩ = some (.int .i64 l[j].n) ∧ w.cell? ⟨b, o + j * 5 + 4, Option.none⟩ = some (.int .i64 l[j].m) ∧ l[j].fits := by
  obtain ⟨b, o, c, rfl, h1, h2, hc⟩ := Rd.open_ h hne
  refine ⟨b, o, c, rfl, h1, h2, fun j hj => ?_⟩
  obtain ⟨cs, ⟨hr, hf⟩, hu⟩ := hc j l[j] (List.getElem?_eq_getElem hj)
  subst hr
  exact ⟨hu 0 _ rfl, hu 1 _ rfl, hu 2 _ rfl, hu 3 _ rfl, hu 4 _ rfl, hf⟩

theorem lay_take {l : List ActP} {k : Nat} (h : k < l.length) {s x : List UInt8} (hs : layP (l.take k) = some s) (hx : lineP l[k] = some x) : layP (l.take (k + 1)) = some (s ++ x) := by
  induction l generalizing k s with
  | nil => simp at h
  | cons a l ih =>
    rcases k with _ | k
    · simp only [List.take_zero, layP, Option.some.injEq] at hs
      subst hs
      simp only [List.getElem_cons_zero] at hx
      simp [layP, hx]
    · simp only [List.take_succ_cons, layP] at hs ⊢
      split at hs
      · rename_i y z hy hz
        cases hs
        rw [ih (by simpa using h) hz (by simpa using hx), hy]
        simp
      · cases hs
theorem lay_none {l : List ActP} {k : Nat} (h : k < l.length) (hx : lineP l[k] = none) : layP l = none := by
  induction l generalizing k with
  | nil => simp at h
  | cons a l ih =>
    rcases k with _ | k
    · simp only [List.getElem_cons_zero] at hx
      simp [layP, hx]
    · have := ih (k := k) (by simpa using h) (by simpa using hx)
      simp [layP, this]

theorem bytes_strCells (s : List UInt8) : Lib.strCells (B s) = Lib.byteCells s := by
  rw [Lib.strCells_eq, toList_B]

theorem B_add (x y : List UInt8) : B x ++ B y = B (x ++ y) := by
  apply ByteArray.ext
  simp [B]
theorem bld_ext {T e : TypeId} {B b : Nat} {bs : List Value} {w w' : World} (h : Lib.IsBuilder T e B b bs w) (he : Ext w w') : Lib.IsBuilder T e B b bs w' := by
  rcases h with ⟨h1, v, h2, h3, h4⟩ | ⟨h1, v, h2, h3, h4⟩
  · exact .inl ⟨h1, v, he.block h2, own_ext h3 he, h4⟩
  · exact .inr ⟨h1, v, he.block h2, own_ext h3 he, h4⟩

set_option maxRecDepth 100000 in
set_option maxHeartbeats 8000000 in
theorem Lay_any (v : Value) (l : List ActP) (w : World) (hv : RdA w v l) (hl : l.length ≤ 200) (hV : ScrVars w) :
    Calls Tryz.prog 26 #[v] w (LayAns l w) := by
  obtain ⟨n, hn⟩ : ∃ n, l.length = n := ⟨_, rfl⟩
  have Hn := Lib.hid hn
  have Hv := Lib.hid hv
  have HV := Lib.hid hV
  obtain ⟨A, c, rfl, hc1, hc2, hlm, _⟩ := hv
  rw [hn] at hc1 hlm hl ⊢
  have hl' : ¬ (200 : Int) < (n : Int) := by omega
  clear hn hV
  go_enter Tryz.func26, Tryz.ntmps26
  go_upto_region 4 with (fail)
  have hbk := Blk.new w 110 #[.pointer none, .slice none 0 0]
  have hE1 := (Ext.refl w).alloc (.cells #[.pointer none, .slice none 0 0] 110)
  obtain ⟨bb, hbb⟩ : ∃ bb, w.heap.size = bb := ⟨_, rfl⟩
  have hle : w.heap.size ≤ bb := by omega
  rw [hbb] at hbk ⊢
  have Hbb := Lib.hid hbb
  clear hbb
  generalize w.alloc (.cells #[.pointer none, .slice none 0 0] 110) = W1 at hbk hE1 ⊢
  have hB0 : Lib.IsBuilder 110 5 w.heap.size bb (Lib.byteCells []) W1 := .inl ⟨hle, _, hbk, World.ownsRow_nil _ _ _ _, by simp [Value.ownBlock]⟩
  have HB0 := Lib.hid hB0
  clear hB0 hbk
  go_wp2
  go_loopw [16] (fun i wr => ∃ (k : Nat) (s : List UInt8), i = .int .i64 k ∧ k ≤ n ∧ Ext w wr ∧ Hid (Lib.IsBuilder 110 5 w.heap.size bb (Lib.byteCells s) wr) ∧ Hid (layP (l.take k) = some s)) (fun i _ => n - (intOf i).toNat)
  case atStart => exact ⟨0, [], rfl, Nat.zero_le _, hE1, HB0, Lib.hid rfl⟩
  case round =>
    obtain ⟨k, s, rfl, hkn, hE, hB, hs⟩ := hrel
    by_cases hlt : k < n
    · have hlt' : (k : Int) < (n : Int) := by omega
      have hkl : k < l.length := by have := Hn.out; omega
      obtain ⟨b, o, c', e2, _, _, hcell⟩ := RdA.at2 (RdA.ext Hv.out hE) (by intro e; rw [e] at hkl; simp at hkl)
      cases e2
      obtain ⟨d0, d1, d2, d3, d4, hf⟩ := hcell k hkl
      obtain ⟨a, ha⟩ : ∃ a, l[k] = a := ⟨_, rfl⟩
      rw [ha] at d0 d1 d2 d3 d4 hf
      have hslen : s.length ≤ 52200 := by
        have h1 := lay_len _ s hs.out
        rw [List.length_take] at h1
        omega
      have Ha := Lib.hid ha
      clear hcell ha
      have HL : ∀ w', Ext wr w' → Calls Tryz.prog 42 #[.agg #[.string (B a.name), .string (B a.p), .string (B a.q), .int .i64 a.n, .int .i64 a.m]] w' (LinePost a w') := fun w' h => line_any a hf w' (HV.out.ext (hE.trans h)).num
      cases hp : partsP a with
      | none =>
        have hnone : Hid (layP l = none) := Lib.hid (lay_none hkl (by rw [Ha.out, lineP, hp]; rfl))
        have HL : ∀ w', Ext wr w' → Calls Tryz.prog 42 #[.agg #[.string (B a.name), .string (B a.p), .string (B a.q), .int .i64 a.n, .int .i64 a.m]] w' fun e w'' => ∃ x, e = .returned (.tuple #[.string x, .bool false]) ∧ Ext w' w'' := fun w' h => (HL w' h).mono fun e w'' ⟨x, h1, _, h3⟩ => ⟨x, by rw [h1, hp]; rfl, h3⟩
        clear hp Ha hkl
        go_upto_region 7 with (fail)
        have hY := Blk.new wr 48 #[.string (B a.name), .string (B a.p), .string (B a.q), .int .i64 a.n, .int .i64 a.m]
        have hEy : Ext wr (wr.alloc (.cells #[.string (B a.name), .string (B a.p), .string (B a.q), .int .i64 a.n, .int .i64 a.m] 48)) := (by repeat (first | exact Ext.refl _ | assumption | refine Ext.alloc ?_ _ | refine Ext.drew ?_ | refine Ext.drewN ?_ _ | refine Ext.setCell ?_ (by first | omega | (simp; done) | (simp; omega)) _ | refine Ext.trans ?_ (by assumption)))
        obtain ⟨yb, hyb⟩ : ∃ yb, wr.heap.size = yb := ⟨_, rfl⟩
        rw [hyb] at hY ⊢
        clear hyb d0 d1 d2 d3 d4
        generalize wr.alloc (.cells #[.string (B a.name), .string (B a.p), .string (B a.q), .int .i64 a.n, .int .i64 a.m] 48) = W2 at hY hEy ⊢
        obtain ⟨⟨y0, _⟩, ⟨y1, _⟩, ⟨y2, _⟩, ⟨y3, _⟩, ⟨y4, _⟩⟩ := hY.five
        go_wp2_with (first
          | (go_at_call 42; refine (HL _ hEy).mono ?_; rintro e W3 ⟨x, rfl, hE3⟩; obtain ⟨⟨y0, _⟩, ⟨y1, _⟩, ⟨y2, _⟩, ⟨y3, _⟩, ⟨y4, _⟩⟩ := (hY.ext hE3).five)
          | (go_at_call 37; refine (fail_At_c _ _ _ _).mono ?_; rintro e W9 ⟨⟨a9, rfl, hEr⟩, hE9⟩))
        go_ret2
        rw [LayAns, hnone.out]
        exact ⟨_, rfl, hEr, (hE.trans hEy).trans (hE3.trans (Ext.trans (by exact (by repeat (first | exact Ext.refl _ | assumption | refine Ext.alloc ?_ _ | refine Ext.drew ?_ | refine Ext.drewN ?_ _ | refine Ext.setCell ?_ (by first | omega | (simp; done) | (simp; omega)) _ | refine Ext.trans ?_ (by assumption)))) hE9))⟩
      | some ps =>
        have hline : lineP l[k] = some (joinP 32 ps ++ [10]) := by rw [Ha.out, lineP, hp]; rfl
        have hnext := Lib.hid (lay_take hkl hs.out hline)
        have hxl := (line_len hline).1
        have HL : ∀ w', Ext wr w' → Calls Tryz.prog 42 #[.agg #[.string (B a.name), .string (B a.p), .string (B a.q), .int .i64 a.n, .int .i64 a.m]] w' fun e w'' => e = .returned (.tuple #[.string (B (joinP 32 ps)), .bool true]) ∧ Ext w' w'' := fun w' h => (HL w' h).mono fun e w'' ⟨x, h1, h2, h3⟩ => ⟨by rw [h1, hp, h2 ps hp]; rfl, h3⟩
        have hjl : (B (joinP 32 ps)).size ≤ 300 := by rw [size_B]; rw [List.length_append] at hxl; omega
        have hadd : B (joinP 32 ps) ++ (⟨#[10]⟩ : ByteArray) = B (joinP 32 ps ++ [10]) := B_add _ [10]
        have HW : ∀ w', Ext wr w' → Calls Tryz.prog 48 #[.pointer (some ⟨bb, 0, none⟩), .string (B (joinP 32 ps) ++ (⟨#[10]⟩ : ByteArray))] w' fun e w'' => e = .returned (.tuple #[.int .i64 (B (joinP 32 ps ++ [10])).size, .nilIface]) ∧ Lib.IsBuilder 110 5 w.heap.size bb (Lib.byteCells (s ++ (joinP 32 ps ++ [10]))) w'' ∧ Below w.heap.size w' w'' := fun w' h => by
          rw [hadd]
          have := write_any w.heap.size bb (Lib.byteCells s) (B (joinP 32 ps ++ [10])) w' (bld_ext hB.out h) (by rw [Lib.byteCells_length, size_B]; omega) (Nat.le_trans hE.size h.size)
          rw [bytes_strCells, ← Lib.byteCells_append] at this
          exact this
        have Hsz := Lib.hid hslen
        clear hp Ha hkl hline hadd hslen hxl hB hs
        go_upto_region 7 with (fail)
        have hY := Blk.new wr 48 #[.string (B a.name), .string (B a.p), .string (B a.q), .int .i64 a.n, .int .i64 a.m]
        have hEy : Ext wr (wr.alloc (.cells #[.string (B a.name), .string (B a.p), .string (B a.q), .int .i64 a.n, .int .i64 a.m] 48)) := (by repeat (first | exact Ext.refl _ | assumption | refine Ext.alloc ?_ _ | refine Ext.drew ?_ | refine Ext.drewN ?_ _ | refine Ext.setCell ?_ (by first | omega | (simp; done) | (simp; omega)) _ | refine Ext.trans ?_ (by assumption)))
        obtain ⟨yb, hyb⟩ : ∃ yb, wr.heap.size = yb := ⟨_, rfl⟩
        rw [hyb] at hY ⊢
        clear hyb d0 d1 d2 d3 d4
        generalize wr.alloc (.cells #[.string (B a.name), .string (B a.p), .string (B a.q), .int .i64 a.n, .int .i64 a.m] 48) = W2 at hY hEy ⊢
        obtain ⟨⟨y0, _⟩, ⟨y1, _⟩, ⟨y2, _⟩, ⟨y3, _⟩, ⟨y4, _⟩⟩ := hY.five
        go_wp2_with (first
          | (go_at_call 42; refine (HL _ hEy).mono ?_; rintro e W3 ⟨rfl, hE3⟩)
          | (go_at_call 48; refine (HW _ (hEy.trans hE3)).mono ?_; rintro e W4 ⟨rfl, hB4, hb4⟩))
        refine ⟨⟨k + 1, s ++ (joinP 32 ps ++ [10]), by go_num, by omega, Below.trans (hE.trans (hEy.trans hE3)) hb4, Lib.hid hB4, hnext⟩, by simp [intOf]; omega⟩
    · have hlt' : ¬ (k : Int) < (n : Int) := by omega
      have hall : Hid (layP l = some s) := Lib.hid (by
        have h := hs.out
        rw [List.take_of_length_le (by have := Hn.out; omega)] at h
        exact h)
      have HS := string_any w.heap.size bb s wr hB.out hE.size
      clear hB hs
      go_wp2_with (go_at_call 49; refine HS.mono ?_; rintro e W5 ⟨rfl, hb5⟩)
      go_ret2
      rw [LayAns, hall.out]
      exact ⟨rfl, Below.trans hE hb5⟩
end Go.Proofs.YtiomljaengonoaaGreatDoor
