/- Package pins: a table of handles; New, has, Count, Read, Close. -/
import Derived.Test.YtknfaabhlcdeoaaGreatDoorBut
import Derived.Test.YtknfaabhlcdeoaaGreatDoorLAt
import Derived.Maps.OwnOps
import Derived.WalkArith
namespace Go.Proofs.YtknfaabhlcdeoaaGreatDoor
open Go Go.RowKit Go.Shelf Go.Proofs Go.Maps

/-- Handles: number, data, the slice of texts. -/
abbrev LH := List (Int × ByteArray × Value)
def TabH (l : LH) : DataW Value := Tab (l.map fun x => (x.1, .agg #[.string x.2.1, x.2.2]))
def findH (l : LH) (id : Int) : Option (ByteArray × Value) := (l.find? fun x => decide (x.1 = id)).map (·.2)
def heldV : Option (ByteArray × Value) → Value
  | none => .agg #[.string ⟨#[]⟩, .slice none 0 0]
  | some x => .agg #[.string x.1, x.2]
/-- A table in memory: its own block, the map's, the last number, the handles. -/
structure PT (w : World) (tb bm n : Nat) (last : Int) (l : LH) : Prop where
  box : Blk w tb 108 #[.map (some bm), .int .i64 last]
  own : w.ownsMap Tryz.prog 3 RH bm n (TabH l)
  ne : tb ≠ bm

/-- The table's two blocks. -/
def Two (tb bm : Nat) (k : Nat) : Prop := k = tb ∨ k = bm

theorem PT.but {w w' : World} {tb bm n : Nat} {last : Int} {l : LH} {S : Nat → Prop} (h : PT w tb bm n last l) (hb : But S w w') (h1 : ¬ S tb) (h2 : ¬ S bm) : PT w' tb bm n last l := by
  refine ⟨h.box.but hb h1, ?_, h.ne⟩
  obtain ⟨es, clock, hh, r⟩ := h.own
  exact ⟨es, clock, (hb.block bm h.own.lt h2).trans hh, r⟩
theorem PT.ext {w w' : World} {tb bm n : Nat} {last : Int} {l : LH} (h : PT w tb bm n last l) (hb : Ext w w') : PT w' tb bm n last l :=
  h.but (S := fun _ => False) (.of_ext hb) id id

theorem law_int : Keyed Tryz.prog 3 := int_keyed Tryz.underlying3
theorem zero_handle (w : World) : (zeroValue 116).run Tryz.prog w = .ok (.agg #[.string ⟨#[]⟩, .slice none 0 0]) w := by kernel_rfl

theorem tabH_at (l : LH) (id : Int) : (TabH l).atKey (.int .i64 id) (.held (heldV none)) = .held (heldV (findH l id)) := by
  rw [TabH, tab_at]
  congr 1
  rw [findH, List.find?_map]
  cases h : List.find? (fun x => decide (x.1 = id)) l with
  | none =>
    have : List.find? ((fun x => decide (x.1 = id)) ∘ fun x : Int × ByteArray × Value => (x.1, Value.agg #[.string x.2.1, x.2.2])) l = none := h
    rw [this]; rfl
  | some x =>
    have : List.find? ((fun x => decide (x.1 = id)) ∘ fun x : Int × ByteArray × Value => (x.1, Value.agg #[.string x.2.1, x.2.2])) l = some x := h
    rw [this]; rfl
theorem tabH_has (l : LH) (id : Int) : Maps.has (TabH l) (.int .i64 id) = (findH l id).isSome := by
  rw [TabH, tab_has, findH, List.find?_map, Option.isSome_map, Option.isSome_map]
  rfl

theorem lookH {ops : Array Oper} {rest : List Oper} {o : Oper} {a : Act} {Q : Exit → Act → World → Prop} (w : World) (hg : o.guard = none) (m x : Operand) (hop : o.op = Op.lookup 106 m x true)
    (bm n : Nat) (l : LH) (hm : a.eval m = .map (some bm)) (hown : w.ownsMap Tryz.prog 3 RH bm n (TabH l)) (id : Int) (hx : a.eval x = .int .i64 id) (hw : (Lit.int .i64 id).wf = true)
    (v : Value) (ok : Bool) (hv : heldV (findH l id) = v) (hok : (findH l id).isSome = ok)
    (hK : wpList Tryz.prog ops Q rest (a.put o.dst (.tuple #[v, .bool ok])) w) : wpList Tryz.prog ops Q (o :: rest) a w := by
  refine wpList_lookup_own_ok w hg m x _ hop 3 116 law_int Tryz.underlying106 RH (zero_handle w) (.held (heldV none)) [] rfl bm n (TabH l) hm hown _ (.int .i64 id) hx (keyOf_int_mk Tryz.underlying3 hw) ?_
  intro u ps hu
  rw [tabH_at] at hu
  rw [tabH_has, hok]
  have : u = v := by
    rw [← hv]
    simp [RH] at hu
    exact hu.1
  rw [this]
  exact hK

/-- What has answers. -/
def HasNo (w : World) (e : Ending) (w' : World) : Prop := ∃ a, e = .returned (.tuple #[.agg #[.string ⟨#[]⟩, .slice none 0 0], .iface 181 (.pointer (some ⟨a, 0, none⟩))]) ∧ ErrN w' 1 (.iface 181 (.pointer (some ⟨a, 0, none⟩))) 14 ∧ Ext w w'
def HasYes (d : ByteArray) (r : Value) (w : World) (e : Ending) (w' : World) : Prop := e = .returned (.tuple #[.agg #[.string d, r], .nilIface]) ∧ Ext w w'

set_option maxHeartbeats 4000000 in
theorem has_no (tb bm n : Nat) (last id : Int) (l : LH) (w : World) (ht : PT w tb bm n last l) (hw : (Lit.int .i64 id).wf = true) (hf : findH l id = none) :
    Calls Tryz.prog 66 #[.pointer (some ⟨tb, 0, none⟩), .int .i64 id] w (HasNo w) := by
  go_enter Tryz.func66, Tryz.ntmps66
  go_upto_region 1 with (fail)
  have hR := Blk.new w 116 #[.string ⟨#[]⟩, .slice none 0 0]
  have hE1 := (Ext.refl w).alloc (.cells #[.string ⟨#[]⟩, .slice none 0 0] 116)
  obtain ⟨rb, hrb⟩ : ∃ rb, w.heap.size = rb := ⟨_, rfl⟩
  have hle : w.heap.size ≤ rb := by omega
  rw [hrb] at hR
  rw [hrb]
  have Hrb := Lib.hid hrb
  clear hrb
  generalize w.alloc (.cells #[.string ⟨#[]⟩, .slice none 0 0] 116) = W1 at hR hE1 ⊢
  have ht1 := ht.ext hE1
  have h0 := ht1.box.cell 0 rfl
  have hown := ht1.own
  clear ht1 ht
  go_wp2_with (first | (at_lookup; refine lookH _ rfl _ _ rfl bm n l rfl hown id rfl hw (heldV none) false (by rw [hf]) (by rw [hf]; rfl) ?_; simp only [heldV]) | (go_at_call 63; refine (fail_At_c _ _ _ _).mono ?_; rintro e W3 ⟨⟨a5, rfl, hEr⟩, hE3⟩; obtain ⟨⟨c0, d0⟩, ⟨c1, d1⟩⟩ := (hR.ext (Ext.trans (by exact (by repeat (first | exact Ext.refl _ | assumption | refine Ext.alloc ?_ _ | refine Ext.drew ?_ | refine Ext.drewN ?_ _ | refine Ext.setCell ?_ (by first | omega | (simp; done) | (simp; omega)) _ | refine Ext.trans ?_ (by assumption)))) hE3)).two))
  rw [setCell_same c0, setCell_same c1]
  refine bodyPost_ret (v := .tuple #[.agg #[.string ⟨#[]⟩, .slice none 0 0], .iface 181 (.pointer (some ⟨a5, 0, none⟩))]) (by simp [results, Tryz.f66, go_sem, c0, c1]) rfl ?_
  exact ⟨_, rfl, hEr, Ext.trans (by exact (by repeat (first | exact Ext.refl _ | assumption | refine Ext.alloc ?_ _ | refine Ext.drew ?_ | refine Ext.drewN ?_ _ | refine Ext.setCell ?_ (by first | omega | (simp; done) | (simp; omega)) _ | refine Ext.trans ?_ (by assumption)))) hE3⟩

set_option maxHeartbeats 4000000 in
theorem has_yes (tb bm n : Nat) (last id : Int) (l : LH) (d : ByteArray) (A : Option Addr) (m c : Nat) (w : World) (ht : PT w tb bm n last l) (hw : (Lit.int .i64 id).wf = true) (hf : findH l id = some (d, .slice A m c)) :
    Calls Tryz.prog 66 #[.pointer (some ⟨tb, 0, none⟩), .int .i64 id] w (HasYes d (.slice A m c) w) := by
  go_enter Tryz.func66, Tryz.ntmps66
  go_upto_region 1 with (fail)
  have hR := Blk.new w 116 #[.string ⟨#[]⟩, .slice none 0 0]
  have hE1 := (Ext.refl w).alloc (.cells #[.string ⟨#[]⟩, .slice none 0 0] 116)
  obtain ⟨rb, hrb⟩ : ∃ rb, w.heap.size = rb := ⟨_, rfl⟩
  have hle : w.heap.size ≤ rb := by omega
  rw [hrb] at hR
  rw [hrb]
  have Hrb := Lib.hid hrb
  clear hrb
  generalize w.alloc (.cells #[.string ⟨#[]⟩, .slice none 0 0] 116) = W1 at hR hE1 ⊢
  have ht1 := ht.ext hE1
  have h0 := ht1.box.cell 0 rfl
  have hown := ht1.own
  obtain ⟨⟨c0, d0⟩, ⟨c1, d1⟩⟩ := hR.two
  have hlt := hR.lt
  have hne : rb ≠ W1.heap.size := by omega
  clear ht1 ht
  go_wp2_with (at_lookup; refine lookH _ rfl _ _ rfl bm n l rfl hown id rfl hw (heldV (some (d, .slice A m c))) true (by rw [hf]) (by rw [hf]; rfl) ?_; simp only [heldV])
  refine bodyPost_ret (v := .tuple #[.agg #[.string d, .slice A m c], .nilIface]) (by simp [results, Tryz.f66, go_sem, c0, c1, hlt]) rfl ?_
  exact ⟨rfl, (by repeat (first | exact Ext.refl _ | assumption | refine Ext.alloc ?_ _ | refine Ext.drew ?_ | refine Ext.drewN ?_ _ | refine Ext.setCell ?_ (by first | omega | (simp; done) | (simp; omega)) _ | refine Ext.trans ?_ (by assumption)))⟩

set_option maxHeartbeats 2000000 in
theorem Count_any (tb bm n : Nat) (last : Int) (l : LH) (w : World) (ht : PT w tb bm n last l) :
    Calls Tryz.prog 31 #[.pointer (some ⟨tb, 0, none⟩)] w fun e w' => e = .returned (.int .i64 l.length) ∧ w = w' := by
  have h0 := ht.box.cell 0 rfl
  have hown := ht.own
  have hsz : Maps.size (TabH l) = l.length := by rw [TabH, tab_size, List.length_map]
  clear ht
  go_enter Tryz.func31, Tryz.ntmps31
  go_wp2_with (at_len; refine wpList_len_own _ rfl _ _ rfl 3 116 Tryz.underlying106 RH bm n (TabH l) rfl hown ?_; rw [hsz])
  go_ret
  exact ⟨rfl, rfl⟩

set_option maxHeartbeats 2000000 in
theorem New_any (w : World) :
    Calls Tryz.prog 23 #[] w fun e w' => ∃ tb bm, e = .returned (.pointer (some ⟨tb, 0, none⟩)) ∧ PT w' tb bm 0 0 [] ∧ w.heap.size ≤ tb ∧ w.heap.size ≤ bm ∧ Ext w w' := by
  have hmm := @run_makeMap Tryz.prog
  go_enter Tryz.func23, Tryz.ntmps23
  go_wp2
  go_ret
  have hb := Blk.new (w.alloc (.map #[] 0)) 108 #[.map (some w.heap.size), .int .i64 0]
  rw [World.size_alloc] at hb
  exact ⟨w.heap.size + 1, w.heap.size, rfl, ⟨hb, (World.ownsMap_made w _ _ _).alloc _, by omega⟩, by omega, by omega, (by repeat (first | exact Ext.refl _ | assumption | refine Ext.alloc ?_ _ | refine Ext.drew ?_ | refine Ext.drewN ?_ _ | refine Ext.setCell ?_ (by first | omega | (simp; done) | (simp; omega)) _ | refine Ext.trans ?_ (by assumption)))⟩

/-- What Read answers. -/
def ReadBad (c : Int) (w : World) (e : Ending) (w' : World) : Prop := ∃ a, e = .returned (.tuple #[.string ⟨#[]⟩, .iface 181 (.pointer (some ⟨a, 0, none⟩))]) ∧ ErrN w' 1 (.iface 181 (.pointer (some ⟨a, 0, none⟩))) c ∧ Ext w w'
def ReadOk (x : ByteArray) (w : World) (e : Ending) (w' : World) : Prop := e = .returned (.tuple #[.string x, .nilIface]) ∧ Ext w w'

set_option maxHeartbeats 4000000 in
theorem read_no (tb bm n : Nat) (last id at_ k : Int) (l : LH) (w : World) (ht : PT w tb bm n last l) (hw : (Lit.int .i64 id).wf = true) (hf : findH l id = none) :
    Calls Tryz.prog 27 #[.pointer (some ⟨tb, 0, none⟩), .int .i64 id, .int .i64 at_, .int .i64 k] w (ReadBad 14 w) := by
  have HH := fun w h => has_no tb bm n last id l w h hw hf
  have Ht := Lib.hid ht
  clear ht hf
  go_enter Tryz.func27, Tryz.ntmps27
  go_wp2_with (go_at_call 66; refine (HH _ Ht.out).mono ?_; rintro e W1 ⟨a5, rfl, hEr, hE1⟩)
  go_ret2
  exact ⟨_, rfl, hEr.below ((Ext.refl W1).alloc _).below, (by repeat (first | exact Ext.refl _ | assumption | refine Ext.alloc ?_ _ | refine Ext.drew ?_ | refine Ext.drewN ?_ _ | refine Ext.setCell ?_ (by first | omega | (simp; done) | (simp; omega)) _ | refine Ext.trans ?_ (by assumption)))⟩

set_option maxHeartbeats 4000000 in
theorem read_neg (tb bm n : Nat) (last id at_ k : Int) (l : LH) (d : ByteArray) (A : Option Addr) (m c : Nat) (w : World) (ht : PT w tb bm n last l) (hw : (Lit.int .i64 id).wf = true) (hf : findH l id = some (d, .slice A m c)) (hneg : at_ < 0 ∨ k < 0) :
    Calls Tryz.prog 27 #[.pointer (some ⟨tb, 0, none⟩), .int .i64 id, .int .i64 at_, .int .i64 k] w (ReadBad 1 w) := by
  have HH := fun w h => has_yes tb bm n last id l d A m c w h hw hf
  have Ht := Lib.hid ht
  clear ht hf
  go_enter Tryz.func27, Tryz.ntmps27
  by_cases hn : at_ < 0
  · go_wp2_with (first | (go_at_call 66; refine (HH _ Ht.out).mono ?_; rintro e W1 ⟨rfl, hE1⟩) | (go_at_call 63; refine (fail_At_c _ _ _ _).mono ?_; rintro e W3 ⟨⟨a5, rfl, hEr⟩, hE3⟩))
    go_ret2
    exact ⟨_, rfl, hEr, Ext.trans (by exact (by repeat (first | exact Ext.refl _ | assumption | refine Ext.alloc ?_ _ | refine Ext.drew ?_ | refine Ext.drewN ?_ _ | refine Ext.setCell ?_ (by first | omega | (simp; done) | (simp; omega)) _ | refine Ext.trans ?_ (by assumption)))) hE3⟩
  · have hk : k < 0 := by omega
    go_wp2_with (first | (go_at_call 66; refine (HH _ Ht.out).mono ?_; rintro e W1 ⟨rfl, hE1⟩) | (go_at_call 63; refine (fail_At_c _ _ _ _).mono ?_; rintro e W3 ⟨⟨a5, rfl, hEr⟩, hE3⟩))
    go_ret2
    exact ⟨_, rfl, hEr, Ext.trans (by exact (by repeat (first | exact Ext.refl _ | assumption | refine Ext.alloc ?_ _ | refine Ext.drew ?_ | refine Ext.drewN ?_ _ | refine Ext.setCell ?_ (by first | omega | (simp; done) | (simp; omega)) _ | refine Ext.trans ?_ (by assumption)))) hE3⟩

/-- A part of a text. -/
def part (d : ByteArray) (i n : Nat) : ByteArray := B ((d.data.toList.drop i).take n)

theorem part_is (d : ByteArray) (i k : Nat) : (d.extract (min (i : Int) (d.size : Int)).toNat d.size).extract 0 (min (k : Int) ((d.size - (min (i : Int) (d.size : Int)).toNat : Nat) : Int)).toNat = part d i k := by
  have e1 : (min (i : Int) (d.size : Int)).toNat = min i d.size := by omega
  rw [e1]
  have e2 : (min (k : Int) ((d.size - min i d.size : Nat) : Int)).toNat = min k (d.size - min i d.size) := by omega
  rw [e2]
  apply data_inj
  rw [part, toList_B, ByteArray.data_extract, ByteArray.data_extract, Array.toList_extract, Array.toList_extract, List.extract_eq_take_drop, List.extract_eq_take_drop]
  have hs : d.size = d.data.toList.length := rfl
  rw [hs]
  generalize d.data.toList = l
  apply List.ext_getElem?
  intro j
  simp only [List.getElem?_take, List.getElem?_drop]
  rcases Nat.lt_or_ge i l.length with h | h
  · have e3 : min i l.length = i := by omega
    rw [e3]
    rcases Nat.lt_or_ge (i + j) l.length with h2 | h2
    · by_cases hk : j < k
      · rw [if_pos (by omega), if_pos (by omega), if_pos hk, Nat.zero_add]
      · rw [if_neg (by omega), if_neg hk]
    · rw [List.getElem?_eq_none (l := l) (i := i + j) h2]
      by_cases h3 : j < min k (l.length - i) - 0
      · omega
      · rw [if_neg h3]
        split <;> rfl
  · have e3 : min i l.length = l.length := by omega
    rw [e3, if_neg (by omega), List.getElem?_eq_none (l := l) (i := i + j) (by omega)]
    split <;> rfl

set_option maxHeartbeats 4000000 in
theorem read_yes (tb bm n : Nat) (last id : Int) (i k : Nat) (l : LH) (d : ByteArray) (A : Option Addr) (m c : Nat) (w : World) (ht : PT w tb bm n last l) (hw : (Lit.int .i64 id).wf = true) (hf : findH l id = some (d, .slice A m c)) :
    Calls Tryz.prog 27 #[.pointer (some ⟨tb, 0, none⟩), .int .i64 id, .int .i64 i, .int .i64 k] w (ReadOk (part d i k) w) := by
  have HH := fun w h => has_yes tb bm n last id l d A m c w h hw hf
  have Ht := Lib.hid ht
  clear ht hf
  go_enter Tryz.func27, Tryz.ntmps27
  go_wp2_with (go_at_call 66; refine (HH _ Ht.out).mono ?_; rintro e W1 ⟨rfl, hE1⟩)
  go_ret2
  exact ⟨by rw [← part_is d i k]; rfl, (by repeat (first | exact Ext.refl _ | assumption | refine Ext.alloc ?_ _ | refine Ext.drew ?_ | refine Ext.drewN ?_ _ | refine Ext.setCell ?_ (by first | omega | (simp; done) | (simp; omega)) _ | refine Ext.trans ?_ (by assumption)))⟩

/-- What Close answers. -/
def CloseBad (w : World) (e : Ending) (w' : World) : Prop := ∃ a, e = .returned (.tuple #[.slice none 0 0, .iface 181 (.pointer (some ⟨a, 0, none⟩))]) ∧ ErrN w' 1 (.iface 181 (.pointer (some ⟨a, 0, none⟩))) 14 ∧ Ext w w'
def CloseOk (tb bm n : Nat) (last : Int) (l : LH) (r : Value) (w : World) (e : Ending) (w' : World) : Prop := e = .returned (.tuple #[r, .nilIface]) ∧ PT w' tb bm n last l ∧ But (Two tb bm) w w'

set_option maxHeartbeats 4000000 in
theorem close_no (tb bm n : Nat) (last id : Int) (l : LH) (w : World) (ht : PT w tb bm n last l) (hw : (Lit.int .i64 id).wf = true) (hf : findH l id = none) :
    Calls Tryz.prog 25 #[.pointer (some ⟨tb, 0, none⟩), .int .i64 id] w (CloseBad w) := by
  have HH := fun w h => has_no tb bm n last id l w h hw hf
  have Ht := Lib.hid ht
  clear ht hf
  go_enter Tryz.func25, Tryz.ntmps25
  go_wp2_with (go_at_call 66; refine (HH _ Ht.out).mono ?_; rintro e W1 ⟨a5, rfl, hEr, hE1⟩)
  go_ret2
  exact ⟨_, rfl, hEr.below ((Ext.refl W1).alloc _).below, (by repeat (first | exact Ext.refl _ | assumption | refine Ext.alloc ?_ _ | refine Ext.drew ?_ | refine Ext.drewN ?_ _ | refine Ext.setCell ?_ (by first | omega | (simp; done) | (simp; omega)) _ | refine Ext.trans ?_ (by assumption)))⟩

theorem tabH_del (l : LH) (id : Int) : (TabH l).del (.int .i64 id) = TabH (l.filter fun x => !decide (x.1 = id)) := by
  rw [TabH, tab_del, TabH, List.filter_map]
  rfl

set_option maxHeartbeats 4000000 in
theorem close_yes (tb bm n : Nat) (last id : Int) (l : LH) (d : ByteArray) (A : Option Addr) (m c : Nat) (w : World) (ht : PT w tb bm n last l) (hw : (Lit.int .i64 id).wf = true) (hf : findH l id = some (d, .slice A m c)) :
    Calls Tryz.prog 25 #[.pointer (some ⟨tb, 0, none⟩), .int .i64 id] w (CloseOk tb bm n last (l.filter fun x => !decide (x.1 = id)) (.slice A m c) w) := by
  have HH := fun w h => has_yes tb bm n last id l d A m c w h hw hf
  have Ht := Lib.hid ht
  clear ht hf
  go_enter Tryz.func25, Tryz.ntmps25
  go_upto_region 4 with (go_at_call 66; refine (HH _ Ht.out).mono ?_; rintro e W1 ⟨rfl, hE1⟩)
  have hX := Blk.new W1 116 #[.string d, .slice A m c]
  have hE2 := hE1.alloc (.cells #[.string d, .slice A m c] 116)
  have ht2 := Ht.out.ext hE2
  have hxb : W1.heap.size ≠ bm := by have := (Ht.out.ext hE1).own.lt; omega
  obtain ⟨xb, hx⟩ : ∃ xb, W1.heap.size = xb := ⟨_, rfl⟩
  rw [hx] at hX hxb ⊢
  clear hx
  generalize W1.alloc (.cells #[.string d, .slice A m c] 116) = W2 at hX hE2 ht2 ⊢
  have h0 := ht2.box.cell 0 rfl
  have hown := ht2.own
  have Ht2 := Lib.hid ht2
  clear ht2
  go_wp2_with (at_delete; refine wpList_delete_own _ rfl _ _ _ _ rfl 116 law_int Tryz.underlying106 RH bm n (TabH l) rfl hown _ _ rfl (keyOf_int_mk Tryz.underlying3 hw) ?_; intro W3 hown3 hturn; have hB : But (Two tb bm) W2 W3 := (But.refl _ W2).grown hturn.grown (by intro k hk; cases hk; exact .inl (.inr rfl)); have hX3 := (hX.but (S := fun k => k = bm) ((But.refl _ W2).grown hturn.grown (by intro k hk; cases hk; exact .inl rfl)) hxb).cell 1 rfl)
  go_ret2
  have hbox := Ht2.out.box.but (S := fun k => k = bm) ((But.refl _ W2).grown hturn.grown (by intro k hk; cases hk; exact .inl rfl)) Ht2.out.ne
  exact ⟨rfl, ⟨hbox, by rw [← tabH_del]; exact hown3, Ht2.out.ne⟩, (But.of_ext hE2).trans hB⟩
end Go.Proofs.YtknfaabhlcdeoaaGreatDoor
