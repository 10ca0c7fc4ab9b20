/- Joined: Package pins: a table of handles; slices; pins; pins; shalelaw22; A stack of one layer of one file '/a'; shalelaw22's awake: the document's example holds; Tables that grow and shrink: plain facts; The plain law of the texts of handles, and its steps; What pins; What a directory of a stack has, in plain Lean -/
import Derived.Test.YthadldnojdjlnaaGreatDoorJP1
import Derived.Maps.OwnOps
import Derived.WalkArith
import Derived.Lib.SliceRun
import Derived.Deep.RegionHeld3
import Derived.Test.YthadldnojdjlnaaGreatDoorIter
import Derived.Laws.AppendOwnNone
import Derived.Test.YthadldnojdjlnaaGreatDoorJP0
import Derived.Maps.AppendAt
import Derived.Deep.AppendLies
import Derived.Laws.StructEq
import Derived.BigQuiet
import Derived.Deep.QuietTactic
/-! Pins -/
namespace Go.Proofs.YthadldnojdjlnaaGreatDoor
open Go Go.RowKit Go.Shelf Go.Proofs Go.Maps

/-- Handles: number, data, the slice of texts. -/
abbrev LH := List (Int × ByteArray × Value)
def TabH (l : LH) : DataW Value := Tab (l.map fun x => (x.1, .agg #[.string x.2.1, x.2.2]))
def findH (l : LH) (id : Int) : Option (ByteArray × Value) := (l.find? fun x => decide (x.1 = id)).map (·.2)
def heldV : Option (ByteArray × Value) → Value
  | none => .agg #[.string ⟨#[]⟩, .slice none 0 0]
  | some x => .agg #[.string x.1, x.2]
/-- A table in memory: its own block, the map's, the last number, the handles. -/
structure PT (w : World) (tb bm n : Nat) (last : Int) (l : LH) : Prop where
  box : Blk w tb 59 #[.map (some bm), .int .i64 last]
  own : w.ownsMap Tryz.prog 3 RH bm n (TabH l)
  ne : tb ≠ bm

/-- The table's two blocks. -/
def Two (tb bm : Nat) (k : Nat) : Prop := k = tb ∨ k = bm

theorem PT.but {w w' : World} {tb bm n : Nat} {last : Int} {l : LH} {S : Nat → Prop} (h : PT w tb bm n last l) (hb : But S w w') (h1 : ¬ S tb) (h2 : ¬ S bm) : PT w' tb bm n last l := by
  refine ⟨h.box.but hb h1, ?_, h.ne⟩
  obtain ⟨es, clock, hh, r⟩ := h.own
  exact ⟨es, clock, (hb.block bm h.own.lt h2).trans hh, r⟩
theorem PT.ext {w w' : World} {tb bm n : Nat} {last : Int} {l : LH} (h : PT w tb bm n last l) (hb : Ext w w') : PT w' tb bm n last l :=
  h.but (S := fun _ => False) (.of_ext hb) id id

theorem law_int : Keyed Tryz.prog 3 := int_keyed Tryz.underlying3
theorem zero_handle (w : World) : (zeroValue 61).run Tryz.prog w = .ok (.agg #[.string ⟨#[]⟩, .slice none 0 0]) w := by kernel_rfl

theorem tabH_at (l : LH) (id : Int) : (TabH l).atKey (.int .i64 id) (.held (heldV none)) = .held (heldV (findH l id)) := by
  rw [TabH, tab_at]
  congr 1
  rw [findH, List.find?_map]
  cases h : List.find? (fun x => decide (x.1 = id)) l with
  | none =>
    have : List.find? ((fun x => decide (x.1 = id)) ∘ fun x : Int × ByteArray × Value => (x.1, Value.agg #[.string x.2.1, x.2.2])) l = none := h
    rw [this]; rfl
  | some x =>
    have : List.find? ((fun x => decide (x.1 = id)) ∘ fun x : Int × ByteArray × Value => (x.1, Value.agg #[.string x.2.1, x.2.2])) l = some x := h
    rw [this]; rfl
theorem tabH_has (l : LH) (id : Int) : Maps.has (TabH l) (.int .i64 id) = (findH l id).isSome := by
  rw [TabH, tab_has, findH, List.find?_map, Option.isSome_map, Option.isSome_map]
  rfl

theorem lookH {ops : Array Oper} {rest : List Oper} {o : Oper} {a : Act} {Q : Exit → Act → World → Prop} (w : World) (hg : o.guard = none) (m x : Operand) (hop : o.op = Op.lookup 57 m x true)
    (bm n : Nat) (l : LH) (hm : a.eval m = .map (some bm)) (hown : w.ownsMap Tryz.prog 3 RH bm n (TabH l)) (id : Int) (hx : a.eval x = .int .i64 id) (hw : (Lit.int .i64 id).wf = true)
    (v : Value) (ok : Bool) (hv : heldV (findH l id) = v) (hok : (findH l id).isSome = ok)
    (hK : wpList Tryz.prog ops Q rest (a.put o.dst (.tuple #[v, .bool ok])) w) : wpList Tryz.prog ops Q (o :: rest) a w := by
  refine wpList_lookup_own_ok w hg m x _ hop 3 61 law_int Tryz.underlying57 RH (zero_handle w) (.held (heldV none)) [] rfl bm n (TabH l) hm hown _ (.int .i64 id) hx (keyOf_int_mk Tryz.underlying3 hw) ?_
  intro u ps hu
  rw [tabH_at] at hu
  rw [tabH_has, hok]
  have : u = v := by
    rw [← hv]
    simp [RH] at hu
    exact hu.1
  rw [this]
  exact hK

/-- What has answers. -/
def HasNo (w : World) (e : Ending) (w' : World) : Prop := ∃ a, e = .returned (.tuple #[.agg #[.string ⟨#[]⟩, .slice none 0 0], .iface 86 (.pointer (some ⟨a, 0, none⟩))]) ∧ ErrN w' 1 (.iface 86 (.pointer (some ⟨a, 0, none⟩))) 14 ∧ Ext w w'
def HasYes (d : ByteArray) (r : Value) (w : World) (e : Ending) (w' : World) : Prop := e = .returned (.tuple #[.agg #[.string d, r], .nilIface]) ∧ Ext w w'

set_option maxHeartbeats 4000000 in
theorem has_no (tb bm n : Nat) (last id : Int) (l : LH) (w : World) (ht : PT w tb bm n last l) (hw : (Lit.int .i64 id).wf = true) (hf : findH l id = none) :
    Calls Tryz.prog 18 #[.pointer (some ⟨tb, 0, none⟩), .int .i64 id] w (HasNo w) := by
  go_enter Tryz.func18, Tryz.ntmps18
  go_upto_region 1 with (fail)
  have hR := Blk.new w 61 #[.string ⟨#[]⟩, .slice none 0 0]
  have hE1 := (Ext.refl w).alloc (.cells #[.string ⟨#[]⟩, .slice none 0 0] 61)
  obtain ⟨rb, hrb⟩ : ∃ rb, w.heap.size = rb := ⟨_, rfl⟩
  have hle : w.heap.size ≤ rb := by omega
  rw [hrb] at hR
  rw [hrb]
  have Hrb := Lib.hid hrb
  clear hrb
  generalize w.alloc (.cells #[.string ⟨#[]⟩, .slice none 0 0] 61) = W1 at hR hE1 ⊢
  have ht1 := ht.ext hE1
  have h0 := ht1.box.cell 0 rfl
  have hown := ht1.own
  clear ht1 ht
  go_wp2_with (first | (at_lookup; refine lookH _ rfl _ _ rfl bm n l rfl hown id rfl hw (heldV none) false (by rw [hf]) (by rw [hf]; rfl) ?_; simp only [heldV]) | (go_at_call 19; refine (fail_At_c _ _ _ _).mono ?_; rintro e W3 ⟨⟨a5, rfl, hEr⟩, hE3⟩; obtain ⟨⟨c0, d0⟩, ⟨c1, d1⟩⟩ := (hR.ext (Ext.trans (by exact (by repeat (first | exact Ext.refl _ | assumption | refine Ext.alloc ?_ _ | refine Ext.drew ?_ | refine Ext.drewN ?_ _ | refine Ext.setCell ?_ (by first | omega | (simp; done) | (simp; omega)) _ | refine Ext.trans ?_ (by assumption)))) hE3)).two))
  rw [setCell_same c0, setCell_same c1]
  refine bodyPost_ret (v := .tuple #[.agg #[.string ⟨#[]⟩, .slice none 0 0], .iface 86 (.pointer (some ⟨a5, 0, none⟩))]) (by simp [results, Tryz.f18, go_sem, c0, c1]) rfl ?_
  exact ⟨_, rfl, hEr, Ext.trans (by exact (by repeat (first | exact Ext.refl _ | assumption | refine Ext.alloc ?_ _ | refine Ext.drew ?_ | refine Ext.drewN ?_ _ | refine Ext.setCell ?_ (by first | omega | (simp; done) | (simp; omega)) _ | refine Ext.trans ?_ (by assumption)))) hE3⟩

set_option maxHeartbeats 4000000 in
theorem has_yes (tb bm n : Nat) (last id : Int) (l : LH) (d : ByteArray) (A : Option Addr) (m c : Nat) (w : World) (ht : PT w tb bm n last l) (hw : (Lit.int .i64 id).wf = true) (hf : findH l id = some (d, .slice A m c)) :
    Calls Tryz.prog 18 #[.pointer (some ⟨tb, 0, none⟩), .int .i64 id] w (HasYes d (.slice A m c) w) := by
  go_enter Tryz.func18, Tryz.ntmps18
  go_upto_region 1 with (fail)
  have hR := Blk.new w 61 #[.string ⟨#[]⟩, .slice none 0 0]
  have hE1 := (Ext.refl w).alloc (.cells #[.string ⟨#[]⟩, .slice none 0 0] 61)
  obtain ⟨rb, hrb⟩ : ∃ rb, w.heap.size = rb := ⟨_, rfl⟩
  have hle : w.heap.size ≤ rb := by omega
  rw [hrb] at hR
  rw [hrb]
  have Hrb := Lib.hid hrb
  clear hrb
  generalize w.alloc (.cells #[.string ⟨#[]⟩, .slice none 0 0] 61) = W1 at hR hE1 ⊢
  have ht1 := ht.ext hE1
  have h0 := ht1.box.cell 0 rfl
  have hown := ht1.own
  obtain ⟨⟨c0, d0⟩, ⟨c1, d1⟩⟩ := hR.two
  have hlt := hR.lt
  have hne : rb ≠ W1.heap.size := by omega
  clear ht1 ht
  go_wp2_with (at_lookup; refine lookH _ rfl _ _ rfl bm n l rfl hown id rfl hw (heldV (some (d, .slice A m c))) true (by rw [hf]) (by rw [hf]; rfl) ?_; simp only [heldV])
  refine bodyPost_ret (v := .tuple #[.agg #[.string d, .slice A m c], .nilIface]) (by simp [results, Tryz.f18, go_sem, c0, c1, hlt]) rfl ?_
  exact ⟨rfl, (by repeat (first | exact Ext.refl _ | assumption | refine Ext.alloc ?_ _ | refine Ext.drew ?_ | refine Ext.drewN ?_ _ | refine Ext.setCell ?_ (by first | omega | (simp; done) | (simp; omega)) _ | refine Ext.trans ?_ (by assumption)))⟩

set_option maxHeartbeats 2000000 in
theorem Count_any (tb bm n : Nat) (last : Int) (l : LH) (w : World) (ht : PT w tb bm n last l) :
    Calls Tryz.prog 16 #[.pointer (some ⟨tb, 0, none⟩)] w fun e w' => e = .returned (.int .i64 l.length) ∧ w = w' := by
  have h0 := ht.box.cell 0 rfl
  have hown := ht.own
  have hsz : Maps.size (TabH l) = l.length := by rw [TabH, tab_size, List.length_map]
  clear ht
  go_enter Tryz.func16, Tryz.ntmps16
  go_wp2_with (at_len; refine wpList_len_own _ rfl _ _ rfl 3 61 Tryz.underlying57 RH bm n (TabH l) rfl hown ?_; rw [hsz])
  go_ret
  exact ⟨rfl, rfl⟩

set_option maxHeartbeats 2000000 in
theorem New_any (w : World) :
    Calls Tryz.prog 6 #[] w fun e w' => ∃ tb bm, e = .returned (.pointer (some ⟨tb, 0, none⟩)) ∧ PT w' tb bm 0 0 [] ∧ w.heap.size ≤ tb ∧ w.heap.size ≤ bm ∧ Ext w w' := by
  have hmm := @run_makeMap Tryz.prog
  go_enter Tryz.func6, Tryz.ntmps6
  go_wp2
  go_ret
  have hb := Blk.new (w.alloc (.map #[] 0)) 59 #[.map (some w.heap.size), .int .i64 0]
  rw [World.size_alloc] at hb
  exact ⟨w.heap.size + 1, w.heap.size, rfl, ⟨hb, (World.ownsMap_made w _ _ _).alloc _, by omega⟩, by omega, by omega, (by repeat (first | exact Ext.refl _ | assumption | refine Ext.alloc ?_ _ | refine Ext.drew ?_ | refine Ext.drewN ?_ _ | refine Ext.setCell ?_ (by first | omega | (simp; done) | (simp; omega)) _ | refine Ext.trans ?_ (by assumption)))⟩

/-- What Read answers. -/
def ReadBad (c : Int) (w : World) (e : Ending) (w' : World) : Prop := ∃ a, e = .returned (.tuple #[.string ⟨#[]⟩, .iface 86 (.pointer (some ⟨a, 0, none⟩))]) ∧ ErrN w' 1 (.iface 86 (.pointer (some ⟨a, 0, none⟩))) c ∧ Ext w w'
def ReadOk (x : ByteArray) (w : World) (e : Ending) (w' : World) : Prop := e = .returned (.tuple #[.string x, .nilIface]) ∧ Ext w w'

set_option maxHeartbeats 4000000 in
theorem read_no (tb bm n : Nat) (last id at_ k : Int) (l : LH) (w : World) (ht : PT w tb bm n last l) (hw : (Lit.int .i64 id).wf = true) (hf : findH l id = none) :
    Calls Tryz.prog 7 #[.pointer (some ⟨tb, 0, none⟩), .int .i64 id, .int .i64 at_, .int .i64 k] w (ReadBad 14 w) := by
  have HH := fun w h => has_no tb bm n last id l w h hw hf
  have Ht := Lib.hid ht
  clear ht hf
  go_enter Tryz.func7, Tryz.ntmps7
  go_wp2_with (go_at_call 18; refine (HH _ Ht.out).mono ?_; rintro e W1 ⟨a5, rfl, hEr, hE1⟩)
  go_ret2
  exact ⟨_, rfl, hEr.below ((Ext.refl W1).alloc _).below, (by repeat (first | exact Ext.refl _ | assumption | refine Ext.alloc ?_ _ | refine Ext.drew ?_ | refine Ext.drewN ?_ _ | refine Ext.setCell ?_ (by first | omega | (simp; done) | (simp; omega)) _ | refine Ext.trans ?_ (by assumption)))⟩

set_option maxHeartbeats 4000000 in
theorem read_neg (tb bm n : Nat) (last id at_ k : Int) (l : LH) (d : ByteArray) (A : Option Addr) (m c : Nat) (w : World) (ht : PT w tb bm n last l) (hw : (Lit.int .i64 id).wf = true) (hf : findH l id = some (d, .slice A m c)) (hneg : at_ < 0 ∨ k < 0) :
    Calls Tryz.prog 7 #[.pointer (some ⟨tb, 0, none⟩), .int .i64 id, .int .i64 at_, .int .i64 k] w (ReadBad 1 w) := by
  have HH := fun w h => has_yes tb bm n last id l d A m c w h hw hf
  have Ht := Lib.hid ht
  clear ht hf
  go_enter Tryz.func7, Tryz.ntmps7
  by_cases hn : at_ < 0
  · go_wp2_with (first | (go_at_call 18; refine (HH _ Ht.out).mono ?_; rintro e W1 ⟨rfl, hE1⟩) | (go_at_call 19; refine (fail_At_c _ _ _ _).mono ?_; rintro e W3 ⟨⟨a5, rfl, hEr⟩, hE3⟩))
    go_ret2
    exact ⟨_, rfl, hEr, Ext.trans (by exact (by repeat (first | exact Ext.refl _ | assumption | refine Ext.alloc ?_ _ | refine Ext.drew ?_ | refine Ext.drewN ?_ _ | refine Ext.setCell ?_ (by first | omega | (simp; done) | (simp; omega)) _ | refine Ext.trans ?_ (by assumption)))) hE3⟩
  · have hk : k < 0 := by omega
    go_wp2_with (first | (go_at_call 18; refine (HH _ Ht.out).mono ?_; rintro e W1 ⟨rfl, hE1⟩) | (go_at_call 19; refine (fail_At_c _ _ _ _).mono ?_; rintro e W3 ⟨⟨a5, rfl, hEr⟩, hE3⟩))
    go_ret2
    exact ⟨_, rfl, hEr, Ext.trans (by exact (by repeat (first | exact Ext.refl _ | assumption | refine Ext.alloc ?_ _ | refine Ext.drew ?_ | refine Ext.drewN ?_ _ | refine Ext.setCell ?_ (by first | omega | (simp; done) | (simp; omega)) _ | refine Ext.trans ?_ (by assumption)))) hE3⟩

/-- A part of a text. -/
def part (d : ByteArray) (i n : Nat) : ByteArray := B ((d.data.toList.drop i).take n)

theorem part_is (d : ByteArray) (i k : Nat) : (d.extract (min (i : Int) (d.size : Int)).toNat d.size).extract 0 (min (k : Int) ((d.size - (min (i : Int) (d.size : Int)).toNat : Nat) : Int)).toNat = part d i k := by
  have e1 : (min (i : Int) (d.size : Int)).toNat = min i d.size := by omega
  rw [e1]
  have e2 : (min (k : Int) ((d.size - min i d.size : Nat) : Int)).toNat = min k (d.size - min i d.size) := by omega
  rw [e2]
  apply data_inj
  rw [part, toList_B, ByteArray.data_extract, ByteArray.data_extract, Array.toList_extract, Array.toList_extract, List.extract_eq_take_drop, List.extract_eq_take_drop]
  have hs : d.size = d.data.toList.length := rfl
  rw [hs]
  generalize d.data.toList = l
  apply List.ext_getElem?
  intro j
  simp only [List.getElem?_take, List.getElem?_drop]
  rcases Nat.lt_or_ge i l.length with h | h
  · have e3 : min i l.length = i := by omega
    rw [e3]
    rcases Nat.lt_or_ge (i + j) l.length with h2 | h2
    · by_cases hk : j < k
      · rw [if_pos (by omega), if_pos (by omega), if_pos hk, Nat.zero_add]
      · rw [if_neg (by omega), if_neg hk]
    · rw [List.getElem?_eq_none (l := l) (i := i + j) h2]
      by_cases h3 : j < min k (l.length - i) - 0
      · omega
      · rw [if_neg h3]
        split <;> rfl
  · have e3 : min i l.length = l.length := by omega
    rw [e3, if_neg (by omega), List.getElem?_eq_none (l := l) (i := i + j) (by omega)]
    split <;> rfl

set_option maxHeartbeats 4000000 in
theorem read_yes (tb bm n : Nat) (last id : Int) (i k : Nat) (l : LH) (d : ByteArray) (A : Option Addr) (m c : Nat) (w : World) (ht : PT w tb bm n last l) (hw : (Lit.int .i64 id).wf = true) (hf : findH l id = some (d, .slice A m c)) :
    Calls Tryz.prog 7 #[.pointer (some ⟨tb, 0, none⟩), .int .i64 id, .int .i64 i, .int .i64 k] w (ReadOk (part d i k) w) := by
  have HH := fun w h => has_yes tb bm n last id l d A m c w h hw hf
  have Ht := Lib.hid ht
  clear ht hf
  go_enter Tryz.func7, Tryz.ntmps7
  go_wp2_with (go_at_call 18; refine (HH _ Ht.out).mono ?_; rintro e W1 ⟨rfl, hE1⟩)
  go_ret2
  exact ⟨by rw [← part_is d i k]; rfl, (by repeat (first | exact Ext.refl _ | assumption | refine Ext.alloc ?_ _ | refine Ext.drew ?_ | refine Ext.drewN ?_ _ | refine Ext.setCell ?_ (by first | omega | (simp; done) | (simp; omega)) _ | refine Ext.trans ?_ (by assumption)))⟩

/-- What Close answers. -/
def CloseBad (w : World) (e : Ending) (w' : World) : Prop := ∃ a, e = .returned (.tuple #[.slice none 0 0, .iface 86 (.pointer (some ⟨a, 0, none⟩))]) ∧ ErrN w' 1 (.iface 86 (.pointer (some ⟨a, 0, none⟩))) 14 ∧ Ext w w'
def CloseOk (tb bm n : Nat) (last : Int) (l : LH) (r : Value) (w : World) (e : Ending) (w' : World) : Prop := e = .returned (.tuple #[r, .nilIface]) ∧ PT w' tb bm n last l ∧ But (Two tb bm) w w'

set_option maxHeartbeats 4000000 in
theorem close_no (tb bm n : Nat) (last id : Int) (l : LH) (w : World) (ht : PT w tb bm n last l) (hw : (Lit.int .i64 id).wf = true) (hf : findH l id = none) :
    Calls Tryz.prog 10 #[.pointer (some ⟨tb, 0, none⟩), .int .i64 id] w (CloseBad w) := by
  have HH := fun w h => has_no tb bm n last id l w h hw hf
  have Ht := Lib.hid ht
  clear ht hf
  go_enter Tryz.func10, Tryz.ntmps10
  go_wp2_with (go_at_call 18; refine (HH _ Ht.out).mono ?_; rintro e W1 ⟨a5, rfl, hEr, hE1⟩)
  go_ret2
  exact ⟨_, rfl, hEr.below ((Ext.refl W1).alloc _).below, (by repeat (first | exact Ext.refl _ | assumption | refine Ext.alloc ?_ _ | refine Ext.drew ?_ | refine Ext.drewN ?_ _ | refine Ext.setCell ?_ (by first | omega | (simp; done) | (simp; omega)) _ | refine Ext.trans ?_ (by assumption)))⟩

theorem tabH_del (l : LH) (id : Int) : (TabH l).del (.int .i64 id) = TabH (l.filter fun x => !decide (x.1 = id)) := by
  rw [TabH, tab_del, TabH, List.filter_map]
  rfl

set_option maxHeartbeats 4000000 in
theorem close_yes (tb bm n : Nat) (last id : Int) (l : LH) (d : ByteArray) (A : Option Addr) (m c : Nat) (w : World) (ht : PT w tb bm n last l) (hw : (Lit.int .i64 id).wf = true) (hf : findH l id = some (d, .slice A m c)) :
    Calls Tryz.prog 10 #[.pointer (some ⟨tb, 0, none⟩), .int .i64 id] w (CloseOk tb bm n last (l.filter fun x => !decide (x.1 = id)) (.slice A m c) w) := by
  have HH := fun w h => has_yes tb bm n last id l d A m c w h hw hf
  have Ht := Lib.hid ht
  clear ht hf
  go_enter Tryz.func10, Tryz.ntmps10
  go_upto_region 4 with (go_at_call 18; refine (HH _ Ht.out).mono ?_; rintro e W1 ⟨rfl, hE1⟩)
  have hX := Blk.new W1 61 #[.string d, .slice A m c]
  have hE2 := hE1.alloc (.cells #[.string d, .slice A m c] 61)
  have ht2 := Ht.out.ext hE2
  have hxb : W1.heap.size ≠ bm := by have := (Ht.out.ext hE1).own.lt; omega
  obtain ⟨xb, hx⟩ : ∃ xb, W1.heap.size = xb := ⟨_, rfl⟩
  rw [hx] at hX hxb ⊢
  clear hx
  generalize W1.alloc (.cells #[.string d, .slice A m c] 61) = W2 at hX hE2 ht2 ⊢
  have h0 := ht2.box.cell 0 rfl
  have hown := ht2.own
  have Ht2 := Lib.hid ht2
  clear ht2
  go_wp2_with (at_delete; refine wpList_delete_own _ rfl _ _ _ _ rfl 61 law_int Tryz.underlying57 RH bm n (TabH l) rfl hown _ _ rfl (keyOf_int_mk Tryz.underlying3 hw) ?_; intro W3 hown3 hturn; have hB : But (Two tb bm) W2 W3 := (But.refl _ W2).grown hturn.grown (by intro k hk; cases hk; exact .inl (.inr rfl)); have hX3 := (hX.but (S := fun k => k = bm) ((But.refl _ W2).grown hturn.grown (by intro k hk; cases hk; exact .inl rfl)) hxb).cell 1 rfl)
  go_ret2
  have hbox := Ht2.out.box.but (S := fun k => k = bm) ((But.refl _ W2).grown hturn.grown (by intro k hk; cases hk; exact .inl rfl)) Ht2.out.ne
  exact ⟨rfl, ⟨hbox, by rw [← tabH_del]; exact hown3, Ht2.out.ne⟩, (But.of_ext hE2).trans hB⟩
end Go.Proofs.YthadldnojdjlnaaGreatDoor

/-! Clone -/
namespace Go.Proofs.YthadldnojdjlnaaGreatDoor
open Go Go.RowKit Go.Proofs

/-- Where a text lies. -/
structure Ref where
  at_ : Int
  size : Int
  sum : Int
def Ref.cells (x : Ref) : List Value := [.int .i64 x.at_, .int .i64 x.size, .int .u32 x.sum]
def RR (_ : World) (x : Ref) (cs : List Value) : Prop := cs = x.cells
abbrev RdR := Rd RR 3

theorem refs_cells (xs : List Ref) (j : Nat) (x : Ref) (hj : xs[j]? = some x) : ∀ (i : Nat) u, x.cells[i]? = some u → (xs.flatMap Ref.cells)[j * 3 + i]? = some u := by
  induction xs generalizing j with
  | nil => simp at hj
  | cons y r ih =>
    intro i u hi
    have hi3 : i < 3 := (List.getElem?_eq_some_iff.1 hi).1
    rcases j with _ | j
    · cases (Option.some.inj hj)
      rw [List.flatMap_cons, List.getElem?_append_left (by simp [Ref.cells]; omega), Nat.zero_mul, Nat.zero_add]
      exact hi
    · rw [List.flatMap_cons, List.getElem?_append_right (by simp [Ref.cells]; omega)]
      have e : (j + 1) * 3 + i - y.cells.length = j * 3 + i := by simp [Ref.cells]; omega
      rw [e]
      exact ih j hj i u hi

theorem refs_at (xs : List Ref) (k : Nat) (u : Value) (hk : (xs.flatMap Ref.cells)[k]? = some u) : ∃ j x i, xs[j]? = some x ∧ x.cells[i]? = some u ∧ k = j * 3 + i := by
  induction xs generalizing k with
  | nil => simp at hk
  | cons y r ih =>
    rw [List.flatMap_cons] at hk
    by_cases h : k < 3
    · rw [List.getElem?_append_left (by simp [Ref.cells]; omega)] at hk
      exact ⟨0, y, k, rfl, hk, by omega⟩
    · rw [List.getElem?_append_right (by simp [Ref.cells]; omega)] at hk
      obtain ⟨j, x, i, h1, h2, h3⟩ := ih _ hk
      refine ⟨j + 1, x, i, h1, h2, ?_⟩
      simp [Ref.cells] at h3
      omega
theorem refs_length (xs : List Ref) : (xs.flatMap Ref.cells).length = xs.length * 3 := by
  induction xs with
  | nil => rfl
  | cons x r ih => rw [List.flatMap_cons, List.length_append, ih, List.length_cons]; simp [Ref.cells]; omega
theorem refs_one (xs : List Ref) : ∀ u ∈ xs.flatMap Ref.cells, u.oneCell' = true := by
  intro u hu
  obtain ⟨x, _, hx⟩ := List.mem_flatMap.1 hu
  simp [Ref.cells] at hx
  rcases hx with rfl | rfl | rfl <;> rfl

theorem info_ref : (Tryz.prog.info? 44).map (fun i => (i.zero, i.size, i.bytes)) = some (some (.agg #[.int .i64 0, .int .i64 0, .int .u32 0]), 3, 24) := by kernel_rfl

theorem own_none {w : World} {base e sz n : Nat} {A : Option Addr} {m c : Nat} {xs : List Value} (h : w.ownsRow base e sz (.slice A m c) n xs) (hA : A = none) : c = 0 := by
  rcases h.2 with ⟨e, _⟩ | ⟨g, cap, cur, e, _⟩
  · cases e; rfl
  · cases e; cases hA
theorem off_new {w : World} {base e sz n : Nat} {v : Value} {xs : List Value} (h : w.ownsRow base e sz v n xs) : Off (fun k => w.heap.size ≤ k) v := by
  intro b o n' c hv hb
  rcases h.2 with ⟨rfl, h0⟩ | ⟨g, cap, cur, rfl, hg, hh, r⟩
  · cases hv
  · cases hv
    have := (Array.getElem?_eq_some_iff.1 hh).1
    omega
/-- What Clone answers. -/
def CloneAns (xs : List Ref) (w : World) (e : Ending) (w' : World) : Prop := ∃ A c, e = .returned (.slice A xs.length c) ∧ RdR w' (.slice A xs.length c) xs ∧ Ext w w' ∧ (A = none → c = 0) ∧ Off (fun k => w'.heap.size ≤ k) (.slice A xs.length c) ∧ ∀ S : Nat → Prop, (∀ k, S k → k < w.heap.size) → Off S (.slice A xs.length c)

set_option maxHeartbeats 4000000 in
theorem Clone_any (v : Value) (xs : List Ref) (w : World) (hv : RdR w v xs) (hl : xs.length ≤ 5000000000000) :
    Calls Tryz.prog 22 #[v] w (CloneAns xs w) := by
  have q := fun (w : World) (a : Option Addr) (n c n' c' : Nat) => Lib.run_eql_slice_nil (P := Tryz.prog) w _ _ a n c n' c' Tryz.underlying38
  obtain ⟨A, c, rfl, h1, h2, h3, hne⟩ := id hv
  rcases A with _ | ad
  · have h0 : xs = [] := Classical.byContradiction fun e => by obtain ⟨b, o, h, _⟩ := hne e; cases h
    subst h0
    clear hv hne
    go_enter Tryz.func22, Tryz.ntmps22
    go_wp2
    go_ret
    exact ⟨none, 0, rfl, Rd.nil _ _ _, Ext.refl _, fun _ => rfl, Off.none _ _, fun S _ => Off.none _ _⟩
  · obtain ⟨i0, hi, hz0, hz1, hz2⟩ := info_parts info_ref
    have hnews : ∀ (j : Nat) u, (xs.flatMap Ref.cells)[j]? = some u → w.cell? (ad.add j) = some u := by
      intro j u hj
      obtain ⟨j', x, i, hx, hxi, rfl⟩ := refs_at xs j u hj
      obtain ⟨b, o, e, hc⟩ := hne (by rintro rfl; simp at hx)
      cases e
      obtain ⟨cs, rfl, hu⟩ := hc j' x hx
      have := hu i u hxi
      rw [Addr.add_lit, ← Nat.add_assoc]
      exact this
    have Hnews := Lib.hid hnews
    obtain ⟨n, hn⟩ : ∃ n, n = xs.length := ⟨_, rfl⟩
    have Hn := Lib.hid hn
    have hlen := refs_length xs
    rw [← hn] at h1 h3 hl hlen ⊢
    clear hv hne hnews hn
    go_enter Tryz.func22, Tryz.ntmps22
    go_wp2_with (at_builtin; refine wpList_append_own _ rfl _ _ 38 rfl w.heap.size 44 i0 (.agg #[.int .i64 0, .int .i64 0, .int .u32 0]) 3 24 Tryz.underlying38 hi hz0 hz1 hz2 rfl (by decide) _ _ _ rfl (World.ownsRow_made w #[] 0 (Nat.le_refl _) (Nat.zero_le _) rfl) ad n c (xs.flatMap Ref.cells) rfl ?qc1 ?qc2 ?qc3 ?qc4 ?qc5 ?qc6 ?_)
    case qc1 => exact hlen
    case qc2 =>
      intro j u hj
      exact Lib.cell?_alloc_some _ (Hnews.out j u hj)
    case qc3 => exact refs_one xs
    case qc4 => unfold maxLen; omega
    case qc5 => omega
    case qc6 => simp
    intro v' w1 hown hgrow hnil
    have hown' : w1.ownsRow w.heap.size 44 3 v' n (xs.flatMap Ref.cells) := by simpa using hown
    obtain ⟨A', c', rfl⟩ := own_form hown'
    go_wp2
    go_ret
    refine ⟨A', c', by rw [← Hn.out]; rfl, ?_, ?_, own_none hown', by rw [← Hn.out]; exact off_new hown', fun S hS => ?_⟩
    · rw [← Hn.out]
      refine Rd.of_own (by rw [← Hn.out]; exact hown') (by rw [← Hn.out]; omega) fun j x hx => ⟨x.cells, rfl, refs_cells xs j x hx⟩
    · exact Ext.grown (by exact (by repeat (first | exact Ext.refl _ | assumption | refine Ext.alloc ?_ _ | refine Ext.drew ?_ | refine Ext.drewN ?_ _ | refine Ext.setCell ?_ (by first | omega | (simp; done) | (simp; omega)) _ | refine Ext.trans ?_ (by assumption)))) hgrow (by intro k hk; simp [Value.ownBlock] at hk; omega)
    · rw [← Hn.out]; exact Off.own hown' hS
end Go.Proofs.YthadldnojdjlnaaGreatDoor

/-! Open -/
namespace Go.Proofs.YthadldnojdjlnaaGreatDoor
open Go Go.RowKit Go.Shelf Go.Proofs Go.Maps

theorem step_put {H : Type} {P : Program} {w : World} {ops : Array Oper} {o : Oper} {a : Act} {K : Act → World → Prop} {Q : Exit → Act → World → Prop} {E : Prop} (hgd : o.guard = none) (m x v : Operand) (t : TypeId) (hop : o.op = Op.mapUpdate t m x v)
    (k e : TypeId) (KK : Keyed P k) (ht : P.underlying t = some (.map k e)) (R : Value → Option (DataW H × List MemPlace)) (b n : Nat) (D : DataW H)
    (hm : a.eval m = .map (some b)) (hown : w.ownsMap P k R b n D) (hn : n < maxLen) (key val : Value) (kl : Lit) (hx : a.eval x = key) (hv : a.eval v = val) (hkey : keyOf P k key = some kl)
    (d : DataW H) (ps : List MemPlace) (hval : R val = some (d, ps))
    (hK : ∀ w', w'.ownsMap P k R b (n + 1) (D.put kl d) → w.mapTurned w' b → K (a.put o.dst undef) w') :
    if Region.wanted o (yielded ops a.tmps) = true then Oper.wp P o a w K Q else E := by
  have hw : Region.wanted o (yielded ops a.tmps) = true := by simp [Region.wanted, hgd]
  rw [if_pos hw]
  obtain ⟨w', hrun, r1, r2⟩ := hown.store KK ht hn hkey hval
  unfold Oper.wp
  simp [execOp, hop, hm, hx, hv, hrun, Result.andThen]
  exact hK w' r1 r2

theorem own_but {H : Type} {P : Program} {k : TypeId} {R : Value → Option (DataW H × List MemPlace)} {w w' : World} {b n : Nat} {D : DataW H} {S : Nat → Prop} (h : w.ownsMap P k R b n D) (hb : But S w w') (hs : ¬ S b) : w'.ownsMap P k R b n D := by
  have hlt := h.lt
  obtain ⟨es, clock, hh, r⟩ := h
  exact ⟨es, clock, (hb.block b hlt hs).trans hh, r⟩

theorem tabH_put (l : LH) (k : Int) (d : ByteArray) (r : Value) (h : ∀ x ∈ l, x.1 < k) : (TabH l).put (.int .i64 k) (.held (.agg #[.string d, r])) = TabH (l ++ [(k, d, r)]) := by
  rw [TabH, tab_put, TabH, List.map_append]
  · rfl
  · intro x hx
    obtain ⟨y, hy, rfl⟩ := List.mem_map.1 hx
    exact h y hy

/-- What Open answers. -/
def OpenBad (c : Int) (w : World) (e : Ending) (w' : World) : Prop := ∃ a, e = .returned (.tuple #[.int .i64 0, .iface 86 (.pointer (some ⟨a, 0, none⟩))]) ∧ ErrN w' 1 (.iface 86 (.pointer (some ⟨a, 0, none⟩))) c ∧ Ext w w'
def OpenOk (tb bm n : Nat) (last : Int) (l : LH) (d : ByteArray) (xs : List Ref) (w : World) (e : Ending) (w' : World) : Prop :=
  ∃ A c, e = .returned (.tuple #[.int .i64 (last + 1), .nilIface]) ∧ PT w' tb bm (n + 1) (last + 1) (l ++ [(last + 1, d, .slice A xs.length c)]) ∧ RdR w' (.slice A xs.length c) xs ∧ (∀ S : Nat → Prop, (∀ k, S k → k < w.heap.size) → Off S (.slice A xs.length c)) ∧ (A = none → c = 0) ∧ Off (fun k => w'.heap.size ≤ k) (.slice A xs.length c) ∧ But (Two tb bm) w w'

set_option maxHeartbeats 4000000 in
theorem open_bad (tb : Nat) (v r : Value) (s : List (List Ent)) (p : ByteArray) (c : Int) (w : World) (hv : RdK w v s) (hp : p.size ≤ 140737488355328) (hs : lookE s p = .error c) :
    Calls Tryz.prog 12 #[.pointer (some ⟨tb, 0, none⟩), v, r, .string p] w (OpenBad c w) := by
  have HA := LAt_any v s p w hv hp
  rw [hs] at HA
  clear hv hs
  go_enter Tryz.func12, Tryz.ntmps12
  go_wp2_with (go_at_call 21; refine HA.mono ?_; rintro e W1 ⟨u, rfl, hEr, hE1⟩; obtain ⟨a5, rfl⟩ := ErrN_one hEr)
  go_ret2
  exact ⟨_, rfl, hEr.below ((Ext.refl W1).alloc _).below, (by repeat (first | exact Ext.refl _ | assumption | refine Ext.alloc ?_ _ | refine Ext.drew ?_ | refine Ext.drewN ?_ _ | refine Ext.setCell ?_ (by first | omega | (simp; done) | (simp; omega)) _ | refine Ext.trans ?_ (by assumption)))⟩

set_option maxHeartbeats 4000000 in
theorem open_dir (tb : Nat) (v r : Value) (s : List (List Ent)) (p : ByteArray) (x : Ent × Nat) (w : World) (hv : RdK w v s) (hp : p.size ≤ 140737488355328) (hs : lookE s p = .ok x) (hk : x.1.kind = 2) :
    Calls Tryz.prog 12 #[.pointer (some ⟨tb, 0, none⟩), v, r, .string p] w (OpenBad 5 w) := by
  have HA := LAt_any v s p w hv hp
  rw [hs] at HA
  clear hv hs
  go_enter Tryz.func12, Tryz.ntmps12
  go_wp2_with (first | (go_at_call 21; refine HA.mono ?_; rintro e W1 ⟨rfl, hE1⟩) | (go_at_call 19; refine (fail_At_c _ _ _ _).mono ?_; rintro e W3 ⟨⟨a5, rfl, hEr⟩, hE3⟩))
  go_ret2
  exact ⟨_, rfl, hEr, Ext.trans (by exact (by repeat (first | exact Ext.refl _ | assumption | refine Ext.alloc ?_ _ | refine Ext.drew ?_ | refine Ext.drewN ?_ _ | refine Ext.setCell ?_ (by first | omega | (simp; done) | (simp; omega)) _ | refine Ext.trans ?_ (by assumption)))) hE3⟩

set_option maxHeartbeats 8000000 in
set_option maxRecDepth 20000 in
theorem open_yes (tb bm n : Nat) (last : Int) (l : LH) (v r : Value) (s : List (List Ent)) (p : ByteArray) (x : Ent × Nat) (xs : List Ref) (w : World) (hv : RdK w v s) (hp : p.size ≤ 140737488355328) (hs : lookE s p = .ok x) (hk : x.1.kind ≠ 2)
    (ht : PT w tb bm n last l) (hr : RdR w r xs) (hro : Off (Two tb bm) r) (hxs : xs.length ≤ 5000000000000) (hlast : 0 ≤ last) (hlast' : last ≤ 4611686018427387904) (hn : n < 4611686018427387904) (hl : ∀ y ∈ l, y.1 < last + 1) :
    Calls Tryz.prog 12 #[.pointer (some ⟨tb, 0, none⟩), v, r, .string p] w (OpenOk tb bm n last l x.1.data xs w) := by
  have HA := LAt_any v s p w hv hp
  rw [hs] at HA
  obtain ⟨x, fl⟩ := x
  have HA : Calls Tryz.prog 21 #[v, .string p] w (AtOk (x, fl) w) := HA
  have Ht := Lib.hid ht
  have Hr := Lib.hid hr
  have Hro := Lib.hid hro
  have Hl := Lib.hid hl
  have hk2 : (x.kind == 2) = false := by simpa using hk
  clear hv hs ht hr hro hl
  go_enter Tryz.func12, Tryz.ntmps12
  go_upto_region 4 with (go_at_call 21; refine HA.mono ?_; rintro e W1 ⟨rfl, hE1⟩)
  have hX := Blk.new W1 69 #[.string x.path, .int .i64 x.kind, .string x.data, .int .i64 fl]
  have hE2 := hE1.alloc (.cells #[.string x.path, .int .i64 x.kind, .string x.data, .int .i64 fl] 69)
  have ht2 := Ht.out.ext hE2
  have hxb : W1.heap.size ≠ bm := by have := (Ht.out.ext hE1).own.lt; omega
  have hxt : W1.heap.size ≠ tb := by have := (Ht.out.ext hE1).box.lt; omega
  obtain ⟨xb, hx⟩ : ∃ xb, W1.heap.size = xb := ⟨_, rfl⟩
  rw [hx] at hX hxb hxt ⊢
  clear hx
  generalize W1.alloc (.cells #[.string x.path, .int .i64 x.kind, .string x.data, .int .i64 fl] 69) = W2 at hX hE2 ht2 ⊢
  obtain ⟨⟨t0, f0⟩, ⟨t1, f1⟩⟩ := ht2.box.two
  obtain ⟨⟨x0, _⟩, ⟨x1, _⟩, ⟨x2, _⟩, ⟨x3, _⟩⟩ := hX.four
  have hadd : IntKind.i64.wrap (last + 1) = last + 1 := IntWalk.i64_in _ ⟨by omega, by omega⟩
  go_upto_region 9 with (fail)
  have hB3 : But (Two tb bm) W2 (W2.setCell ⟨tb, 1, none⟩ (.int .i64 (last + 1))) := (But.refl (Two tb bm) W2).setCell (p := ⟨tb, 1, none⟩) (.inl rfl) _
  have hB3' : But (fun k => k = tb) W2 (W2.setCell ⟨tb, 1, none⟩ (.int .i64 (last + 1))) := (But.refl (fun k => k = tb) W2).setCell (p := ⟨tb, 1, none⟩) rfl _
  have hbox3 : Blk (W2.setCell ⟨tb, 1, none⟩ (.int .i64 (last + 1))) tb 59 #[.map (some bm), .int .i64 (last + 1)] := ht2.box.set 1 _
  have hown3 : (W2.setCell ⟨tb, 1, none⟩ (.int .i64 (last + 1))).ownsMap Tryz.prog 3 RH bm n (TabH l) := ht2.own.setCell (Ne.symm ht2.ne) _
  have hX3 := hX.but hB3' hxt
  have hne := ht2.ne
  clear t0 t1 x0 x1 x2 x3 f0 f1
  generalize W2.setCell ⟨tb, 1, none⟩ (.int .i64 (last + 1)) = W3 at hB3 hbox3 hown3 hX3 ⊢
  have HC := fun w' h => Clone_any r xs w' h hxs
  have t0 := hbox3.cell 0 rfl
  have t1 := hbox3.cell 1 rfl
  have x2 := hX3.cell 2 rfl
  have hr3 : RdR W3 r xs := Rd.but (fun _ _ _ _ h => h) (Rd.but (fun _ _ _ _ h => h) Hr.out (But.of_ext hE2) Hro.out) hB3 Hro.out
  have Hr3 := Lib.hid hr3
  clear hr3
  have hwf : (Lit.int .i64 (last + 1)).wf = true := WalkArith.wf_i64 ⟨by omega, by omega⟩
  go_cut [49] (fun _ wx => ∃ A c, PT wx tb bm (n + 1) (last + 1) (l ++ [(last + 1, x.data, .slice A xs.length c)]) ∧ RdR wx (.slice A xs.length c) xs ∧ (∀ S : Nat → Prop, (∀ k, S k → k < w.heap.size) → Off S (.slice A xs.length c)) ∧ (A = none → c = 0) ∧ Off (fun k => wx.heap.size ≤ k) (.slice A xs.length c) ∧ But (Two tb bm) W3 wx)
  case first =>
    go_region_held3 (fun w' => w'.cell? ⟨tb, 0, none⟩ = some (.map (some bm)) ∧ w'.cell? ⟨tb, 1, none⟩ = some (.int .i64 (last + 1)) ∧ w'.cell? ⟨xb, 2, none⟩ = some (.string x.data))
      (first | go_keep | exact ⟨hE7.cell t0, hE7.cell t1, hE7.cell x2⟩ | exact ⟨hb9.cell 0 rfl, hb9.cell 1 rfl, hX9.cell 2 rfl⟩)
      (first
        | (go_at_call 22; refine (HC _ (Rd.but (S := fun _ => False) (fun _ _ _ _ h => h) Hr3.out (But.of_ext (by exact (by repeat (first | exact Ext.refl _ | assumption | refine Ext.alloc ?_ _ | refine Ext.drew ?_ | refine Ext.drewN ?_ _ | refine Ext.setCell ?_ (by first | omega | (simp; done) | (simp; omega)) _ | refine Ext.trans ?_ (by assumption))))) (fun _ _ _ _ _ h => h))).mono ?_; rintro e W7 ⟨A7, c7, rfl, hRd7, hE7', hnil7, hnew7, hOff7⟩; have hE7 : Ext W3 W7 := Ext.trans (by exact (by repeat (first | exact Ext.refl _ | assumption | refine Ext.alloc ?_ _ | refine Ext.drew ?_ | refine Ext.drewN ?_ _ | refine Ext.setCell ?_ (by first | omega | (simp; done) | (simp; omega)) _ | refine Ext.trans ?_ (by assumption)))) hE7'; have hown7 := own_but (S := fun _ => False) hown3 (But.of_ext hE7) (fun h => h); obtain ⟨W9, hrun9, hown9, hturn9⟩ := hown7.store (e := 61) (t := 57) law_int Tryz.underlying57 (by unfold maxLen; omega) (key := .int .i64 (last + 1)) (val := .agg #[.string x.data, .slice A7 xs.length c7]) (keyOf_int_mk Tryz.underlying3 hwf) (d := .held (.agg #[.string x.data, .slice A7 xs.length c7])) (ps := []) rfl; have hg9 : But (fun k => k = bm) W7 W9 := (But.refl _ W7).grown hturn9.grown (by intro k hk; cases hk; exact .inl rfl); have hb9 := (hbox3.ext hE7).but hg9 hne; have hX9 := (hX3.ext hE7).but hg9 hxb))
    go_wp2
    go_meet
    refine ⟨A7, c7, ⟨hb9, ?_, hne⟩, Rd.but (fun _ _ _ _ h => h) hRd7 hg9 (fun b o n' c' e hb => hOff7 (fun k => k = bm) (fun k hk => by rw [hk]; exact Nat.lt_of_lt_of_le hown3.lt (by simp)) b o n' c' e hb), fun S hS => hOff7 S (fun k hk => Nat.lt_of_lt_of_le (hS k hk) (Nat.le_trans (Nat.le_trans hE2.size hB3.size) (by simp))), hnil7, fun b o n' c' e hb => hnew7 b o n' c' e (Nat.le_trans hg9.size hb), ((But.of_ext hE7).trans (hg9.mono fun k _ hk => .inr hk))⟩
    · rw [← tabH_put _ _ _ _ Hl.out]
      exact hown9
  case rest =>
    obtain ⟨A, c, hPT, hRd, hOff, hnil, hnew, hB⟩ := hcut
    have t1' := hPT.box.cell 1 rfl
    have HPT := Lib.hid hPT
    clear t0 t1 x2 hPT
    go_wp2
    go_ret2
    exact ⟨A, c, rfl, HPT.out, hRd, hOff, hnil, hnew, ((But.of_ext hE2).trans hB3).trans hB⟩
end Go.Proofs.YthadldnojdjlnaaGreatDoor

/-! Refs -/
namespace Go.Proofs.YthadldnojdjlnaaGreatDoor
open Go Go.RowKit Go.Shelf Go.Proofs Go.Maps Go.Sort

/-- slices.Sort's two contracts at this dump. -/
theorem sorts_in (m : Nat) : AnyZI.SortsIn Tryz.prog Tryz.sortedA_ren Fence.wide m :=
  ⟨fun blk off cap ss W hH hblk hsz => callsIn_wide.2 (Any.slices_Sort_int Tryz.lays189 blk off cap ss W hH hblk hsz),
   fun p cap W => callsIn_wide.2 (Any.slices_Sort_int_none Tryz.lays189 p cap W)⟩

theorem keys_tab (l : LH) : intKeys (TabH l) = l.map (·.1) := by
  simp [intKeys, TabH, Tab, Go.intOf]

theorem sorted_keys {l : List Int} {ss : List Int} (hl : l.Pairwise (· < ·)) (hp : ss.Perm l) : ss.mergeSort (fun x y => decide (x ≤ y)) = l := by
  refine List.Perm.eq_of_pairwise (le := fun a b : Int => a ≤ b) (fun a b _ _ h1 h2 => by omega) ?_ (hl.imp fun h => by omega) ((List.mergeSort_perm ss _).trans hp)
  have := List.pairwise_mergeSort (le := fun x y : Int => decide (x ≤ y)) (fun a b c h1 h2 => by simp at *; omega) (fun a b => by simp; omega) ss
  exact this.imp fun h => by simpa using h

/-- What slices.Sorted answers of the keys of a table: at the world in which the map's box has been laid. -/
def SortAns (l : LH) (w : World) (e : Ending) (w' : World) : Prop := ∃ v, e = .returned v ∧ w'.ownsRow w.heap.size 3 1 v l.length ((l.map (·.1)).map (Value.int .i64)) ∧ Ext w w'

theorem sorted_any (bm n : Nat) (l : LH) (w : World) (hown : w.ownsMap Tryz.prog 3 RH bm n (TabH l)) (hl : (l.map (·.1)).Pairwise (· < ·)) (hlen : l.length ≤ 1000000000) :
    Calls Tryz.prog 29 #[.func (.func 46) #[] #[.pointer (some ⟨w.heap.size, 0, none⟩)]] (w.alloc (.cells #[.map (some bm)] 57)) (SortAns l (w.alloc (.cells #[.map (some bm)] 57))) := by
  refine (callsIn_wide (n := 5)).1 ?_
  have hbl := hown.lt
  have hsz : Maps.size (TabH l) = l.length := by rw [TabH, tab_size, List.length_map]
  have hseq : SeqGives Fence.wide 2 Tryz.prog 46 #[.pointer (some ⟨w.heap.size, 0, none⟩)] encZ (fun ss => ss.Perm (intKeys (TabH l))) (Maps.size (TabH l)) (w.alloc (.cells #[.map (some bm)] 57)) :=
    AnyZI.keys_gives (ρ := Tryz.keysA_ren) { Tryz.keysA with } Fence.wide _ trivial rfl (by omega) w.heap.size bm n (TabH l) _ (by simp) (by simp) (own_but hown (.of_ext (S := fun _ => False) ((Ext.refl w).alloc _)) (fun h => h))
  have cS := AnyZI.sorted_in Tryz.sortedA Fence.wide 5 trivial trivial trivial trivial rfl (by omega) (sorts_in _) (enters_of Tryz.func45 (by kernel_rfl) rfl) 46 #[.pointer (some ⟨w.heap.size, 0, none⟩)] trivial (enters_of Tryz.func46 (by kernel_rfl) rfl) _ _ (by rw [hsz]; unfold maxLen; omega) (by rw [hsz]; omega) _ hseq
  change CallsIn _ _ Tryz.prog 29 _ _ _ at cS
  refine cS.mono ?_
  rintro e w' ⟨v, ss, rfl, hS, hrow, _, hb⟩
  rw [keys_tab] at hS
  have hll : ss.length = l.length := by rw [hS.length_eq, List.length_map]
  refine ⟨v, rfl, ?_, hb⟩
  rw [sorted_keys hl hS, hll] at hrow
  exact hrow

/-- The handles' slices read as lists of texts. -/
def RefsIn (w : World) (l : LH) (xss : List (List Ref)) : Prop :=
  xss.length = l.length ∧ ∀ (i : Nat) (h : i < l.length) (h' : i < xss.length), ∃ A c, (l[i]).2.2 = .slice A (xss[i]).length c ∧ RdR w (.slice A (xss[i]).length c) (xss[i]) ∧ (A = none → c = 0)

theorem rdR_news {w : World} {ad : Addr} {n c : Nat} {xs : List Ref} (h : RdR w (.slice (some ad) n c) xs) : ∀ (j : Nat) u, (xs.flatMap Ref.cells)[j]? = some u → w.cell? (ad.add j) = some u := by
  intro j u hj
  obtain ⟨A, c', e, _, _, _, hne⟩ := h
  cases e
  obtain ⟨j', x, i, hx, hxi, rfl⟩ := refs_at xs j u hj
  obtain ⟨b, o, e, hc⟩ := hne (by rintro rfl; simp at hx)
  cases e
  obtain ⟨cs, rfl, hu⟩ := hc j' x hx
  have := hu i u hxi
  rw [Addr.add_lit, ← Nat.add_assoc]
  exact this

theorem find_at {l : LH} (hl : (l.map (·.1)).Pairwise (· < ·)) {k : Nat} (hk : k < l.length) : findH l (l[k]).1 = some (l[k]).2 := by
  rw [findH]
  have : l.find? (fun x => decide (x.1 = (l[k]).1)) = some l[k] := by
    rw [List.find?_eq_some_iff_getElem]
    refine ⟨by simp, k, hk, rfl, fun j hj => ?_⟩
    have := List.pairwise_iff_getElem.1 hl j k (by simp; omega) (by simpa using hk) hj
    simp at this ⊢
    omega
  rw [this]
  rfl

theorem lookH1 {ops : Array Oper} {rest : List Oper} {o : Oper} {a : Act} {Q : Exit → Act → World → Prop} (w : World) (hg : o.guard = none) (m x : Operand) (hop : o.op = Op.lookup 57 m x false)
    (bm n : Nat) (l : LH) (hm : a.eval m = .map (some bm)) (hown : w.ownsMap Tryz.prog 3 RH bm n (TabH l)) (id : Int) (hx : a.eval x = .int .i64 id) (hw : (Lit.int .i64 id).wf = true)
    (v : Value) (hv : heldV (findH l id) = v) (hK : wpList Tryz.prog ops Q rest (a.put o.dst v) w) : wpList Tryz.prog ops Q (o :: rest) a w := by
  refine wpList_plain hg fun K' hK' => ?_
  obtain ⟨u, ps, hrun, hu⟩ := hown.lookup (t := 57) (e := 61) law_int Tryz.underlying57 (zero_handle w) (zd := .held (heldV none)) (zp := []) rfl (key := .int .i64 id) (keyOf_int_mk Tryz.underlying3 hw)
  rw [tabH_at, hv] at hu
  have hu2 : u = v := by
    simp [RH] at hu
    exact hu.1
  subst hu2
  unfold Oper.wp
  simp [execOp, hop, hm, hx, hrun, Result.andThen]
  exact hK' _ _ hK

theorem field_refs (d : ByteArray) (A : Option Addr) (n c : Nat) (w : World) : (Instr.field 61 (.agg #[.string d, .slice A n c]) 1).run Tryz.prog w = .ok (.slice A n c) w := by kernel_rfl

/-- What has been laid behind k handles. -/
def got (xss : List (List Ref)) (k : Nat) : List Ref := (xss.take k).flatten
theorem got_succ {xss : List (List Ref)} {k : Nat} (h : k < xss.length) : got xss (k + 1) = got xss k ++ xss[k] := by
  rw [got, got, ← List.take_append_getElem h, List.flatten_append]
  simp
theorem got_len (xss : List (List Ref)) (k : Nat) : (got xss k).length ≤ xss.flatten.length := by
  have : xss.flatten = got xss k ++ (xss.drop k).flatten := by rw [got, ← List.flatten_append, List.take_append_drop]
  rw [this, List.length_append]
  omega

def RefsRel (W5 : World) (xss : List (List Ref)) (n : Nat) (out i : Value) (wr : World) : Prop :=
  ∃ k : Nat, i = .int .i64 k ∧ k ≤ n ∧ wr.ownsRow W5.heap.size 44 3 out (got xss k).length ((got xss k).flatMap Ref.cells) ∧ Ext W5 wr

def RI (_ : World) (x : Int) (cs : List Value) : Prop := cs = [.int .i64 x]
theorem rdI_own {w : World} {base e : Nat} {v : Value} {xs : List Int} (h : w.ownsRow base e 1 v xs.length (xs.map (Value.int .i64))) (hl : xs.length ≤ 140737488355328) : Rd RI 1 w v xs :=
  Rd.of_own h hl fun j x hj => ⟨[.int .i64 x], rfl, fun i u hi => by
    rcases i with _ | i
    · simp at hi
      subst hi
      simp [hj]
    · simp at hi⟩

/-- What Refs answers. -/
def RefsAns (xs : List Ref) (w : World) (e : Ending) (w' : World) : Prop := ∃ v, e = .returned v ∧ RdR w' v xs ∧ Ext w w'

theorem refs_round {W5 : World} {xss : List (List Ref)} {n k : Nat} {out : Value} {wr : World} {xs : List Ref} (hlt : k < n) (Hgot : Hid (got xss (k + 1) = got xss k ++ xs))
    (hrow : wr.ownsRow W5.heap.size 44 3 out ((got xss k).length + xs.length) ((got xss k).flatMap Ref.cells ++ xs.flatMap Ref.cells)) (hE : Ext W5 wr) :
    RefsRel W5 xss n out (.int .i64 ((k : Int) + 1)) wr ∧ n - (intOf (.int .i64 ((k : Int) + 1))).toNat < n - (intOf (.int .i64 (k : Int))).toNat := by
  refine ⟨⟨k + 1, by simp, by omega, ?_, hE⟩, by simp [intOf]; omega⟩
  rw [Hgot.out, List.length_append, List.flatMap_append]
  exact hrow

set_option maxHeartbeats 8000000 in
set_option maxRecDepth 20000 in
theorem Refs_any (tb bm n : Nat) (last : Int) (l : LH) (xss : List (List Ref)) (w : World) (ht : PT w tb bm n last l) (hl : (l.map (·.1)).Pairwise (· < ·)) (hlen : l.length ≤ 1000000000) (hwf : ∀ y ∈ l, (Lit.int .i64 y.1).wf = true)
    (hx : RefsIn w l xss) (htot : xss.flatten.length ≤ 1000000000) :
    Calls Tryz.prog 15 #[.pointer (some ⟨tb, 0, none⟩)] w (RefsAns xss.flatten w) := by
  have hS := sorted_any bm n l w ht.own hl hlen
  have hK : ∀ mb W, Calls Tryz.prog 30 #[.map mb] W fun e w' => e = .returned (.func (.func 46) #[] #[.pointer (some ⟨W.heap.size, 0, none⟩)]) ∧ w' = W.alloc (.cells #[.map mb] 57) :=
    fun mb W => (callsIn_wide (n := 5)).1 (AnyZI.keys_in Tryz.keysA Fence.wide 5 trivial rfl mb W)
  have t0 := ht.box.cell 0 rfl
  have Ht := Lib.hid ht
  have Hl := Lib.hid hl
  have Hwf := Lib.hid hwf
  have Hx := Lib.hid hx
  have Htot := Lib.hid htot
  have Hlen := Lib.hid hlen
  clear ht hl hwf hx htot hlen
  go_enter Tryz.func15, Tryz.ntmps15
  go_upto_region 5 with (first | (go_at_call 30; ((with_reducible refine (hK _ _).mono ?_)); rintro e W1 ⟨rfl, rfl⟩) | (go_at_call 29; ((with_reducible refine hS.mono ?_)); rintro e W5 ⟨v, rfl, hrow, hE5⟩; obtain ⟨A, c, rfl⟩ := own_form hrow))
  have hI : Rd RI 1 W5 (.slice A l.length c) (l.map (·.1)) := rdI_own (by rw [List.length_map]; exact hrow) (by rw [List.length_map]; have := Hlen.out; omega)
  have HI := Lib.hid hI
  clear hrow hI
  have hE50 : Ext w W5 := Ext.trans (by exact (by repeat (first | exact Ext.refl _ | assumption | refine Ext.alloc ?_ _ | refine Ext.drew ?_ | refine Ext.drewN ?_ _ | refine Ext.setCell ?_ (by first | omega | (simp; done) | (simp; omega)) _ | refine Ext.trans ?_ (by assumption)))) hE5
  go_loopw [3, 15] (fun out i wr => RefsRel W5 xss l.length out i wr) (fun _ i _ => l.length - (intOf i).toNat)
  case atStart => exact ⟨0, rfl, Nat.zero_le _, by simp [got, World.ownsRow], Ext.refl _⟩
  case round =>
    obtain ⟨k, rfl, hkn, hrow, hE⟩ := hrel
    by_cases hlt : k < l.length
    · have hlt' : (k : Int) < (l.length : Int) := by omega
      have hkx : k < xss.length := by have := Hx.out.1; omega
      obtain ⟨b, o, c5, e5, hc5, hc6, hcell⟩ := Rd.open_ HI.out (List.ne_nil_of_length_pos (by rw [List.length_map]; omega))
      rw [List.length_map] at e5 hc5
      obtain ⟨rfl, _, rfl⟩ := Value.slice.inj e5
      clear e5
      obtain ⟨cs, rfl, hu⟩ := hcell k (l[k]).1 (by simp [List.getElem?_eq_getElem hlt])
      have g0 := hE.cell (hu 0 _ rfl)
      rw [Nat.mul_one, Nat.add_zero] at g0
      have ht := Ht.out.ext (hE50.trans hE)
      have t1 := ht.box.cell 0 rfl
      obtain ⟨A', c', er, hrd, hnil⟩ := Hx.out.2 k hlt hkx
      have hfind := find_at Hl.out hlt
      have hkwf := Hwf.out _ (List.getElem_mem hlt)
      have hheld : heldV (findH l (l[k]).1) = .agg #[.string (l[k]).2.1, .slice A' (xss[k]).length c'] := by rw [hfind, heldV, er]
      have Hown := Lib.hid ht.own
      have hrd' := Rd.ext (fun _ _ _ _ _ h => h) hrd (hE50.trans hE)
      have hlen' := Rd.len hrd
      have Hgot := Lib.hid (got_succ hkx)
      have Hle := Lib.hid (got_len xss (k + 1))
      have Hrow := Lib.hid hrow
      have Hrd := Lib.hid hrd'
      obtain ⟨key, hkey⟩ : ∃ key, (l[k]).1 = key := ⟨_, rfl⟩
      obtain ⟨dd, hdd⟩ : ∃ dd, (l[k]).2.1 = dd := ⟨_, rfl⟩
      obtain ⟨xs, hxs⟩ : ∃ xs, xss[k] = xs := ⟨_, rfl⟩
      rw [hkey, hdd, hxs] at hheld
      rw [hkey] at hkwf
      have Hheld := Lib.hid hheld
      rw [hkey] at g0
      rw [hxs] at Hrd Hgot hlen'
      clear hheld hfind hrd hrd' hrow hcell hu er ht hkey hdd hxs
      rcases A' with _ | ad
      · have hc0 := hnil rfl
        subst hc0
        have hx0 : xs = [] := by
          obtain ⟨_, _, _, _, _, _, h⟩ := Hrd.out
          exact Classical.byContradiction fun e => by obtain ⟨b, o, h', _⟩ := h e; simp_all
        subst hx0
        have Hheld := Lib.hid (by simpa using Hheld.out : heldV (findH l key) = .agg #[.string dd, .slice none 0 0])
        have hfd := field_refs dd
        go_wp2_with (first | (at_lookup; refine lookH1 _ rfl _ _ rfl bm n l rfl Hown.out key rfl hkwf _ Hheld.out ?_) | (at_builtin; refine wpList_append_own_none rfl _ _ 38 rfl W5.heap.size 44 _ 3 Tryz.underlying38 (info_parts info_ref).choose_spec.1 _ _ _ rfl Hrow.out rfl ?_))
        exact refs_round hlt Hgot (by simpa using Hrow.out) hE
      · obtain ⟨i0, hi, hz0, hz1, hz2⟩ := info_parts info_ref
        have hnews := rdR_news Hrd.out
        have Hnews := Lib.hid hnews
        have hones := Lib.hid (refs_one xs)
        have hsz := Htot.out
        have hsz2 := Hle.out
        rw [Hgot.out, List.length_append] at hsz2
        clear hnews
        have hfd := field_refs dd
        go_wp2_with (first | (at_lookup; refine lookH1 _ rfl _ _ rfl bm n l rfl Hown.out key rfl hkwf _ Hheld.out ?_) | (at_builtin; refine wpList_append_own _ rfl _ _ 38 rfl W5.heap.size 44 i0 (.agg #[.int .i64 0, .int .i64 0, .int .u32 0]) 3 24 Tryz.underlying38 hi hz0 hz1 hz2 rfl (by decide) _ _ _ rfl Hrow.out ad xs.length c' (xs.flatMap Ref.cells) rfl (refs_length xs) Hnews.out hones.out (by unfold maxLen; omega) (by omega) hE.size ?_; intro v' w1 hown hgrow hnil'))
        exact refs_round hlt Hgot hown (hE.grown hgrow (fun j hj => (Hrow.out.lt j hj).1))
    · have hlt' : ¬ (k : Int) < (l.length : Int) := by omega
      have hk : k = l.length := by omega
      have hfin : got xss k = xss.flatten := by rw [got, List.take_of_length_le (by have := Hx.out.1; omega)]
      rw [hfin] at hrow
      have Hrow := Lib.hid hrow
      have hE2 := hE50.trans hE
      clear hrow
      go_wp2
      go_ret
      exact ⟨_, rfl, Rd.of_own Hrow.out (by have := Htot.out; omega) fun j x hx => ⟨x.cells, rfl, refs_cells _ j x hx⟩, hE2⟩
end Go.Proofs.YthadldnojdjlnaaGreatDoor

/-! PlaysR -/
namespace Go.Proofs.YthadldnojdjlnaaGreatDoor
open Go Go.RowKit Go.Shelf Go.Proofs Go.Maps

/-- A handle's texts. -/
def refsOf (n : Int) : List Ref := [⟨n, 1, n⟩, ⟨n, 2, 0⟩]
def refsC (n : Int) : Array Value := #[.int .i64 n, .int .i64 1, .int .u32 n, .int .i64 n, .int .i64 2, .int .u32 0]

set_option maxHeartbeats 2000000 in
theorem refs22_any (n : Int) (w : World) (h0 : 0 ≤ n) (h1 : n ≤ 1000000) :
    Calls Tryz.prog 11 #[.int .i64 n] w fun e w' => ∃ b, e = .returned (.slice (some ⟨b, 0, none⟩) 2 2) ∧ Blk w' b 44 (refsC n) ∧ w.heap.size ≤ b ∧ Ext w w' := by
  have hw : IntKind.u32.wrap n = n := by rw [IntKind.wrap_u32]; omega
  go_enter Tryz.func11, Tryz.ntmps11
  go_wp2
  go_ret
  refine ⟨_, rfl, ?_, Nat.le_refl _, by exact (by repeat (first | exact Ext.refl _ | assumption | refine Ext.alloc ?_ _ | refine Ext.drew ?_ | refine Ext.drewN ?_ _ | refine Ext.setCell ?_ (by first | omega | (simp; done) | (simp; omega)) _ | refine Ext.trans ?_ (by assumption)))⟩
  exact (Blk.new w 44 (refsC n)).ext (by exact (by repeat (first | exact Ext.refl _ | assumption | refine Ext.alloc ?_ _ | refine Ext.drew ?_ | refine Ext.drewN ?_ _ | refine Ext.setCell ?_ (by first | omega | (simp; done) | (simp; omega)) _ | refine Ext.trans ?_ (by assumption))))

theorem part_step (d : ByteArray) (i k : Nat) {j : Nat} (hj : j < d.size) :
    (j < i ∨ k ≤ j - i → B (((d.data.toList.take (j + 1)).drop i).take k) = B (((d.data.toList.take j).drop i).take k)) ∧
    (i ≤ j → j - i < k → B (((d.data.toList.take (j + 1)).drop i).take k) = B (((d.data.toList.take j).drop i).take k) ++ d.extract j (j + 1)) := by
  have hl : d.data.toList.length = d.size := Array.length_toList
  have e : d.data.toList.take (j + 1) = d.data.toList.take j ++ [d.data.toList[j]'(by omega)] := (List.take_append_getElem (by omega)).symm
  have lj : (d.data.toList.take j).length = j := by rw [List.length_take]; omega
  constructor
  · rintro (h | h)
    · rw [e, List.drop_eq_nil_of_le (by rw [List.length_append, lj]; simp; omega), List.drop_eq_nil_of_le (by rw [lj]; omega)]
    · rcases Nat.lt_or_ge j i with h2 | h2
      · rw [e, List.drop_eq_nil_of_le (by rw [List.length_append, lj]; simp; omega), List.drop_eq_nil_of_le (by rw [lj]; omega)]
      · rw [e, List.drop_append_of_le_length (by rw [lj]; exact h2), List.take_append_of_le_length (by rw [List.length_drop, lj]; exact h)]
  · intro h h2
    have hq : ((d.data.toList.take j).drop i).length = j - i := by rw [List.length_drop, lj]
    rw [e, List.drop_append_of_le_length (by rw [lj]; exact h)]
    generalize (d.data.toList.take j).drop i = q at hq ⊢
    rw [List.take_of_length_le (by rw [List.length_append, hq]; simp; omega), List.take_of_length_le (by omega)]
    apply data_inj
    have h3 : (d.extract j (j + 1)).data.toList = [d.data.toList[j]'(by omega)] := by
      rw [Lib.extract_data, Nat.add_sub_cancel_left, List.drop_eq_getElem_cons (by omega)]
      simp
    rw [ByteArray.data_append, Array.toList_append, h3]
    simp [B]

def PtRel (d : ByteArray) (i k : Nat) (w : World) (v7 v8 : Value) (wr : World) : Prop :=
  ∃ j : Nat, v8 = .int .i64 j ∧ j ≤ d.size ∧ v7 = .string (B (((d.data.toList.take j).drop i).take k)) ∧ Ext w wr

theorem pt_next {d : ByteArray} {i k j : Nat} {w W : World} {x : ByteArray} (hj : j < d.size) (hx : B (((d.data.toList.take (j + 1)).drop i).take k) = x) (hE : Ext w W) :
    PtRel d i k w (.string x) (.int .i64 ((j : Int) + 1)) W ∧ d.size - (intOf (.int .i64 ((j : Int) + 1))).toNat < d.size - (intOf (.int .i64 (j : Int))).toNat :=
  ⟨⟨j + 1, by simp, hj, by rw [hx], hE⟩, by simp [intOf]; omega⟩

set_option maxHeartbeats 4000000 in
theorem part22_any (d : ByteArray) (i k : Nat) (w : World) (hd : d.size ≤ 140737488355328) (hi : i ≤ 9223372036854775807) (hk : k ≤ 9223372036854775807) :
    Calls Tryz.prog 9 #[.string d, .int .i64 i, .int .i64 k] w fun e w' => e = .returned (.string (part d i k)) ∧ Ext w w' := by
  go_enter Tryz.func9, Tryz.ntmps9
  go_wp2
  go_loopw [7, 8] (fun v7 v8 wr => PtRel d i k w v7 v8 wr) (fun _ v8 _ => d.size - (intOf v8).toNat)
  case atStart => exact ⟨0, rfl, Nat.zero_le _, by simp [B], Ext.refl _⟩
  case round =>
    obtain ⟨j, rfl, hjn, rfl, hE⟩ := hrel
    by_cases hlt : j < d.size
    · obtain ⟨hs1, hs2⟩ := part_step d i k hlt
      obtain ⟨y, hy⟩ : ∃ y, B (((d.data.toList.take j).drop i).take k) = y := ⟨_, rfl⟩
      rw [hy] at hs1 hs2 ⊢
      have hys : y.size ≤ 140737488355328 := by
        have h1 : y.size = (((d.data.toList.take j).drop i).take k).length   := by rw [← hy]; exact List.size_toArray
        have h2 : d.data.toList.length = d.size := Array.length_toList
        rw [h1, List.length_take, List.length_drop, List.length_take]
        omega
      have Hs1 := Lib.hid hs1
      have Hs2 := Lib.hid hs2
      clear hs1 hs2 hy
      by_cases hji : i ≤ j
      · have hw : IntKind.i64.wrap ((j : Int) - (i : Int)) = (j : Int) - (i : Int) := by rw [IntKind.wrap_i64]; omega
        by_cases hjk : j - i < k
        · have hjk' : (j : Int) - (i : Int) < (k : Int) := by omega
          have Hz := Lib.hid (Hs2.out hji hjk)
          have hji' : (i : Int) ≤ (j : Int) := by omega
          clear Hs1 Hs2
          go_wp2
          exact pt_next hlt Hz.out hE
        · have hjk' : ¬ (j : Int) - (i : Int) < (k : Int) := by omega
          have Hz := Lib.hid (Hs1.out (.inr (by omega)))
          have hji' : (i : Int) ≤ (j : Int) := by omega
          clear Hs1 Hs2
          go_wp2
          exact pt_next hlt Hz.out hE
      · have hji' : ¬ (i : Int) ≤ (j : Int) := by omega
        have Hz := Lib.hid (Hs1.out (.inl (by omega)))
        clear Hs1 Hs2
        go_wp2
        exact pt_next hlt Hz.out hE
    · have hfin : B (((d.data.toList.take j).drop i).take k) = part d i k := by
        have h2 : d.data.toList.length = d.size := Array.length_toList
        rw [part, List.take_of_length_le (l := d.data.toList) (i := j) (by omega)]
      rw [hfin]
      clear hfin
      go_wp2
      go_ret
      exact ⟨rfl, hE⟩
end Go.Proofs.YthadldnojdjlnaaGreatDoor

/-! One -/
namespace Go.Proofs.YthadldnojdjlnaaGreatDoor
open Go Go.RowKit Go.Shelf Go.Proofs Go.Maps

def pa : ByteArray := ⟨#[47, 97]⟩
def oneE (d : ByteArray) : Ent := ⟨pa, 1, d⟩

theorem names_pa : names pa = some [⟨#[97]⟩] := by decide
theorem dir_pa : dirOf pa = ⟨#[47]⟩ := by
  rw [dirOf, names_pa]
  rfl
theorem one_ok {d : ByteArray} (h : d.size ≤ 256) : layerOk [oneE d] = true := by
  refine layerOk_of (by simp) fun t ht => ?_
  have : t = 0 := by simp at ht; omega
  subst this
  have h1 : headOk [oneE d] 0 (oneE d) = true := by
    rw [headOk_zero, entOk]
    simp [oneE, deep, names_pa, h]
  rw [List.getElem_cons_zero, okAt_dir h1, holds_of_dir dir_pa]
theorem one_find {d : ByteArray} (h : d.size ≤ 256) : findE [oneE d] pa = some (oneE d) := by
  rw [findE, if_pos (one_ok h)]
  simp [oneE]
theorem one_look {d : ByteArray} (h : d.size ≤ 256) : lookE [[oneE d]] pa = .ok (oneE d, 0) := by
  have hs : stackOk [[oneE d]] = true := by simp [stackOk, one_ok h]
  have ht : pathOf ((([⟨#[97]⟩] : List ByteArray)).take 1) = pa := by decide
  have ha : askE [[oneE d]] pa 0 = ((oneE d, 0), true) := by
    simp only [askE, List.length_cons, List.length_nil, askR]
    have hk : (oneE d).kind = 1 := rfl
    simp [one_find h, hk]
  rw [lookE, if_pos hs, names_pa]
  simp only [List.length_cons, List.length_nil, lookN, Nat.zero_add]
  rw [ht, ha]
  simp

theorem rd_one {w : World} {b : Nat} {t : TypeId} {x : Ent} (h : Blk w b t #[.string x.path, .int .i64 x.kind, .string x.data]) (hf : x.fits) : RdE w (.slice (some ⟨b, 0, none⟩) 1 1) [x] := by
  refine ⟨_, _, rfl, Nat.le_refl _, by omega, by simp, fun _ => ⟨b, 0, rfl, fun j y hj => ?_⟩⟩
  rcases j with _ | j
  · simp at hj
    subst hj
    refine ⟨_, ⟨rfl, hf⟩, fun i u hi => ?_⟩
    rcases i with _ | _ | _ | i
    · simp at hi; subst hi; exact h.cell 0 rfl
    · simp at hi; subst hi; exact h.cell 1 rfl
    · simp at hi; subst hi; exact h.cell 2 rfl
    · simp at hi
  · simp at hj
theorem rdK_one {w : World} {b b' : Nat} {t t' : TypeId} {x : Ent} (h : Blk w b t #[.string x.path, .int .i64 x.kind, .string x.data]) (hf : x.fits) (h' : Blk w b' t' #[.slice (some ⟨b, 0, none⟩) 1 1]) : RdK w (.slice (some ⟨b', 0, none⟩) 1 1) [[x]] := by
  refine ⟨_, _, rfl, Nat.le_refl _, by omega, by simp, fun _ => ⟨b', 0, rfl, fun j y hj => ?_⟩⟩
  rcases j with _ | j
  · simp at hj
    subst hj
    refine ⟨_, ⟨_, rfl, rd_one h hf⟩, fun i u hi => ?_⟩
    rcases i with _ | i
    · simp at hi; subst hi; exact h'.cell 0 rfl
    · simp at hi
  · simp at hj
end Go.Proofs.YthadldnojdjlnaaGreatDoor

/-! Awake -/
namespace Go.Proofs.YthadldnojdjlnaaGreatDoor
open Go Go.RowKit Go.Shelf Go.Proofs Go.Maps


theorem findH_last (d : ByteArray) (r : Value) (k : Int) : findH ([] ++ [(k, d, r)]) k = some (d, r) := by simp [findH]
theorem filter_last (d : ByteArray) (r : Value) (k : Int) : (([] ++ [(k, d, r)] : LH).filter fun x => !decide (x.1 = k)) = [] := by simp
theorem code_ok {w : World} {a : Nat} {c : Int} (h : ErrN w 1 (.iface 86 (.pointer (some ⟨a, 0, none⟩))) c) (hl : Laid w) :
    Calls Tryz.prog 8 #[.iface 86 (.pointer (some ⟨a, 0, none⟩))] w fun e w' => e = .returned (.int .i64 c) ∧ Ext w w' := Code_err 1 _ c w h hl

/-- A stack of one file is laid, and opened. -/
theorem open_one (tb bm n : Nat) (last : Int) (l : LH) (d : ByteArray) (b b' : Nat) (w : World) (hd : d.size ≤ 256) (ht : PT w tb bm n last l)
    (h : Blk w b 54 #[.string pa, .int .i64 1, .string d]) (h' : Blk w b' 55 #[.slice (some ⟨b, 0, none⟩) 1 1]) (r : Value) (xs : List Ref) (hr : RdR w r xs) (hro : Off (Two tb bm) r) (hxs : xs.length ≤ 5000000000000)
    (hlast : 0 ≤ last) (hlast' : last ≤ 4611686018427387904) (hn : n < 4611686018427387904) (hl : ∀ y ∈ l, y.1 < last + 1) :
    Calls Tryz.prog 12 #[.pointer (some ⟨tb, 0, none⟩), .slice (some ⟨b', 0, none⟩) 1 1, r, .string pa] w (OpenOk tb bm n last l d xs w) :=
  open_yes tb bm n last l _ r [[oneE d]] pa (oneE d, 0) xs w (rdK_one (x := oneE d) h ⟨by simp [oneE, pa, ByteArray.size], by show d.size ≤ _; omega⟩ h') (by simp [pa, ByteArray.size]) (one_look hd) (by simp [oneE]) ht hr hro hxs hlast hlast' hn hl

/-- The stack as the code lays it. -/
def w1s (w : World) (d : ByteArray) : World := (w.alloc (.cells #[.string ⟨#[47, 97]⟩, .int .i64 1, .string d] 54)).alloc (.cells #[.slice (some ⟨w.heap.size, 0, none⟩) 1 1] 55)
theorem w1s_ext (w : World) (d : ByteArray) : Ext w (w1s w d) := ((Ext.refl w).alloc _).alloc _
theorem w1s_b (w : World) (d : ByteArray) : Blk (w1s w d) w.heap.size 54 #[.string pa, .int .i64 1, .string d] := (Blk.new w _ _).ext ((Ext.refl _).alloc _)
theorem w1s_b' (w : World) (d : ByteArray) : Blk (w1s w d) (w.heap.size + 1) 55 #[.slice (some ⟨w.heap.size, 0, none⟩) 1 1] := by
  have := Blk.new (w.alloc (.cells #[.string ⟨#[47, 97]⟩, .int .i64 1, .string d] 54)) 55 #[.slice (some ⟨w.heap.size, 0, none⟩) 1 1]
  rw [World.size_alloc] at this
  exact this

set_option maxHeartbeats 8000000 in
theorem awake_any (w : World) (hL : Laid w) : Calls Tryz.prog 4 #[] w fun e w' => e = .returned (.bool true) ∧ Ext w w' := by
  go_enter Tryz.func4, Tryz.ntmps4
  go_upto_region 2 with (go_at_call 6; refine (New_any _).mono ?_; rintro e W1 ⟨tb, bm, rfl, ht1, htb, hbm, hE1⟩)
  have hBo : ∀ W W', Ext w W → But (Two tb bm) W W' → Ext w W' := fun W W' he hb => hb.old he (fun k hk => by rcases hk with rfl | rfl <;> assumption)
  go_wp2_with fail
  have hE2 := hE1.trans (w1s_ext W1 ⟨#[120, 121, 122]⟩)
  have ht2 := ht1.ext (w1s_ext W1 ⟨#[120, 121, 122]⟩)
  have hO := open_one tb bm 0 0 [] ⟨#[120, 121, 122]⟩ W1.heap.size (W1.heap.size + 1) _ (by decide) ht2 (w1s_b W1 _) (w1s_b' W1 _) (.slice none 0 0) [] (Rd.nil _ _ _) (Off.none _ _) (by decide) (by decide) (by decide) (by decide) (by simp)
  obtain ⟨yb, hyb⟩ : ∃ yb, W1.heap.size + 1 = yb := ⟨_, rfl⟩
  rw [hyb] at hO
  rw [hyb]
  change Calls _ _ _ (w1s W1 ⟨#[120, 121, 122]⟩) _
  clear hyb
  generalize w1s W1 ⟨#[120, 121, 122]⟩ = W2 at hE2 ht2 hO ⊢
  refine hO.mono ?_
  rintro e W3 ⟨A, c, rfl, ht3, _, _, _, _, hB3⟩
  have ht3 : PT W3 tb bm 1 1 [(1, ⟨#[120, 121, 122]⟩, .slice A 0 c)] := ht3
  have hE3 := hBo _ _ hE2 hB3
  have hw1 : (Lit.int .i64 1).wf = true := WalkArith.wf_i64 (by decide)
  have HR := fun w' (h : Ext W3 w') => read_yes tb bm 1 1 1 1 9 [(1, ⟨#[120, 121, 122]⟩, .slice A 0 c)] ⟨#[120, 121, 122]⟩ A 0 c w' (ht3.ext h) hw1 rfl
  have hpart : part ⟨#[120, 121, 122]⟩ 1 9 = ⟨#[121, 122]⟩ := by decide
  rw [hpart] at HR
  have HC := fun w' (h : Ext W3 w') => close_yes tb bm 1 1 1 [(1, ⟨#[120, 121, 122]⟩, .slice A 0 c)] ⟨#[120, 121, 122]⟩ A 0 c w' (ht3.ext h) hw1 rfl
  have Hl := Lib.hid hL
  clear ht1 ht2 ht3 hO hL
  go_upto_region 5 with (first | (go_at_call 7; refine (HR _ (Ext.refl _)).mono ?_; rintro e W4 ⟨rfl, hE4⟩) | (go_at_call 10; refine (HC _ hE4).mono ?_; rintro e W5 ⟨rfl, ht5, hB5⟩))
  have hE5 := hBo _ _ (hE3.trans hE4) hB5
  have hR2 := read_no tb bm 1 1 1 0 1 [] W5 ht5 hw1 rfl
  clear HR HC ht5
  go_upto_region 6 with (go_at_call 7; refine hR2.mono ?_; rintro e W6 ⟨a6, rfl, hEr6, hE6⟩)
  have hE6' := hE5.trans hE6
  have HK := fun w' h h' => code_ok (w := w') (a := a6) (c := 14) h h'
  go_wp2_with (go_at_call 8; first | ((with_reducible refine (Code_nil _).mono ?_); rintro e W7 ⟨rfl, hE7⟩; first | (have hE7a := hE6'.trans hE7; have hEr7 := hEr6.below hE7.below; clear hE6' hE7 hEr6) | (have hE7a' := hE7a.trans hE7; have hEr7' := hEr7.below hE7.below; clear hE7a hE7 hEr7; have hE7a := hE7a'; have hEr7 := hEr7'; clear hE7a' hEr7')) | ((with_reducible refine (HK _ hEr7 (Hl.out.ext hE7a)).mono ?_); rintro e W8 ⟨rfl, hE8⟩))
  go_ret
  exact ⟨rfl, hE7a.trans hE8⟩
end Go.Proofs.YthadldnojdjlnaaGreatDoor

/-! NumLaw -/
namespace Go.Proofs.YthadldnojdjlnaaGreatDoor
open Go Go.RowKit Go.Shelf Go.Proofs Go.Maps

/-- A slice of bools in memory. -/
def BoolsIn (w : World) (v : Value) (xs : List Bool) : Prop := ∃ A c, v = .slice A xs.length c ∧ xs.length ≤ c ∧ c ≤ 9223372036854775807 ∧ (xs ≠ [] → ∃ b o, A = some ⟨b, o, none⟩ ∧ ∀ (j : Nat) (h : j < xs.length), w.cell? ⟨b, o + j, none⟩ = some (.bool xs[j]))

/-- The loop's relation: handles that are open, all numbered up to i. -/
def NumRel (w : World) (tb bm b b' nb : Nat) (n i : Value) (wr : World) : Prop :=
  ∃ (k : Nat) (l : LH), i = .int .i64 k ∧ n = .int .i64 l.length ∧ k ≤ nb ∧ Hid (∀ y ∈ l, y.1 < (k : Int) + 1) ∧ Hid (l.length ≤ k) ∧ PT wr tb bm k k l ∧ Ext w wr ∧
    Blk wr b 54 #[.string pa, .int .i64 1, .string ⟨#[]⟩] ∧ Blk wr b' 55 #[.slice (some ⟨b, 0, none⟩) 1 1]

theorem findH_snoc {l : LH} {k : Int} {d : ByteArray} {r : Value} (h : ∀ y ∈ l, y.1 < k) : findH (l ++ [(k, d, r)]) k = some (d, r) := by
  rw [findH, List.find?_append, List.find?_eq_none.2 (fun y hy => by have := h y hy; simp; omega)]
  simp
theorem findH_none {l : LH} {k : Int} (h : ∀ y ∈ l, y.1 < k) : findH l k = none := by
  rw [findH, List.find?_eq_none.2 (fun y hy => by have := h y hy; simp; omega)]
  rfl
theorem filter_snoc {l : LH} {k : Int} {d : ByteArray} {r : Value} (h : ∀ y ∈ l, y.1 < k) : (l ++ [(k, d, r)]).filter (fun x => !decide (x.1 = k)) = l := by
  rw [List.filter_append, List.filter_eq_self.2 (fun y hy => by have := h y hy; simp; omega)]
  simp

theorem num_round {w : World} {tb bm b b' nb k : Nat} {l : LH} {wr : World} (Hk : Hid (k + 1 ≤ nb ∧ l.length ≤ k)) (Hl : Hid (∀ y ∈ l, y.1 < (k : Int) + 1)) (Ht : PT wr tb bm (k + 1) ((k : Int) + 1) l) (hE : Ext w wr)
    (Hb : Blk wr b 54 #[.string pa, .int .i64 1, .string ⟨#[]⟩]) (Hb' : Blk wr b' 55 #[.slice (some ⟨b, 0, none⟩) 1 1]) :
    NumRel w tb bm b b' nb (.int .i64 l.length) (.int .i64 ((k : Int) + 1)) wr ∧ nb - (intOf (.int .i64 ((k : Int) + 1))).toNat < nb - (intOf (.int .i64 (k : Int))).toNat := by
  obtain ⟨h1, h2⟩ := Hk.out
  refine ⟨⟨k + 1, l, by simp, rfl, h1, Lib.hid fun y hy => ?_, Lib.hid (by omega), Ht, hE, Hb, Hb'⟩, ?_⟩
  · have := Hl.out y hy
    omega
  · simp [intOf]
    omega
theorem num_round' {w : World} {tb bm b b' nb k : Nat} {l : LH} {r : Value} {wr : World} (Hk : Hid (k + 1 ≤ nb ∧ l.length ≤ k)) (Hl : Hid (∀ y ∈ l, y.1 < (k : Int) + 1)) (Ht : PT wr tb bm (k + 1) ((k : Int) + 1) (l ++ [((k : Int) + 1, ⟨#[]⟩, r)])) (hE : Ext w wr)
    (Hb : Blk wr b 54 #[.string pa, .int .i64 1, .string ⟨#[]⟩]) (Hb' : Blk wr b' 55 #[.slice (some ⟨b, 0, none⟩) 1 1]) :
    NumRel w tb bm b b' nb (.int .i64 ((l.length : Int) + 1)) (.int .i64 ((k : Int) + 1)) wr ∧ nb - (intOf (.int .i64 ((k : Int) + 1))).toNat < nb - (intOf (.int .i64 (k : Int))).toNat := by
  obtain ⟨h1, h2⟩ := Hk.out
  refine ⟨⟨k + 1, _, by simp, by simp, h1, Lib.hid fun y hy => ?_, Lib.hid (by simp; omega), Ht, hE, Hb, Hb'⟩, ?_⟩
  · rcases List.mem_append.1 hy with hy | hy
    · have := Hl.out y hy; omega
    · simp at hy; subst hy; simp; omega
  · simp [intOf]
    omega
end Go.Proofs.YthadldnojdjlnaaGreatDoor

/-! RefsLaw -/
namespace Go.Proofs.YthadldnojdjlnaaGreatDoor
open Go Go.RowKit Go.Shelf Go.Proofs Go.Maps

/-- A slice of bytes in memory. -/
def BytesIn (w : World) (v : Value) (xs : List Int) : Prop := (∀ x ∈ xs, 0 ≤ x ∧ x ≤ 255) ∧ ∃ A c, v = .slice A xs.length c ∧ xs.length ≤ c ∧ c ≤ 9223372036854775807 ∧ (xs ≠ [] → ∃ b o, A = some ⟨b, o, none⟩ ∧ ∀ (j : Nat) (h : j < xs.length), w.cell? ⟨b, o + j, none⟩ = some (.int .u8 xs[j]))

/-- The first j texts of the i-th handle. -/
def first (i j : Nat) : List Ref := (List.range j).map fun t : Nat => (⟨(i : Int), (t : Int), 0⟩ : Ref)
theorem first_len (i j : Nat) : (first i j).length = j := by simp [first]
theorem first_succ (i j : Nat) : first i (j + 1) = first i j ++ [⟨(i : Int), (j : Int), 0⟩] := by simp [first, List.range_succ]
/-- How many texts a handle has. -/
def many (c : Int) : Nat := (c % 4).toNat
/-- The handles' texts. -/
def texts (cs : List Int) : List (List Ref) := cs.zipIdx.map fun x => first x.2 (many x.1)
theorem texts_len (cs : List Int) : (texts cs).length = cs.length := by simp [texts]
theorem texts_at {cs : List Int} {i : Nat} (h : i < cs.length) : (texts cs)[i]'(by rw [texts_len]; exact h) = first i (many cs[i]) := by simp [texts]
/-- All but one handle's. -/
def but (xss : List (List Ref)) (k : Nat) : List (List Ref) := xss.eraseIdx k

/-- The table's blocks, and the block of want. -/
def Sof (tb bm : Nat) (v : Value) (k : Nat) : Prop := Two tb bm k ∨ v.ownBlock = some k

/-- The inner loop's relation. -/
def InnRel (W : World) (i q : Nat) (out jv : Value) (wr : World) : Prop :=
  ∃ j : Nat, jv = .int .i64 j ∧ j ≤ q ∧ wr.ownsRow W.heap.size 44 3 out j ((first i j).flatMap Ref.cells) ∧ Ext W wr

theorem inn_round {W : World} {i q j : Nat} {out : Value} {wr : World} (hj : j < q) (hrow : wr.ownsRow W.heap.size 44 3 out (j + 1) ((first i j).flatMap Ref.cells ++ [.int .i64 i, .int .i64 j, .int .u32 0])) (hE : Ext W wr) :
    InnRel W i q out (.int .i64 ((j : Int) + 1)) wr ∧ q - (intOf (.int .i64 ((j : Int) + 1))).toNat < q - (intOf (.int .i64 (j : Int))).toNat := by
  refine ⟨⟨j + 1, by simp, by omega, ?_, hE⟩, by simp [intOf]; omega⟩
  rw [first_succ, List.flatMap_append]
  exact hrow

/-- The handles in memory. -/
def HsIn (w : World) (S : Nat → Prop) (l : LH) (xss : List (List Ref)) : Prop :=
  xss.length = l.length ∧ (∀ t (h : t < l.length), (l[t]).1 = (t : Int) + 1) ∧
    ∀ t (h : t < l.length) (h' : t < xss.length), ∃ A c, (l[t]).2.2 = .slice A (xss[t]).length c ∧ RdR w (.slice A (xss[t]).length c) (xss[t]) ∧ (A = none → c = 0) ∧ Off S (.slice A (xss[t]).length c) ∧ Off (fun k => w.heap.size ≤ k) (.slice A (xss[t]).length c)

theorem Off.mono {S S' : Nat → Prop} {v : Value} (h : Off S v) (hs : ∀ k, S' k → S k) : Off S' v := fun b o n c e hb => h b o n c e (hs b hb)

theorem hs_step {w w' : World} {S : Nat → Prop} {l : LH} {xss : List (List Ref)} (h : HsIn w S l xss) (hb : But S w w') : HsIn w' S l xss := by
  refine ⟨h.1, h.2.1, fun t ht ht' => ?_⟩
  obtain ⟨A, c, e, hr, hn, ho, hw⟩ := h.2.2 t ht ht'
  exact ⟨A, c, e, Rd.but (fun _ _ _ _ h => h) hr hb ho, hn, ho, hw.mono fun k hk => Nat.le_trans hb.size hk⟩

theorem hs_snoc {w : World} {S : Nat → Prop} {l : LH} {xss : List (List Ref)} {d : ByteArray} {A : Option Addr} {c : Nat} {xs : List Ref} (h : HsIn w S l xss) (hr : RdR w (.slice A xs.length c) xs) (hn : A = none → c = 0)
    (ho : Off S (.slice A xs.length c)) (hw : Off (fun k => w.heap.size ≤ k) (.slice A xs.length c)) : HsIn w S (l ++ [((l.length : Int) + 1, d, .slice A xs.length c)]) (xss ++ [xs]) := by
  refine ⟨by simp [h.1], fun t ht => ?_, fun t ht ht' => ?_⟩
  · rw [List.length_append, List.length_singleton] at ht
    rcases Nat.lt_or_ge t l.length with hlt | hge
    · rw [List.getElem_append_left hlt]; exact h.2.1 t hlt
    · have : t = l.length := by omega
      subst this
      simp
  · rw [List.length_append, List.length_singleton] at ht
    rcases Nat.lt_or_ge t l.length with hlt | hge
    · have hlt' : t < xss.length := by rw [h.1]; exact hlt
      obtain ⟨A', c', e, r⟩ := h.2.2 t hlt hlt'
      refine ⟨A', c', ?_, ?_⟩
      · simp only [List.getElem_append_left hlt, List.getElem_append_left hlt']; exact e
      · simp only [List.getElem_append_left hlt']; exact r
    · have : t = l.length := by omega
      subst this
      refine ⟨A, c, ?_, ?_⟩
      · simp [← h.1]
      · have e : (xss ++ [xs])[l.length]'ht' = xs := by simp [← h.1]
        simp only [e]
        exact ⟨hr, hn, ho, hw⟩

theorem but_snoc (xss : List (List Ref)) (xs : List Ref) (kk : Nat) : but (xss ++ [xs]) kk = if xss.length = kk then but xss kk else but xss kk ++ [xs] := by
  rw [but, but]
  split
  · rename_i h
    subst h
    rw [List.eraseIdx_append_of_length_le (Nat.le_refl _), Nat.sub_self, List.eraseIdx_of_length_le (Nat.le_refl _)]
    simp
  · rename_i h
    rcases Nat.lt_or_ge kk xss.length with h1 | h1
    · rw [List.eraseIdx_append_of_lt_length h1]
    · rw [List.eraseIdx_append_of_length_le h1, List.eraseIdx_of_length_le h1, List.eraseIdx_of_length_le (by simp; omega)]

theorem texts_take {cs : List Int} {k : Nat} (h : k < cs.length) : (texts cs).take (k + 1) = (texts cs).take k ++ [first k (many cs[k])] := by
  rw [← texts_at h, List.take_append_getElem]

theorem own_butS {w w' : World} {S : Nat → Prop} {base e size n : Nat} {v : Value} {xs : List Value} (h : w.ownsRow base e size v n xs) (hb : But S w w') (hs : ∀ k, S k → k < base) : w'.ownsRow base e size v n xs := by
  obtain ⟨h1, h2⟩ := h
  refine ⟨h1, ?_⟩
  rcases h2 with h2 | ⟨g, cap, cur, hv, hg, hh, r⟩
  · exact Or.inl h2
  · refine Or.inr ⟨g, cap, cur, hv, hg, ?_, r⟩
    rw [hb.block g (Array.getElem?_eq_some_iff.1 hh).1 (fun e => by have := hs g e; omega)]
    exact hh

/-- The outer loop's relation. -/
def OutRel (w : World) (tb bm b b' nb kk base : Nat) (cs : List Int) (want i : Value) (wr : World) : Prop :=
  ∃ (k : Nat) (l : LH), i = .int .i64 k ∧ k ≤ nb ∧ l.length = k ∧ base ≤ wr.heap.size ∧ PT wr tb bm k k l ∧ HsIn wr (Sof tb bm want) l ((texts cs).take k) ∧ Ext w wr ∧
    Blk wr b 54 #[.string pa, .int .i64 1, .string ⟨#[]⟩] ∧ Blk wr b' 55 #[.slice (some ⟨b, 0, none⟩) 1 1] ∧
    wr.ownsRow base 44 3 want ((but ((texts cs).take k) kk).flatten).length (((but ((texts cs).take k) kk).flatten).flatMap Ref.cells)

theorem but_grown {w w' : World} {v : Value} (h : w.grownBy w' v.ownBlock) : But (fun k => v.ownBlock = some k) w w' :=
  ⟨h.os, h.tape, h.output, h.size, fun k hk hs => h.block k hk (fun e => hs e.symm)⟩

/-- The want's row is another, or has grown. -/
theorem hs_want {w w' : World} {tb bm : Nat} {v v' : Value} {l : LH} {xss : List (List Ref)} (h : HsIn w (Sof tb bm v) l xss) (hg : w.grownBy w' v.ownBlock) (hat : v'.ownBlock = v.ownBlock ∨ v'.ownBlock = some w.heap.size) : HsIn w' (Sof tb bm v') l xss := by
  refine ⟨h.1, h.2.1, fun t ht ht' => ?_⟩
  obtain ⟨A, c, e, hr, hn, ho, hw⟩ := h.2.2 t ht ht'
  refine ⟨A, c, e, Rd.but (fun _ _ _ _ h => h) hr (but_grown hg) (ho.mono fun k hk => .inr hk), hn, fun b o n c' hb hs => ?_, hw.mono fun k hk => Nat.le_trans hg.size hk⟩
  rcases hs with hs | hs
  · exact ho b o n c' hb (.inl hs)
  · rcases hat with h1 | h1
    · exact ho b o n c' hb (.inr (h1 ▸ hs))
    · rw [h1] at hs
      cases hs
      exact hw _ _ _ _ hb (Nat.le_refl _)

theorem flat_le : ∀ (L : List (List Ref)), (∀ y ∈ L, y.length ≤ 3) → L.flatten.length ≤ 3 * L.length
  | [], _ => by simp
  | y :: L, h => by
    have h1 := flat_le L (fun z hz => h z (by simp [hz]))
    have h2 := h y (by simp)
    rw [List.flatten_cons, List.length_append, List.length_cons]
    omega
theorem but_len (cs : List Int) (k kk : Nat) : ((but ((texts cs).take k) kk).flatten).length ≤ 3 * cs.length := by
  have h1 : (but ((texts cs).take k) kk).length ≤ cs.length := by
    refine Nat.le_trans (List.length_eraseIdx_le _ _) ?_
    rw [List.length_take, texts_len]
    omega
  have h2 := flat_le (but ((texts cs).take k) kk) (fun y hy => by
    have hy2 : y ∈ texts cs := List.mem_of_mem_take (List.mem_of_mem_eraseIdx hy)
    rw [texts, List.mem_map] at hy2
    obtain ⟨x, _, rfl⟩ := hy2
    rw [first_len, many]
    omega)
  omega

theorem out_same {W0 W4 : World} {tb bm b b' nb kk base k : Nat} {cs : List Int} {want : Value} {l : LH} {x : Int × ByteArray × Value} (hk : k < nb) (hh : k < cs.length) (he : k = kk) (hl : l.length = k) (hbase : base ≤ W4.heap.size) (ht : PT W4 tb bm (k + 1) ((k : Int) + 1) (l ++ [x])) (hH : HsIn W4 (Sof tb bm want) (l ++ [x]) ((texts cs).take (k + 1)))
    (hE : Ext W0 W4) (hb : Blk W4 b 54 #[.string pa, .int .i64 1, .string ⟨#[]⟩]) (hb' : Blk W4 b' 55 #[.slice (some ⟨b, 0, none⟩) 1 1])
    (hw : W4.ownsRow base 44 3 want ((but ((texts cs).take k) kk).flatten).length (((but ((texts cs).take k) kk).flatten).flatMap Ref.cells)) :
    OutRel W0 tb bm b b' nb kk base cs want (.int .i64 ((k : Int) + 1)) W4 := by
  have hbut : but ((texts cs).take (k + 1)) kk = but ((texts cs).take k) kk := by
    rw [texts_take hh, but_snoc, if_pos (by rw [List.length_take, texts_len]; omega)]
  refine ⟨k + 1, l ++ [x], by simp, hk, by simp [hl], hbase, by simpa using ht, hH, hE, hb, hb', ?_⟩
  rw [hbut]
  exact hw

theorem out_other {W0 W4 W5 : World} {tb bm b b' nb kk base k j : Nat} {cs : List Int} {want want' : Value} {l : LH} {x : Int × ByteArray × Value} (hk : k < nb) (hh : k < cs.length) (he : k ≠ kk) (hl : l.length = k) (hbase : base ≤ W4.heap.size) (hT : ∀ s, Two tb bm s → s < base) (hW0 : W0.heap.size ≤ base) (hbn : b < base) (hbn' : b' < base)
    (ht : PT W4 tb bm (k + 1) ((k : Int) + 1) (l ++ [x])) (hH : HsIn W4 (Sof tb bm want) (l ++ [x]) ((texts cs).take (k + 1)))
    (hE : Ext W0 W4) (hb : Blk W4 b 54 #[.string pa, .int .i64 1, .string ⟨#[]⟩]) (hb' : Blk W4 b' 55 #[.slice (some ⟨b, 0, none⟩) 1 1])
    (hw : W4.ownsRow base 44 3 want ((but ((texts cs).take k) kk).flatten).length (((but ((texts cs).take k) kk).flatten).flatMap Ref.cells))
    (hq : many cs[k] = j) (hg : W4.grownBy W5 want.ownBlock) (hat : want'.ownBlock = want.ownBlock ∨ want'.ownBlock = some W4.heap.size)
    (hw5 : W5.ownsRow base 44 3 want' (((but ((texts cs).take k) kk).flatten).length + j) ((((but ((texts cs).take k) kk).flatten).flatMap Ref.cells) ++ (first k j).flatMap Ref.cells)) :
    OutRel W0 tb bm b b' nb kk base cs want' (.int .i64 ((k : Int) + 1)) W5 := by
  have hlow : ∀ s, s < base → ¬ want.ownBlock = some s := fun s hs e => by have := (hw.lt s e).1; omega
  have hbut := but_grown hg
  have htx : but ((texts cs).take (k + 1)) kk = but ((texts cs).take k) kk ++ [first k j] := by
    rw [texts_take hh, but_snoc, if_neg (by rw [List.length_take, texts_len]; omega), hq]
  refine ⟨k + 1, l ++ [x], by simp, hk, by simp [hl], Nat.le_trans hbase hg.size, ?_, hs_want hH hg hat, Ext.grown hE hg (fun s hs => Nat.le_trans hW0 (hw.lt s hs).1), hb.but hbut (hlow b hbn), hb'.but hbut (hlow b' hbn'), ?_⟩
  · have := ht.but hbut (hlow tb (hT tb (.inl rfl))) (hlow bm (hT bm (.inr rfl)))
    simpa using this
  · rw [htx, List.flatten_append, List.flatMap_append, List.length_append]
    simpa [first_len] using hw5

/-- Less one handle. -/
theorem less_one {l : LH} {kk : Nat} (h : ∀ t (ht : t < l.length), (l[t]).1 = (t : Int) + 1) (hkk : kk < l.length) : (l.filter fun x => !decide (x.1 = (kk : Int) + 1)) = l.eraseIdx kk := by
  rw [List.eraseIdx_eq_take_drop_succ]
  have e : l = l.take kk ++ l[kk] :: l.drop (kk + 1) := by rw [← List.drop_eq_getElem_cons, List.take_append_drop]
  have e2 : (l.filter fun x => !decide (x.1 = (kk : Int) + 1)) = (l.take kk ++ l[kk] :: l.drop (kk + 1)).filter fun x => !decide (x.1 = (kk : Int) + 1) := congrArg _ e
  rw [e2, List.filter_append, List.filter_cons, if_neg (by simp [h kk hkk])]
  congr 1
  · rw [List.filter_eq_self]
    intro x hx
    obtain ⟨j, hj, rfl⟩ := List.getElem_of_mem hx
    rw [List.length_take] at hj
    rw [List.getElem_take, h j (by omega)]
    simp
    omega
  · rw [List.filter_eq_self]
    intro x hx
    obtain ⟨j, hj, rfl⟩ := List.getElem_of_mem hx
    rw [List.length_drop] at hj
    rw [List.getElem_drop, h (kk + 1 + j) (by omega)]
    simp
    omega

theorem rising_keys {l : LH} (h : ∀ t (ht : t < l.length), (l[t]).1 = (t : Int) + 1) : (l.map (·.1)).Pairwise (· < ·) := by
  rw [List.pairwise_iff_getElem]
  intro i j hi hj hij
  rw [List.length_map] at hi hj
  rw [List.getElem_map, List.getElem_map, h i hi, h j hj]
  omega

theorem less_in {w : World} {S : Nat → Prop} {l : LH} {xss : List (List Ref)} {kk : Nat} (hH : HsIn w S l xss) (hkk : kk < l.length) : RefsIn w (l.eraseIdx kk) (but xss kk) := by
  obtain ⟨h1, h2, h3⟩ := hH
  have hk2 : kk < xss.length := by omega
  refine ⟨by rw [but, List.length_eraseIdx_of_lt hkk, List.length_eraseIdx_of_lt hk2, h1], fun i h h' => ?_⟩
  simp only [but, List.getElem_eraseIdx]
  rw [List.length_eraseIdx_of_lt hkk] at h
  by_cases e : i < kk
  · simp only [dif_pos e]
    obtain ⟨A, c, q1, q2, q3, _⟩ := h3 i (by omega) (by omega)
    exact ⟨A, c, q1, q2, q3⟩
  · simp only [dif_neg e]
    obtain ⟨A, c, q1, q2, q3, _⟩ := h3 (i + 1) (by omega) (by omega)
    exact ⟨A, c, q1, q2, q3⟩

/-- Close(kk + 1). -/
theorem close_kk {wr : World} {tb bm nb kk : Nat} {S : Nat → Prop} {l : LH} {cs : List Int} (ht : PT wr tb bm nb nb l) (hl : l.length = nb) (hcs : cs.length = nb) (hH : HsIn wr S l (texts cs)) (hkk : kk < nb) (h30 : nb ≤ 30) :
    ∃ A c, (A = none → c = 0) ∧ Calls Tryz.prog 10 #[.pointer (some ⟨tb, 0, none⟩), .int .i64 ((kk : Int) + 1)] wr (CloseOk tb bm nb nb (l.eraseIdx kk) (.slice A (many (cs[kk]'(by omega))) c) wr) := by
  have hk1 : kk < l.length := by omega
  have hk2 : kk < (texts cs).length := by rw [texts_len]; omega
  obtain ⟨A, c, q1, q2, q3, _⟩ := hH.2.2 kk hk1 hk2
  have hf := find_at (rising_keys hH.2.1) hk1
  rw [hH.2.1 kk hk1] at hf
  have hlen : (texts cs)[kk].length = many (cs[kk]'(by omega)) := by rw [texts_at (by omega), first_len]
  obtain ⟨y, hy⟩ : ∃ y, l[kk] = y := ⟨_, rfl⟩
  rw [hy] at hf q1
  obtain ⟨k0, d0, v0⟩ := y
  have q1 : v0 = .slice A (texts cs)[kk].length c := q1
  subst q1
  rw [hlen] at hf
  have h := close_yes tb bm nb nb ((kk : Int) + 1) l d0 A (many (cs[kk]'(by omega))) c wr ht (by simp [Lit.wf, IntKind.min, IntKind.max, IntKind.signed, IntKind.bits]; omega) hf
  rw [less_one hH.2.1 hk1] at h
  exact ⟨A, c, q3, h⟩

/-- Refs behind it. -/
theorem refs_kk {w : World} {tb bm nb kk : Nat} {S : Nat → Prop} {l : LH} {cs : List Int} (ht : PT w tb bm nb nb (l.eraseIdx kk)) (hl : l.length = nb) (hcs : cs.length = nb) (hH : HsIn w S l (texts cs)) (hkk : kk < nb) (h30 : nb ≤ 30) :
    Calls Tryz.prog 15 #[.pointer (some ⟨tb, 0, none⟩)] w (RefsAns (but (texts cs) kk).flatten w) := by
  have hr := rising_keys hH.2.1
  have hle : (l.eraseIdx kk).length ≤ 30 := Nat.le_trans (List.length_eraseIdx_le _ _) (by omega)
  refine Refs_any tb bm nb nb (l.eraseIdx kk) (but (texts cs) kk) w ht ?_ (by omega) ?_ (less_in hH (by omega)) ?_
  · exact List.Pairwise.sublist ((List.eraseIdx_sublist l kk).map _) hr
  · intro y hy
    obtain ⟨t, ht, rfl⟩ := List.getElem_of_mem (List.mem_of_mem_eraseIdx hy)
    rw [hH.2.1 t ht]
    simp [Lit.wf, IntKind.min, IntKind.max, IntKind.signed, IntKind.bits]
    omega
  · have := but_len cs cs.length kk
    rw [← texts_len cs, List.take_length, texts_len] at this
    omega

theorem rdR_form {w : World} {v : Value} {l : List Ref} {n : Nat} (hv : RdR w v l) (hn : n = l.length) :
    ∃ A c, v = .slice A n c ∧ n ≤ c ∧ c ≤ 9223372036854775807 ∧ Hid (l ≠ [] → ∃ b o, A = some ⟨b, o, none⟩ ∧ ∀ (j : Nat) (h : j < l.length), w.cell? ⟨b, o + j * 3, none⟩ = some (.int .i64 l[j].at_) ∧ w.cell? ⟨b, o + j * 3 + 1, none⟩ = some (.int .i64 l[j].size) ∧ w.cell? ⟨b, o + j * 3 + 2, none⟩ = some (.int .u32 l[j].sum)) := by
  by_cases h0 : l = []
  · obtain ⟨A, c, e, h1, h2, _⟩ := hv
    rw [← hn] at e h1
    exact ⟨A, c, e, h1, h2, Lib.hid fun h => absurd h0 h⟩
  · obtain ⟨b, o, c, e, h1, h2, h3⟩ := Rd.open_ hv h0
    rw [← hn] at e h1
    refine ⟨_, c, e, h1, h2, Lib.hid fun _ => ⟨b, o, rfl, fun j h => ?_⟩⟩
    obtain ⟨cs, rfl, hu⟩ := h3 j l[j] (List.getElem?_eq_getElem h)
    exact ⟨hu 0 _ rfl, hu 1 _ rfl, hu 2 _ rfl⟩

theorem neq_ref (x : Ref) (w : World) : (binOp .neq 44 (.agg #[.int .i64 x.at_, .int .i64 x.size, .int .u32 x.sum]) (.agg #[.int .i64 x.at_, .int .i64 x.size, .int .u32 x.sum])).run Tryz.prog w = .ok (.bool false) w := by
  simp [go_sem, Op.eqFields, Program.fieldsOf, Tryz.underlying44, Tryz.underlying42, Tryz.underlying3]
end Go.Proofs.YthadldnojdjlnaaGreatDoor

/-! PlaysW -/
namespace Go.Proofs.YthadldnojdjlnaaGreatDoor
open Go Go.RowKit Go.Shelf Go.Proofs Go.Maps

/-- Where a number stands last, or -1. -/
def fndK (ks : List Int) (id : Int) : Nat → Int
  | 0 => -1
  | j + 1 => if ks[j]? = some id then (j : Int) else fndK ks id j

theorem fnd_cases (ks : List Int) (id : Int) : ∀ n, (fndK ks id n = -1 ∧ ∀ j, j < n → ks[j]? ≠ some id) ∨ ∃ j : Nat, j < n ∧ ks[j]? = some id ∧ fndK ks id n = (j : Int)
  | 0 => .inl ⟨rfl, fun j h => absurd h (Nat.not_lt_zero j)⟩
  | n + 1 => by
    by_cases h : ks[n]? = some id
    · exact .inr ⟨n, by omega, h, by rw [fndK, if_pos h]⟩
    · rcases fnd_cases ks id n with ⟨h1, h2⟩ | ⟨j, h1, h2, h3⟩
      · refine .inl ⟨by rw [fndK, if_neg h, h1], fun j hj => ?_⟩
        by_cases e : j = n
        · subst e; exact h
        · exact h2 j (by omega)
      · exact .inr ⟨j, by omega, h2, by rw [fndK, if_neg h, h3]⟩

theorem find_no {l : LH} {id : Int} (h : ∀ j, j < l.length → (l.map (·.1))[j]? ≠ some id) : findH l id = none := by
  rw [findH, Option.map_eq_none_iff, List.find?_eq_none]
  intro x hx
  obtain ⟨j, hj, rfl⟩ := List.getElem_of_mem hx
  have := h j hj
  rw [List.getElem?_map, List.getElem?_eq_getElem hj] at this
  simpa using this
theorem find_yes {l : LH} {id : Int} (hr : (l.map (·.1)).Pairwise (· < ·)) {j : Nat} (hj : j < l.length) (h : (l.map (·.1))[j]? = some id) : l[j].1 = id ∧ findH l id = some l[j].2 ∧ (l.filter fun x => !decide (x.1 = id)) = l.eraseIdx j := by
  rw [List.getElem?_map, List.getElem?_eq_getElem hj] at h
  have h1 : l[j].1 = id := by simpa using h
  have h2 := find_at hr hj
  rw [h1] at h2
  refine ⟨h1, h2, ?_⟩
  have hne : ∀ i (hi : i < l.length), i ≠ j → l[i].1 ≠ id := fun i hi hij e => by
    rw [List.pairwise_iff_getElem] at hr
    rcases Nat.lt_or_ge i j with h3 | h3
    · have := hr i j (by simpa using hi) (by simpa using hj) h3
      simp only [List.getElem_map] at this
      omega
    · have := hr j i (by simpa using hj) (by simpa using hi) (by omega)
      simp only [List.getElem_map] at this
      omega
  rw [List.eraseIdx_eq_take_drop_succ]
  have e : l = l.take j ++ l[j] :: l.drop (j + 1) := by rw [← List.drop_eq_getElem_cons, List.take_append_drop]
  have e2 : (l.filter fun x => !decide (x.1 = id)) = (l.take j ++ l[j] :: l.drop (j + 1)).filter fun x => !decide (x.1 = id) := congrArg _ e
  rw [e2, List.filter_append, List.filter_cons, if_neg (by simp [h1])]
  congr 1
  · rw [List.filter_eq_self]
    intro x hx
    obtain ⟨i, hi, rfl⟩ := List.getElem_of_mem hx
    rw [List.length_take] at hi
    rw [List.getElem_take]
    simpa using hne i (by omega) (by omega)
  · rw [List.filter_eq_self]
    intro x hx
    obtain ⟨i, hi, rfl⟩ := List.getElem_of_mem hx
    rw [List.length_drop] at hi
    rw [List.getElem_drop]
    simpa using hne (j + 1 + i) (by omega) (by omega)

/-- The blocks that may turn. -/
def Snap (tb bm : Nat) (v7 v8 : Value) (k : Nat) : Prop := Two tb bm k ∨ v7.ownBlock = some k ∨ v8.ownBlock = some k

def HsP (W : World) (S : Nat → Prop) (l : LH) : Prop :=
  ∀ y ∈ l, ∃ A c, y.2.2 = .slice A 2 c ∧ RdR W (.slice A 2 c) (refsOf y.1) ∧ (A = none → c = 0) ∧ Off S (.slice A 2 c) ∧ Off (fun k => W.heap.size ≤ k) (.slice A 2 c)

theorem HsP.but {W W' : World} {S S' : Nat → Prop} {l : LH} (h : HsP W S l) (hb : But S' W W') (hs : ∀ k, S' k → S k) : HsP W' S l := fun y hy => by
  obtain ⟨A, c, e, hr, hn, ho, hw⟩ := h y hy
  exact ⟨A, c, e, Rd.but (fun _ _ _ _ h => h) hr hb (ho.mono hs), hn, ho, hw.mono fun k hk => Nat.le_trans hb.size hk⟩

structure StM (w0 : World) (base tb bm L : Nat) (l : LH) (ks : List Int) (ds : List ByteArray) (v7 v8 : Value) (W : World) : Prop where
  pt : PT W tb bm L (L : Int) l
  bas : base ≤ W.heap.size
  ext : Ext w0 W
  hs : HsP W (Snap tb bm v7 v8) l
  r7 : W.ownsRow base 3 1 v7 ks.length (ks.map (Value.int .i64))
  r8 : W.ownsRow base 9 1 v8 ds.length (ds.map Value.string)
  ne : ∀ k, v7.ownBlock = some k → v8.ownBlock ≠ some k

structure Fixd (w0 : World) (base tb bm : Nat) : Prop where
  t0 : w0.heap.size ≤ tb
  m0 : w0.heap.size ≤ bm
  b0 : w0.heap.size ≤ base
  t1 : tb < base
  m1 : bm < base

theorem Fixd.two {w0 : World} {base tb bm : Nat} (f : Fixd w0 base tb bm) : ∀ k, Two tb bm k → w0.heap.size ≤ k ∧ k < base := by
  rintro k (rfl | rfl)
  · exact ⟨f.t0, f.t1⟩
  · exact ⟨f.m0, f.m1⟩

theorem row_grown {W W' : World} {base e size n : Nat} {v : Value} {xs : List Value} {o : Option Nat} (h : W.ownsRow base e size v n xs) (hg : W.grownBy W' o) (hne : ∀ k, v.ownBlock = some k → o ≠ some k) : W'.ownsRow base e size v n xs := by
  obtain ⟨h1, h2⟩ := h
  refine ⟨h1, h2.elim .inl fun ⟨g, cap, cur, e1, hb, hh, r⟩ => .inr ⟨g, cap, cur, e1, hb, ?_, r⟩⟩
  rw [hg.block g (Array.getElem?_eq_some_iff.1 hh).1 (fun e2 => hne g (by rw [e1]; rfl) e2.symm)]
  exact hh

variable {w0 : World} {base tb bm L : Nat} {l : LH} {ks : List Int} {ds : List ByteArray} {v7 v8 : Value} {W : World}

theorem StM.step (h : StM w0 base tb bm L l ks ds v7 v8 W) {W' : World} (he : Ext W W') : StM w0 base tb bm L l ks ds v7 v8 W' :=
  ⟨h.pt.ext he, Nat.le_trans h.bas he.size, h.ext.trans he, h.hs.but (S' := fun _ => False) (But.of_ext he) (fun _ h => h.elim), own_ext h.r7 he, own_ext h.r8 he, h.ne⟩

theorem StM.turned (f : Fixd w0 base tb bm) (h : StM w0 base tb bm L l ks ds v7 v8 W) {W1 : World} {L1 : Nat} {l1 : LH} (ht : PT W1 tb bm L1 (L1 : Int) l1) (hb : But (Two tb bm) W W1)
    (hl : HsP W1 (Snap tb bm v7 v8) l1) : StM w0 base tb bm L1 l1 ks ds v7 v8 W1 :=
  ⟨ht, Nat.le_trans h.bas hb.size, hb.old h.ext fun k hk => (f.two k hk).1, hl, own_butS h.r7 hb fun k hk => (f.two k hk).2, own_butS h.r8 hb fun k hk => (f.two k hk).2, h.ne⟩

theorem StM.less (f : Fixd w0 base tb bm) (h : StM w0 base tb bm L l ks ds v7 v8 W) {W1 : World} {l1 : LH} (ht : PT W1 tb bm L (L : Int) l1) (hb : But (Two tb bm) W W1) (hl : ∀ y ∈ l1, y ∈ l) : StM w0 base tb bm L l1 ks ds v7 v8 W1 :=
  h.turned f ht hb fun y hy => (h.hs.but hb fun _ => .inl) y (hl y hy)

theorem StM.more (f : Fixd w0 base tb bm) (h : StM w0 base tb bm L l ks ds v7 v8 W) {W1 : World} {d : ByteArray} {A : Option Addr} {c : Nat} (ht : PT W1 tb bm (L + 1) ((L : Int) + 1) (l ++ [((L : Int) + 1, d, .slice A 2 c)])) (hb : But (Two tb bm) W W1)
    (hr : RdR W1 (.slice A 2 c) (refsOf ((L : Int) + 1))) (ho : ∀ S : Nat → Prop, (∀ k, S k → k < W.heap.size) → Off S (.slice A 2 c)) (hn : A = none → c = 0) (hw : Off (fun k => W1.heap.size ≤ k) (.slice A 2 c)) :
    StM w0 base tb bm (L + 1) (l ++ [((L : Int) + 1, d, .slice A 2 c)]) ks ds v7 v8 W1 := by
  refine h.turned f (by simpa using ht) hb fun y hy => ?_
  rcases List.mem_append.1 hy with hy | hy
  · exact (h.hs.but hb fun _ => .inl) y hy
  · have : y = ((L : Int) + 1, d, .slice A 2 c) := by simpa using hy
    subst this
    refine ⟨A, c, rfl, hr, hn, ho _ fun k hk => ?_, hw⟩
    rcases hk with hk | hk | hk
    · exact Nat.lt_of_lt_of_le (f.two k hk).2 h.bas
    · exact (h.r7.lt k hk).2
    · exact (h.r8.lt k hk).2

theorem HsP.grown {W W' : World} {tb bm : Nat} {v7 v8 u7 u8 : Value} {o : Option Nat} {l : LH} (h : HsP W (Snap tb bm v7 v8) l) (hg : W.grownBy W' o) (ho : ∀ k, o = some k → Snap tb bm v7 v8 k) (hn : ∀ k, Snap tb bm u7 u8 k → Snap tb bm v7 v8 k ∨ W.heap.size ≤ k) : HsP W' (Snap tb bm u7 u8) l := fun y hy => by
  obtain ⟨A, c, e, hr, hne, hof, hw⟩ := h y hy
  have hb : But (fun k => o = some k) W W' := ⟨hg.os, hg.tape, hg.output, hg.size, fun k hk hs => hg.block k hk (fun e => hs e.symm)⟩
  refine ⟨A, c, e, Rd.but (fun _ _ _ _ h => h) hr hb (hof.mono ho), hne, fun b o' n c' hb' hs => ?_, hw.mono fun k hk => Nat.le_trans hg.size hk⟩
  rcases hn b hs with h1 | h1
  · exact hof b o' n c' hb' h1
  · exact hw b o' n c' hb' h1

theorem StM.put7 (f : Fixd w0 base tb bm) (h : StM w0 base tb bm L l ks ds v7 v8 W) {W' : World} {u7 : Value} {k : Int} (hg : W.grownBy W' v7.ownBlock) (hat : u7.ownBlock = v7.ownBlock ∨ u7.ownBlock = some W.heap.size)
    (hr : W'.ownsRow base 3 1 u7 (ks.length + 1) (ks.map (Value.int .i64) ++ [.int .i64 k])) : StM w0 base tb bm L l (ks ++ [k]) ds u7 v8 W' := by
  have hlow : ∀ s, s < base → ¬ v7.ownBlock = some s := fun s hs e => by have := (h.r7.lt s e).1; omega
  have hsn : ∀ s, Snap tb bm u7 v8 s → Snap tb bm v7 v8 s ∨ W.heap.size ≤ s := by
    rintro s (hs | hs | hs)
    · exact .inl (.inl hs)
    · rcases hat with e | e
      · exact .inl (.inr (.inl (e ▸ hs)))
      · rw [e] at hs; cases hs; exact .inr (Nat.le_refl _)
    · exact .inl (.inr (.inr hs))
  refine ⟨h.pt.but (but_grown hg) (hlow tb f.t1) (hlow bm f.m1), Nat.le_trans h.bas hg.size, Ext.grown h.ext hg fun s hs => Nat.le_trans f.b0 (h.r7.lt s hs).1, h.hs.grown hg (fun s hs => .inr (.inl hs)) hsn, by simpa using hr, row_grown h.r8 hg fun s hs e => h.ne s e hs, fun s hs e => ?_⟩
  rcases hat with e2 | e2
  · exact h.ne s (e2 ▸ hs) e
  · rw [e2] at hs
    cases hs
    exact Nat.lt_irrefl _ (h.r8.lt _ e).2

theorem StM.put8 (f : Fixd w0 base tb bm) (h : StM w0 base tb bm L l ks ds v7 v8 W) {W' : World} {u8 : Value} {d : ByteArray} (hg : W.grownBy W' v8.ownBlock) (hat : u8.ownBlock = v8.ownBlock ∨ u8.ownBlock = some W.heap.size)
    (hr : W'.ownsRow base 9 1 u8 (ds.length + 1) (ds.map Value.string ++ [.string d])) : StM w0 base tb bm L l ks (ds ++ [d]) v7 u8 W' := by
  have hlow : ∀ s, s < base → ¬ v8.ownBlock = some s := fun s hs e => by have := (h.r8.lt s e).1; omega
  have hsn : ∀ s, Snap tb bm v7 u8 s → Snap tb bm v7 v8 s ∨ W.heap.size ≤ s := by
    rintro s (hs | hs | hs)
    · exact .inl (.inl hs)
    · exact .inl (.inr (.inl hs))
    · rcases hat with e | e
      · exact .inl (.inr (.inr (e ▸ hs)))
      · rw [e] at hs; cases hs; exact .inr (Nat.le_refl _)
  refine ⟨h.pt.but (but_grown hg) (hlow tb f.t1) (hlow bm f.m1), Nat.le_trans h.bas hg.size, Ext.grown h.ext hg fun s hs => Nat.le_trans f.b0 (h.r8.lt s hs).1, h.hs.grown hg (fun s hs => .inr (.inr hs)) hsn, row_grown h.r7 hg fun s hs e => h.ne s hs e, by simpa using hr, fun s hs e => ?_⟩
  rcases hat with e2 | e2
  · exact h.ne s hs (e2 ▸ e)
  · rw [e2] at e
    cases e
    exact Nat.lt_irrefl _ (h.r7.lt _ hs).2

theorem StM.new7 (h : StM w0 base tb bm L l ks ds v7 v8 W) {W' : World} {u7 : Value} {ks' : List Int} (he : Ext W W') (hr : W'.ownsRow W.heap.size 3 1 u7 ks'.length (ks'.map (Value.int .i64))) : StM w0 base tb bm L l ks' ds u7 v8 W' := by
  refine ⟨h.pt.ext he, Nat.le_trans h.bas he.size, h.ext.trans he, h.hs.grown (o := none) ⟨Below.os he, Below.tape he, Below.output he, he.size, fun k hk _ => Below.block he k hk⟩ (fun _ e => by cases e) ?_, own_lower hr h.bas, own_ext h.r8 he, fun s hs e => ?_⟩
  · rintro s (hs | hs | hs)
    · exact .inl (.inl hs)
    · exact .inr (hr.lt s hs).1
    · exact .inl (.inr (.inr hs))
  · have h1 := (hr.lt s hs).1
    have h2 := (h.r8.lt s e).2
    omega

theorem StM.new8 (h : StM w0 base tb bm L l ks ds v7 v8 W) {W' : World} {u8 : Value} {ds' : List ByteArray} (he : Ext W W') (hr : W'.ownsRow W.heap.size 9 1 u8 ds'.length (ds'.map Value.string)) : StM w0 base tb bm L l ks ds' v7 u8 W' := by
  refine ⟨h.pt.ext he, Nat.le_trans h.bas he.size, h.ext.trans he, h.hs.grown (o := none) ⟨Below.os he, Below.tape he, Below.output he, he.size, fun k hk _ => Below.block he k hk⟩ (fun _ e => by cases e) ?_, own_ext h.r7 he, own_lower hr h.bas, fun s hs e => ?_⟩
  · rintro s (hs | hs | hs)
    · exact .inl (.inl hs)
    · exact .inl (.inr (.inl hs))
    · exact .inr (hr.lt s hs).1
  · have h1 := (hr.lt s e).1
    have h2 := (h.r7.lt s hs).2
    omega

/-- The plain side: numbers rise, from 1 on. -/
structure Num (L : Nat) (l : LH) (ks : List Int) (ds : List ByteArray) : Prop where
  keys : (l.map (·.1)).Pairwise (· < ·)
  rng : ∀ y ∈ l, 1 ≤ y.1 ∧ y.1 ≤ (L : Int)
  ek : ks = l.map (·.1)
  ed : ds = l.map (·.2.1)
  sz : ∀ y ∈ l, y.2.1.size ≤ 140737488355328

theorem Num.snoc (h : Num L l ks ds) (d : ByteArray) (hd : d.size ≤ 140737488355328) (v : Value) : Num (L + 1) (l ++ [((L : Int) + 1, d, v)]) (ks ++ [(L : Int) + 1]) (ds ++ [d]) := by
  refine ⟨?_, fun y hy => ?_, by simp [h.ek], by simp [h.ed], fun y hy => ?_⟩
  · rw [List.map_append, List.pairwise_append]
    refine ⟨h.keys, by simp, fun a ha b hb => ?_⟩
    obtain ⟨y, hy, rfl⟩ := List.mem_map.1 ha
    have h2 := (h.rng y hy).2
    have : b = (L : Int) + 1 := by simpa using hb
    omega
  · rcases List.mem_append.1 hy with hy | hy
    · have := h.rng y hy
      omega
    · have : y = ((L : Int) + 1, d, v) := by simpa using hy
      subst this
      exact ⟨by show (1 : Int) ≤ (L : Int) + 1; omega, by show (L : Int) + 1 ≤ ((L + 1 : Nat) : Int); omega⟩
  · rcases List.mem_append.1 hy with hy | hy
    · exact h.sz y hy
    · have : y = ((L : Int) + 1, d, v) := by simpa using hy
      subst this
      exact hd
theorem erase_map {α β : Type} (f : α → β) (l : List α) (j : Nat) : (l.map f).eraseIdx j = (l.eraseIdx j).map f := by
  rw [List.eraseIdx_eq_take_drop_succ, List.eraseIdx_eq_take_drop_succ, List.map_append, List.map_take, List.map_drop]
theorem Num.less (h : Num L l ks ds) (j : Nat) : Num L (l.eraseIdx j) (ks.eraseIdx j) (ds.eraseIdx j) :=
  ⟨List.Pairwise.sublist ((List.eraseIdx_sublist l j).map _) h.keys, fun y hy => h.rng y (List.mem_of_mem_eraseIdx hy), by rw [h.ek, erase_map], by rw [h.ed, erase_map], fun y hy => h.sz y (List.mem_of_mem_eraseIdx hy)⟩
theorem Num.low (h : Num L l ks ds) : ∀ y ∈ l, y.1 < (L : Int) + 1 := fun y hy => by have := (h.rng y hy).2; omega
theorem Num.nil : Num 0 [] [] [] := ⟨by simp, fun y hy => by simp at hy, rfl, rfl, fun y hy => by simp at hy⟩
end Go.Proofs.YthadldnojdjlnaaGreatDoor

/-! ListW -/
namespace Go.Proofs.YthadldnojdjlnaaGreatDoor
open Go Go.RowKit

/-- The path of a name in a directory. -/
def childP (d x : ByteArray) : ByteArray := if d = ⟨#[47]⟩ then B (47 :: x.data.toList) else B (d.data.toList ++ 47 :: x.data.toList)

/-- The name of an entry that lies in a directory. -/
def inP (p : ByteArray) (x : Ent) : Option ByteArray := match names x.path with
  | none => none
  | some ys => match ys.getLast? with
    | none => none
    | some z => if pathOf ys.dropLast = p then some z else none

/-- The names that the layers from a floor on have in a directory. -/
def metP (s : List (List Ent)) (p : ByteArray) (f : Nat) : List ByteArray := (s.drop f).flatten.filterMap (inP p)

/-- A directory's floor. -/
def dirE (s : List (List Ent)) (p : ByteArray) : Except Int Nat := match lookE s p with
  | .error c => .error c
  | .ok x => if x.1.kind = 1 then .error 6 else .ok x.2

def showsE (s : List (List Ent)) (q : ByteArray) : Bool := match lookE s q with
  | .ok _ => true
  | .error _ => false

/-- These are the names that a directory has: sorted, each once. -/
def NamesIs (s : List (List Ent)) (p : ByteArray) (f : Nat) (l : List ByteArray) : Prop :=
  (l.Pairwise fun a b => lt a b = true) ∧ ∀ x, x ∈ l ↔ x ∈ metP s p f ∧ showsE s (childP p x) = true

theorem inP_iff {p z : ByteArray} {x : Ent} : inP p x = some z ↔ ∃ ys, names x.path = some (ys ++ [z]) ∧ pathOf ys = p := by
  unfold inP
  constructor
  · intro h
    split at h
    · cases h
    · rename_i ys hy
      split at h
      · cases h
      · rename_i y hl
        split at h
        · rename_i hp
          cases h
          have hne : ys ≠ [] := by rintro rfl; simp at hl
          rw [List.getLast?_eq_some_getLast hne] at hl
          have e := Option.some.inj hl
          exact ⟨ys.dropLast, by rw [hy, ← e, List.dropLast_concat_getLast], hp⟩
        · cases h
  · rintro ⟨ys, h, rfl⟩
    rw [h]
    simp

theorem mem_metP {s : List (List Ent)} {p z : ByteArray} {f : Nat} : z ∈ metP s p f ↔ ∃ i l x, f ≤ i ∧ s[i]? = some l ∧ x ∈ l ∧ inP p x = some z := by
  simp only [metP, List.mem_filterMap, List.mem_flatten]
  constructor
  · rintro ⟨x, ⟨l, hl, hx⟩, h⟩
    obtain ⟨j, hj, rfl⟩ := List.getElem_of_mem hl
    refine ⟨f + j, _, x, by omega, ?_, hx, h⟩
    rw [← List.getElem?_drop]
    exact List.getElem?_eq_getElem hj
  · rintro ⟨i, l, x, hi, hl, hx, h⟩
    refine ⟨x, ⟨l, ?_, hx⟩, h⟩
    refine List.mem_of_getElem? (i := i - f) ?_
    rw [List.getElem?_drop, show f + (i - f) = i by omega]
    exact hl

theorem lookN_app (s : List (List Ent)) (xs ys : List ByteArray) : ∀ i, i ≤ xs.length → lookN s (xs ++ ys) i = lookN s xs i
  | 0, _ => rfl
  | i + 1, h => by
    rw [lookN, lookN, lookN_app s xs ys i (by omega), List.take_append_of_le_length h]

theorem join_snoc (x : List UInt8) : ∀ (y : List UInt8) (ys : List (List UInt8)), Lib.join ((y :: ys) ++ [x]) [47] = Lib.join (y :: ys) [47] ++ 47 :: x
  | y, [] => by
    show Lib.join (y :: x :: []) [47] = _
    rw [join_cons2, Lib.join_one, Lib.join_one]
  | y, z :: r => by
    show Lib.join (y :: z :: (r ++ [x])) [47] = _
    rw [join_cons2, join_cons2, ← List.cons_append, join_snoc x z r]
    simp

theorem child_path {xs : List ByteArray} (h : xs.all nameB = true) (hl : xs.length ≤ 6) (x : ByteArray) : childP (pathOf xs) x = pathOf (xs ++ [x]) := by
  rcases xs with _ | ⟨y, ys⟩
  · have e : pathOf [] = ⟨#[47]⟩ := rfl
    rw [childP, if_pos e, pathOf, if_neg (by simp)]
    simp [Lib.join_one]
  · have hne : pathOf (y :: ys) ≠ ⟨#[47]⟩ := fun e => by
      have h1 := pathOf_inj h hl (ys := []) rfl (by simp) (by rw [e]; rfl)
      cases h1
    rw [childP, if_neg hne, pathOf, if_neg (by simp), pathOf, if_neg (by simp), toList_B, List.map_append, List.map_cons, List.map_singleton, join_snoc]
    rfl

/-- Whether a text is one piece. -/
def bare (z : ByteArray) : Prop := ∀ b ∈ z.data.toList, b ≠ 47

theorem names_child {xs ys : List ByteArray} {z : ByteArray} (h : xs.all nameB = true) (hz : bare z) (hn : names (pathOf (xs ++ [z])) = some ys) : ys = [] ∨ ys = xs ++ [z] := by
  have hno : ∀ x ∈ (xs ++ [z]).map (·.data.toList), ∀ b ∈ x, b ≠ 47 := by
    intro x hx
    obtain ⟨y, hy, rfl⟩ := List.mem_map.1 hx
    rcases List.mem_append.1 hy with hy | hy
    · exact nameOk_no (List.all_eq_true.1 h y hy)
    · rw [List.mem_singleton] at hy
      subst hy
      exact hz
  have hs := segs_join ((xs ++ [z]).map (·.data.toList)) (by simp) hno
  rw [pathOf, if_neg (by simp), names, toList_B, splitP] at hn
  split at hn
  · left
    simpa using hn.symm
  · right
    simp only [hs] at hn
    split at hn
    · rw [Option.map_some, map_B_toList] at hn
      exact (Option.some.inj hn).symm
    · cases hn

theorem askR_path (s : List (List Ent)) (q : ByteArray) (f : Nat) : ∀ (k fl : Nat) (met : Bool), (askR s q f k fl met).1.1.path = q
  | 0, fl, met => rfl
  | k + 1, fl, met => by
    rw [askR]
    split
    · rfl
    · split
      · exact askR_path s q f k fl met
      · rename_i x hx
        split
        · rfl
        · split
          · exact (findE_mem hx).2.1
          · split
            · rfl
            · exact askR_path s q f k k true

theorem lookN_path {s : List (List Ent)} {xs : List ByteArray} {i : Nat} {x : Ent × Nat} (h : lookN s xs i = .ok x) : x.1.path = pathOf (xs.take i) := by
  rcases i with _ | i
  · rw [lookN] at h
    cases h
    rfl
  · rw [lookN] at h
    split at h
    · cases h
    · split at h
      · cases h
      · split at h
        · cases h
          exact askR_path s _ _ _ _ _
        · cases h

theorem lookE_ok {s : List (List Ent)} {q : ByteArray} {x : Ent × Nat} (h : lookE s q = .ok x) : ∃ ys, stackOk s = true ∧ names q = some ys ∧ lookN s ys ys.length = .ok x ∧ x.1.path = q := by
  rw [lookE] at h
  split at h
  · rename_i hs
    split at h
    · cases h
    · rename_i ys hy
      refine ⟨ys, hs, hy, h, ?_⟩
      rw [lookN_path h, List.take_length]
      exact (names_some hy).2.2
  · cases h

/-- What is asked and met lies in a layer from the floor on. -/
theorem ask_met (s : List (List Ent)) (q : ByteArray) (f : Nat) : ∀ (k fl : Nat), (askR s q f k fl false).2 = true → ∃ i x, f ≤ i ∧ i < k ∧ findE (s[i]?.getD []) q = some x
  | 0, fl, h => by simp [askR] at h
  | k + 1, fl, h => by
    rw [askR] at h
    split at h
    · simp at h
    · rename_i hf
      split at h
      · obtain ⟨i, x, h1, h2, h3⟩ := ask_met s q f k fl h
        exact ⟨i, x, h1, by omega, h3⟩
      · rename_i x hx
        exact ⟨k, x, by omega, by omega, hx⟩

theorem dirE_ok {s : List (List Ent)} {p : ByteArray} {f : Nat} (h : dirE s p = .ok f) : ∃ x, lookE s p = .ok x ∧ x.1.kind ≠ 1 ∧ x.2 = f := by
  rw [dirE] at h
  split at h
  · cases h
  · rename_i x hx
    split at h
    · cases h
    · rename_i hk
      exact ⟨x, hx, hk, by cases h; rfl⟩

theorem childP_size (p z : ByteArray) : 1 + z.size ≤ (childP p z).size := by
  rw [childP]
  have hz : z.data.toList.length = z.size := Array.length_toList
  split <;> rw [size_B] <;> simp only [List.length_append, List.length_cons] <;> omega

/-- What shows at a name's path has been met. -/
theorem shows_met {s : List (List Ent)} {p z : ByteArray} {f : Nat} (hd : dirE s p = .ok f) (hz : bare z) (h0 : z.size ≠ 0) (hs : showsE s (childP p z) = true) : z ∈ metP s p f := by
  obtain ⟨x, hx, hk, rfl⟩ := dirE_ok hd
  obtain ⟨xs, hst, hn, hlx, _⟩ := lookE_ok hx
  obtain ⟨hall, hl6, hp⟩ := names_some hn
  rw [showsE] at hs
  split at hs
  · rename_i y hy
    obtain ⟨ys, _, hny, hly, _⟩ := lookE_ok hy
    rw [← hp, child_path hall hl6] at hny
    rcases names_child hall hz hny with rfl | rfl
    · have h1 := (names_some hny).2.2
      have h2 := childP_size p z
      rw [← hp, child_path hall hl6, ← h1] at h2
      have h3 : (pathOf []).size = 1 := rfl
      omega
    · rw [List.length_append, List.length_singleton, lookN, lookN_app s xs [z] xs.length (Nat.le_refl _), hlx] at hly
      simp only [if_neg hk] at hly
      split at hly
      · rename_i hm
        rw [List.take_of_length_le (by simp), askE] at hm
        obtain ⟨i, u, h1, h2, h3⟩ := ask_met s _ _ _ _ hm
        obtain ⟨hu, hup, _⟩ := findE_mem h3
        rw [mem_metP]
        refine ⟨i, s[i]?.getD [], u, h1, ?_, hu, ?_⟩
        · rw [List.getElem?_eq_getElem h2]; rfl
        · rw [inP_iff]
          exact ⟨xs, by rw [hup]; exact hny, hp⟩
      · cases hly
  · cases hs

/-- A name is in the list just if something shows at its path. -/
theorem names_shows {s : List (List Ent)} {p z : ByteArray} {f : Nat} {l : List ByteArray} (hd : dirE s p = .ok f) (hl : NamesIs s p f l) (hz : bare z) (h0 : z.size ≠ 0) : z ∈ l ↔ showsE s (childP p z) = true := by
  rw [hl.2]
  exact ⟨fun h => h.2, fun h => ⟨shows_met hd hz h0 h, h⟩⟩

theorem shows_path {s : List (List Ent)} {q : ByteArray} (h : showsE s q = true) : ∃ x, lookE s q = .ok x ∧ x.1.path = q := by
  rw [showsE] at h
  split at h
  · rename_i x hx
    obtain ⟨_, _, _, _, h⟩ := lookE_ok hx
    exact ⟨x, hx, h⟩
  · cases h
end Go.Proofs.YthadldnojdjlnaaGreatDoor
