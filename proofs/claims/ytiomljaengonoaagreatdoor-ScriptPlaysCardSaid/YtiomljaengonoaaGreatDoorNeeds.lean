/- script.needs: the table of what acts need, and a look into it. -/
import Derived.Test.YtiomljaengonoaaGreatDoorScrW
import Derived.Test.YtiomljaengonoaaGreatDoorNumb
import Derived.Test.YtiomljaengonoaaGreatDoorBut
import Derived.Test.YtiomljaengonoaaGreatDoorShelf
import Derived.Maps.OwnSet
import Derived.WalkKit
import Derived.Maps.OwnOps
import Derived.Maps.Views
import Derived.StringKeys
namespace Go.Proofs.YtiomljaengonoaaGreatDoor
open Go Go.RowKit Go.Shelf Go.Proofs Go.Maps

/-- A table of texts by texts. -/
def TabS (l : List (List UInt8 × List UInt8)) : DataW Value := .map (l.map fun x => (Lit.string x.1, .held (.string (B x.2))))

theorem same_str (a k : List UInt8) : (Lit.string a).sameKey (.string k) = decide (a = k) := by
  by_cases h : a = k
  · subst h; simp [Lit.sameKey]
  · simp [Lit.sameKey, h]

theorem tabS_at (l : List (List UInt8 × List UInt8)) (k : List UInt8) (z : Value) : (TabS l).atKey (.string k) (.held z) = .held (match l.find? (fun x => decide (x.1 = k)) with | some x => .string (B x.2) | none => z) := by
  induction l with
  | nil => rfl
  | cons x l ih =>
    simp only [TabS, DataW.atKey, List.map_cons, List.find?_cons, same_str] at ih ⊢
    by_cases e : x.1 = k
    · simp [e]
    · simpa [e] using ih

theorem tabS_has (l : List (List UInt8 × List UInt8)) (k : List UInt8) : Maps.has (TabS l) (.string k) = (l.find? (fun x => decide (x.1 = k))).isSome := by
  induction l with
  | nil => rfl
  | cons x l ih =>
    by_cases e : x.1 = k
    · simp [Maps.has, TabS, same_str, e]
    · simpa [Maps.has, TabS, same_str, e] using ih

theorem law_str : Keyed Tryz.prog 9 := string_keyed Tryz.underlying9
theorem zero_str (w : World) : (zeroValue 9).run Tryz.prog w = .ok (.string ⟨#[]⟩) w := by kernel_rfl

/-- The table of needs in memory. -/
def NMap (w : World) (b : Nat) : Prop := w.ownsMap Tryz.prog 9 RH b 17 (TabS needsT)

theorem NMap.ext {w w' : World} {b : Nat} (h : NMap w b) (he : Ext w w') : NMap w' b := by
  have hlt := World.ownsMap.lt h
  obtain ⟨es, clock, hh, r⟩ := h
  exact ⟨es, clock, (Below.block he b hlt).trans hh, r⟩

def needV (nm : List UInt8) : Value := .string (B ((needsOf nm).getD []))

theorem look_need {ops : Array Oper} {rest : List Oper} {o : Oper} {a : Act} {Q : Exit → Act → World → Prop} (w : World) (hg : o.guard = none) (m x : Operand) (hop : o.op = Op.lookup 152 m x true)
    (b : Nat) (hm : a.eval m = .map (some b)) (hown : NMap w b) (nm : ByteArray) (hx : a.eval x = .string nm) (hw : nm.size ≤ maxLen) (v : Value) (ok : Bool) (hv : needV nm.data.toList = v) (hok : (needsOf nm.data.toList).isSome = ok)
    (hK : wpList Tryz.prog ops Q rest (a.put o.dst (.tuple #[v, .bool ok])) w) : wpList Tryz.prog ops Q (o :: rest) a w := by
  refine wpList_lookup_own_ok w hg m x _ hop 9 9 law_str Tryz.underlying152 RH (zero_str w) (.held (.string ⟨#[]⟩)) [] rfl b 17 (TabS needsT) hm hown _ (.string nm.data.toList) hx (WideMaps.keyOf_string_mk Tryz.underlying9 hw) ?_
  intro u ps hu
  rw [tabS_at] at hu
  rw [tabS_has]
  have e1 : (needsT.find? (fun x => decide (x.1 = nm.data.toList))).isSome = ok := by rw [← hok, needsOf, Option.isSome_map]
  rw [e1]
  have : u = v := by
    rw [← hv, needV, needsOf]
    simp only [RH, Option.some.injEq, Prod.mk.injEq, DataW.held.injEq] at hu
    rw [hu.1]
    cases needsT.find? (fun x => decide (x.1 = nm.data.toList)) <;> rfl
  rw [this]
  exact hK

theorem keyS (s : ByteArray) (h : s.size ≤ maxLen) : keyOf Tryz.prog 9 (.string s) = some (.string s.data.toList) := WideMaps.keyOf_string_mk Tryz.underlying9 h

theorem needs_puts : ((((((((((((((((((DataW.map [] : DataW Value).put (.string [99, 114, 101, 97, 116, 101]) (.held (.string ⟨#[112]⟩))).put (.string [109, 107, 100, 105, 114]) (.held (.string ⟨#[112]⟩))).put (.string [117, 110, 108, 105, 110, 107]) (.held (.string ⟨#[112]⟩))).put (.string [114, 109, 100, 105, 114]) (.held (.string ⟨#[112]⟩))).put (.string [114, 101, 110, 97, 109, 101]) (.held (.string ⟨#[112, 113]⟩))).put (.string [119, 114, 105, 116, 101]) (.held (.string ⟨#[112, 110, 113]⟩))).put (.string [99, 117, 116]) (.held (.string ⟨#[112, 110]⟩))).put (.string [114, 101, 97, 100]) (.held (.string ⟨#[112]⟩))).put (.string [108, 105, 115, 116]) (.held (.string ⟨#[112]⟩))).put (.string [115, 121, 110, 99]) (.held (.string ⟨#[]⟩))).put (.string [99, 111, 109, 109, 105, 116]) (.held (.string ⟨#[]⟩))).put (.string [115, 110, 97, 112]) (.held (.string ⟨#[]⟩))).put (.string [104, 111, 108, 100]) (.held (.string ⟨#[112]⟩))).put (.string [112, 97, 114, 116]) (.held (.string ⟨#[110, 109]⟩))).put (.string [99, 108, 111, 115, 101]) (.held (.string ⟨#[110]⟩))).put (.string [115, 116, 101, 112]) (.held (.string ⟨#[]⟩))).put (.string [116, 114, 101, 101]) (.held (.string ⟨#[]⟩))) = TabS needsT := by kernel_rfl

theorem turned_but {w0 w w' : World} {b : Nat} (h : Ext w0 w) (hb : w0.heap.size ≤ b) (ht : w.mapTurned w' b) : Ext w0 w' := by
  exact Below.grown h ht.grown h.size (fun k e => by cases e; exact hb)

set_option maxHeartbeats 8000000 in
set_option maxRecDepth 100000 in
theorem needs_any (w : World) :
    Calls Tryz.prog 71 #[] w fun e w' => ∃ b, e = .returned (.map (some b)) ∧ NMap w' b ∧ Ext w w' := by
  have hmm := @run_makeMap Tryz.prog
  have o0 : (w.alloc (.map #[] 0)).ownsMap Tryz.prog 9 RH w.heap.size 0 (.map []) := World.ownsMap_made w _ _ _
  have e0 : Ext w (w.alloc (.map #[] 0)) := (by repeat (first | exact Ext.refl _ | assumption | refine Ext.alloc ?_ _ | refine Ext.drew ?_ | refine Ext.drewN ?_ _ | refine Ext.setCell ?_ (by first | omega | (simp; done) | (simp; omega)) _ | refine Ext.trans ?_ (by assumption)))
  obtain ⟨w1, r1, o1, t1⟩ := o0.store (e := 9) (t := 152) law_str Tryz.underlying152 (by unfold maxLen; omega) (key := .string ⟨#[99, 114, 101, 97, 116, 101]⟩) (val := .string ⟨#[112]⟩) (keyS _ (by decide)) (d := .held (.string ⟨#[112]⟩)) (ps := []) rfl
  have e1 := turned_but e0 (Nat.le_refl _) t1
  clear o0 e0 t1
  obtain ⟨w2, r2, o2, t2⟩ := o1.store (e := 9) (t := 152) law_str Tryz.underlying152 (by unfold maxLen; omega) (key := .string ⟨#[109, 107, 100, 105, 114]⟩) (val := .string ⟨#[112]⟩) (keyS _ (by decide)) (d := .held (.string ⟨#[112]⟩)) (ps := []) rfl
  have e2 := turned_but e1 (Nat.le_refl _) t2
  clear o1 e1 t2
  obtain ⟨w3, r3, o3, t3⟩ := o2.store (e := 9) (t := 152) law_str Tryz.underlying152 (by unfold maxLen; omega) (key := .string ⟨#[117, 110, 108, 105, 110, 107]⟩) (val := .string ⟨#[112]⟩) (keyS _ (by decide)) (d := .held (.string ⟨#[112]⟩)) (ps := []) rfl
  have e3 := turned_but e2 (Nat.le_refl _) t3
  clear o2 e2 t3
  obtain ⟨w4, r4, o4, t4⟩ := o3.store (e := 9) (t := 152) law_str Tryz.underlying152 (by unfold maxLen; omega) (key := .string ⟨#[114, 109, 100, 105, 114]⟩) (val := .string ⟨#[112]⟩) (keyS _ (by decide)) (d := .held (.string ⟨#[112]⟩)) (ps := []) rfl
  have e4 := turned_but e3 (Nat.le_refl _) t4
  clear o3 e3 t4
  obtain ⟨w5, r5, o5, t5⟩ := o4.store (e := 9) (t := 152) law_str Tryz.underlying152 (by unfold maxLen; omega) (key := .string ⟨#[114, 101, 110, 97, 109, 101]⟩) (val := .string ⟨#[112, 113]⟩) (keyS _ (by decide)) (d := .held (.string ⟨#[112, 113]⟩)) (ps := []) rfl
  have e5 := turned_but e4 (Nat.le_refl _) t5
  clear o4 e4 t5
  obtain ⟨w6, r6, o6, t6⟩ := o5.store (e := 9) (t := 152) law_str Tryz.underlying152 (by unfold maxLen; omega) (key := .string ⟨#[119, 114, 105, 116, 101]⟩) (val := .string ⟨#[112, 110, 113]⟩) (keyS _ (by decide)) (d := .held (.string ⟨#[112, 110, 113]⟩)) (ps := []) rfl
  have e6 := turned_but e5 (Nat.le_refl _) t6
  clear o5 e5 t6
  obtain ⟨w7, r7, o7, t7⟩ := o6.store (e := 9) (t := 152) law_str Tryz.underlying152 (by unfold maxLen; omega) (key := .string ⟨#[99, 117, 116]⟩) (val := .string ⟨#[112, 110]⟩) (keyS _ (by decide)) (d := .held (.string ⟨#[112, 110]⟩)) (ps := []) rfl
  have e7 := turned_but e6 (Nat.le_refl _) t7
  clear o6 e6 t7
  obtain ⟨w8, r8, o8, t8⟩ := o7.store (e := 9) (t := 152) law_str Tryz.underlying152 (by unfold maxLen; omega) (key := .string ⟨#[114, 101, 97, 100]⟩) (val := .string ⟨#[112]⟩) (keyS _ (by decide)) (d := .held (.string ⟨#[112]⟩)) (ps := []) rfl
  have e8 := turned_but e7 (Nat.le_refl _) t8
  clear o7 e7 t8
  obtain ⟨w9, r9, o9, t9⟩ := o8.store (e := 9) (t := 152) law_str Tryz.underlying152 (by unfold maxLen; omega) (key := .string ⟨#[108, 105, 115, 116]⟩) (val := .string ⟨#[112]⟩) (keyS _ (by decide)) (d := .held (.string ⟨#[112]⟩)) (ps := []) rfl
  have e9 := turned_but e8 (Nat.le_refl _) t9
  clear o8 e8 t9
  obtain ⟨w10, r10, o10, t10⟩ := o9.store (e := 9) (t := 152) law_str Tryz.underlying152 (by unfold maxLen; omega) (key := .string ⟨#[115, 121, 110, 99]⟩) (val := .string ⟨#[]⟩) (keyS _ (by decide)) (d := .held (.string ⟨#[]⟩)) (ps := []) rfl
  have e10 := turned_but e9 (Nat.le_refl _) t10
  clear o9 e9 t10
  obtain ⟨w11, r11, o11, t11⟩ := o10.store (e := 9) (t := 152) law_str Tryz.underlying152 (by unfold maxLen; omega) (key := .string ⟨#[99, 111, 109, 109, 105, 116]⟩) (val := .string ⟨#[]⟩) (keyS _ (by decide)) (d := .held (.string ⟨#[]⟩)) (ps := []) rfl
  have e11 := turned_but e10 (Nat.le_refl _) t11
  clear o10 e10 t11
  obtain ⟨w12, r12, o12, t12⟩ := o11.store (e := 9) (t := 152) law_str Tryz.underlying152 (by unfold maxLen; omega) (key := .string ⟨#[115, 110, 97, 112]⟩) (val := .string ⟨#[]⟩) (keyS _ (by decide)) (d := .held (.string ⟨#[]⟩)) (ps := []) rfl
  have e12 := turned_but e11 (Nat.le_refl _) t12
  clear o11 e11 t12
  obtain ⟨w13, r13, o13, t13⟩ := o12.store (e := 9) (t := 152) law_str Tryz.underlying152 (by unfold maxLen; omega) (key := .string ⟨#[104, 111, 108, 100]⟩) (val := .string ⟨#[112]⟩) (keyS _ (by decide)) (d := .held (.string ⟨#[112]⟩)) (ps := []) rfl
  have e13 := turned_but e12 (Nat.le_refl _) t13
  clear o12 e12 t13
  obtain ⟨w14, r14, o14, t14⟩ := o13.store (e := 9) (t := 152) law_str Tryz.underlying152 (by unfold maxLen; omega) (key := .string ⟨#[112, 97, 114, 116]⟩) (val := .string ⟨#[110, 109]⟩) (keyS _ (by decide)) (d := .held (.string ⟨#[110, 109]⟩)) (ps := []) rfl
  have e14 := turned_but e13 (Nat.le_refl _) t14
  clear o13 e13 t14
  obtain ⟨w15, r15, o15, t15⟩ := o14.store (e := 9) (t := 152) law_str Tryz.underlying152 (by unfold maxLen; omega) (key := .string ⟨#[99, 108, 111, 115, 101]⟩) (val := .string ⟨#[110]⟩) (keyS _ (by decide)) (d := .held (.string ⟨#[110]⟩)) (ps := []) rfl
  have e15 := turned_but e14 (Nat.le_refl _) t15
  clear o14 e14 t15
  obtain ⟨w16, r16, o16, t16⟩ := o15.store (e := 9) (t := 152) law_str Tryz.underlying152 (by unfold maxLen; omega) (key := .string ⟨#[115, 116, 101, 112]⟩) (val := .string ⟨#[]⟩) (keyS _ (by decide)) (d := .held (.string ⟨#[]⟩)) (ps := []) rfl
  have e16 := turned_but e15 (Nat.le_refl _) t16
  clear o15 e15 t16
  obtain ⟨w17, r17, o17, t17⟩ := o16.store (e := 9) (t := 152) law_str Tryz.underlying152 (by unfold maxLen; omega) (key := .string ⟨#[116, 114, 101, 101]⟩) (val := .string ⟨#[]⟩) (keyS _ (by decide)) (d := .held (.string ⟨#[]⟩)) (ps := []) rfl
  have e17 := turned_but e16 (Nat.le_refl _) t17
  clear o16 e16 t17
  have o : NMap w17 w.heap.size := by
    exact Eq.mp (congrArg (fun D => w17.ownsMap Tryz.prog 9 RH w.heap.size 17 D) needs_puts) o17
  clear o17
  go_enter Tryz.func71, Tryz.ntmps71
  go_wp2
  go_ret
  exact ⟨_, rfl, o, e17⟩
end Go.Proofs.YtiomljaengonoaaGreatDoor
