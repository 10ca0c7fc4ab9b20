/- Joined: Entries of layers in memory, and the order of texts; entry; What a layer is, in plain Lean; layer; Blocks of cells known whole; layer; What the rows of stacks and layers need: the builder with the sizes, and layers and stacks out of the condition; A table of values by numbers, as the kit's laws on maps read it; Worlds that have grown, where some blocks may have turned; look; look -/
import Derived.Test.YthadldnojdjlnaaGreatDoorJP0
import Derived.Sort.Walk0
import Derived.Lib.Bytealg
import Derived.Deep.RegionWith
import Derived.Lib.QuietBelow
import Derived.Deep.DeepCutAuto
import Derived.Deep.CutBlock
import Derived.HandedShaped
import Derived.Deep.Slices
import Derived.SizedLaws
import Derived.LaidLaws
import Derived.Maps.OwnSet
/-! Ent -/
namespace Go.Proofs.YthadldnojdjlnaaGreatDoor
open Go Go.RowKit

/-- An entry. -/
structure Ent where
  path : ByteArray
  kind : Int
  data : ByteArray

def Ent.val (x : Ent) : Value := .agg #[.string x.path, .int .i64 x.kind, .string x.data]
/-- Its texts are no greater than memory has room. -/
def Ent.fits (x : Ent) : Prop := x.path.size ≤ 140737488355328 ∧ x.data.size ≤ 140737488355328
def RE (_ : World) (x : Ent) (cs : List Value) : Prop := cs = [.string x.path, .int .i64 x.kind, .string x.data] ∧ x.fits
theorem RE.stays : Stays RE := fun _ _ _ _ _ h => h
abbrev RdE := Rd RE 3
theorem RdE.ext {w w' : World} {v : Value} {l : List Ent} (h : RdE w v l) (he : Ext w w') : RdE w' v l := Rd.ext RE.stays h he

theorem RdE.open_ {w : World} {v : Value} {l : List Ent} (h : RdE w v l) (hne : l ≠ []) :
    ∃ b o c, v = .slice (some ⟨b, o, Option.none⟩) l.length c ∧ l.length ≤ c ∧ c ≤ 9223372036854775807 ∧
      ∀ (j : Nat) (h : j < l.length), w.cell? ⟨b, o + j * 3, Option.none⟩ = some (.string l[j].path) ∧ w.cell? ⟨b, o + j * 3 + 1, Option.none⟩ = some (.int .i64 l[j].kind) ∧ w.cell? ⟨b, o + j * 3 + 2, Option.none⟩ = some (.string l[j].data) ∧ l[j].fits := by
  obtain ⟨b, o, c, rfl, h1, h2, hc⟩ := Rd.open_ h hne
  refine ⟨b, o, c, rfl, h1, h2, fun j hj => ?_⟩
  obtain ⟨cs, ⟨hr, hf⟩, hu⟩ := hc j l[j] (List.getElem?_eq_getElem hj)
  subst hr
  have e0 := hu 0 _ rfl
  have e1 := hu 1 _ rfl
  have e2 := hu 2 _ rfl
  exact ⟨e0, e1, e2, hf⟩

/-- Text by text, byte by byte. -/
def lt (a b : ByteArray) : Bool := decide (a.data.toList < b.data.toList)
theorem bytesLess_lt (a b : ByteArray) : Op.bytesLess a.toList b.toList = lt a b := by
  rw [toList_eq, toList_eq, bytesLess_eq]
  rfl

theorem compare_lt : ∀ (a b : List UInt8), (Lib.compareBytes a b < 0) ↔ a < b
  | [], [] => by simp [Lib.compareBytes]
  | [], _ :: _ => by simp [Lib.compareBytes]
  | _ :: _, [] => by simp [Lib.compareBytes]
  | a :: xs, b :: ys => by
    rw [Lib.compareBytes, List.cons_lt_cons_iff]
    split
    · rename_i h; simp [h]
    · rename_i h
      split
      · rename_i h2
        simp only [h, false_or]
        constructor
        · intro h3; omega
        · rintro ⟨rfl, _⟩; exact absurd h2 h
      · rename_i h2
        have e : a = b := UInt8.toNat_inj.1 (by rw [UInt8.lt_iff_toNat_lt] at h h2; omega)
        subst e
        rw [or_iff_right (UInt8.lt_irrefl _), and_iff_right rfl]
        exact compare_lt xs ys

theorem compare_eq : ∀ (a b : List UInt8), (Lib.compareBytes a b = 0) ↔ a = b
  | [], [] => by simp [Lib.compareBytes]
  | [], _ :: _ => by simp [Lib.compareBytes]
  | _ :: _, [] => by simp [Lib.compareBytes]
  | a :: xs, b :: ys => by
    rw [Lib.compareBytes]
    split
    · rename_i h
      simp only [List.cons.injEq]
      constructor
      · intro h3; omega
      · rintro ⟨rfl, _⟩; exact absurd h (UInt8.lt_irrefl _)
    · rename_i h
      split
      · rename_i h2
        simp only [List.cons.injEq]
        constructor
        · intro h3; omega
        · rintro ⟨rfl, _⟩; exact absurd h2 (UInt8.lt_irrefl _)
      · rename_i h2
        have e : a = b := UInt8.toNat_inj.1 (by rw [UInt8.lt_iff_toNat_lt] at h h2; omega)
        simp only [e, List.cons.injEq, true_and]
        exact compare_eq xs ys

theorem data_inj {a b : ByteArray} (h : a.data.toList = b.data.toList) : a = b := by rw [← B_toList a, h, B_toList]

theorem lt_irrefl (a : ByteArray) : lt a a = false := by simp [lt, List.lt_irrefl]
theorem lt_trans {a b c : ByteArray} (h : lt a b = true) (k : lt b c = true) : lt a c = true := by
  simp only [lt, decide_eq_true_eq] at *
  exact List.lt_trans h k
theorem lt_asymm {a b : ByteArray} (h : lt a b = true) : lt b a = false := by
  rcases hb : lt b a with _ | _
  · rfl
  · have := lt_trans h hb
    rw [lt_irrefl] at this
    cases this
theorem lt_ne {a b : ByteArray} (h : lt a b = true) : a ≠ b := fun e => by subst e; rw [lt_irrefl] at h; cases h
theorem lt_total {a b : ByteArray} (h : lt a b = false) (k : lt b a = false) : a = b := by
  simp only [lt, decide_eq_false_iff_not] at h k
  exact data_inj (List.le_antisymm (List.not_lt.1 k) (List.not_lt.1 h))

/-- Rising by paths. -/
def Rising (l : List Ent) : Prop := l.Pairwise fun a b => lt a.path b.path = true
theorem Rising.at_ {l : List Ent} (h : Rising l) {i j : Nat} (hij : i < j) (hj : j < l.length) : lt l[i].path l[j].path = true := List.pairwise_iff_getElem.1 h i j (by omega) hj hij

/-- Where an entry of a path stands, or would. -/
def AtIs (l : List Ent) (p : ByteArray) (k : Nat) (ok : Bool) : Prop :=
  k ≤ l.length ∧ (∀ (j : Nat) (h : j < l.length), j < k → lt l[j].path p = true) ∧ (∀ (j : Nat) (h : j < l.length), k ≤ j → lt l[j].path p = false) ∧ (ok = true ↔ ∃ h : k < l.length, l[k].path = p)
end Go.Proofs.YthadldnojdjlnaaGreatDoor

/-! Layer -/
namespace Go.Proofs.YthadldnojdjlnaaGreatDoor
open Go Go.RowKit Go.Shelf Go.Proofs

set_option maxHeartbeats 1000000 in
theorem atf_any (x : Ent) (p : ByteArray) (w : World) :
    Calls Tryz.prog 101 #[.agg #[.string x.path, .int .i64 x.kind, .string x.data], .string p] w fun e w' => e = .returned (.int .i64 (Lib.compareBytes x.path.data.toList p.data.toList)) ∧ Ext w w' := by
  have H := fun w => Tryz.strings_Compare x.path p w
  go_enter Tryz.func101, Tryz.ntmps101
  go_wp2_with (go_at_call 102; refine (H _).mono ?_; rintro e w' ⟨rfl, rfl⟩)
  go_ret
  exact ⟨rfl, (by repeat (first | exact Ext.refl _ | assumption | refine Ext.alloc ?_ _ | refine Ext.drew ?_ | refine Ext.drewN ?_ _ | refine Ext.setCell ?_ (by first | omega | (simp; done) | (simp; omega)) _ | refine Ext.trans ?_ (by assumption)))⟩

/-- What a search knows: below i all stand ahead of p, from j on none does. -/
def Bnd (l : List Ent) (p : ByteArray) (i j : Nat) : Prop :=
  (∀ (t : Nat) (h : t < l.length), t < i → lt l[t].path p = true) ∧ (∀ (t : Nat) (h : t < l.length), j ≤ t → lt l[t].path p = false)

set_option maxHeartbeats 4000000 in
theorem search_any (v : Value) (l : List Ent) (p : ByteArray) (w : World) (hv : RdE w v l) (hs : Rising l) :
    Calls Tryz.prog 100 #[v, .string p, .func (.func 101) #[] #[]] w
      fun e w' => (∃ (k : Nat) (ok : Bool), e = .returned (.tuple #[.int .i64 k, .bool ok]) ∧ AtIs l p k ok) ∧ Ext w w' := by
  have hlen := Rd.len hv
  have e158 : ∀ args w, (callFunc 101 args).run Tryz.prog w = .ok (.enter 101 args) w := enters_of Tryz.func101 (by kernel_rfl) rfl
  by_cases h0 : l = []
  · subst h0
    obtain ⟨A, c, rfl, _⟩ := hv
    go_enter Tryz.func100, Tryz.ntmps100
    go_wp2
    go_loopw [9, 10] (fun i j wr => i = .int .i64 0 ∧ j = .int .i64 0 ∧ Ext w wr) (fun _ _ _ => 0)
    case atStart => exact ⟨rfl, rfl, Ext.refl w⟩
    case round =>
      obtain ⟨rfl, rfl, hE⟩ := hrel
      go_wp2
      go_ret2
      exact ⟨⟨0, false, rfl, by simp, fun j h => by simp at h, fun j h => by simp at h, by simp⟩, hE⟩
  · obtain ⟨b, o, c, rfl, hc1, hc2, hcell⟩ := RdE.open_ hv h0
    have Hcell := Lib.hid hcell
    clear hcell hv
    obtain ⟨n, hn⟩ : ∃ n, n = l.length := ⟨_, rfl⟩
    have Hn := Lib.hid hn
    rw [← hn] at hlen hc1 ⊢
    clear hn
    go_enter Tryz.func100, Tryz.ntmps100
    go_wp2
    go_loopw [9, 10] (fun i j wr => ∃ i' j' : Nat, i = .int .i64 i' ∧ j = .int .i64 j' ∧ i' ≤ j' ∧ j' ≤ n ∧ Bnd l p i' j' ∧ Ext w wr) (fun i j _ => (intOf j).toNat - (intOf i).toNat)
    case atStart => exact ⟨0, n, rfl, rfl, Nat.zero_le _, Nat.le_refl _, ⟨fun t _ h => by omega, fun t h h' => by have := Hn.out; omega⟩, Ext.refl w⟩
    case round =>
      obtain ⟨i, j, rfl, rfl, hij, hjn, hB, hE⟩ := hrel
      by_cases hlt : i < j
      · have hh : (i + j) / 2 < l.length := by have := Hn.out; omega
        obtain ⟨x, hx⟩ : ∃ x, l[(i + j) / 2]'hh = x := ⟨_, rfl⟩
        obtain ⟨q0, q1, q2, _⟩ := Hcell.out _ hh
        rw [hx] at q0 q1 q2
        have g0 := hE.cell q0
        have g1 := hE.cell q1
        have g2 := hE.cell q2
        have Hx := Lib.hid hx
        have HB := Lib.hid hB
        clear q0 q1 q2 hx hB
        by_cases hc : Lib.compareBytes x.path.data.toList p.data.toList < 0
        · have hl : lt x.path p = true := by simp only [lt, decide_eq_true_eq]; exact (compare_lt _ _).1 hc
          have Hl := Lib.hid hl
          clear hl
          go_wp2_with (go_at_fn 101; refine (atf_any _ _ _).mono ?_; rintro e w2 ⟨rfl, hE2⟩)
          go_roundw
          case rel =>
            refine ⟨(i + j) / 2 + 1, j, by go_num, rfl, by omega, hjn, ⟨fun t ht h => ?_, HB.out.2⟩, hE.trans hE2⟩
            rcases Nat.lt_or_ge t ((i + j) / 2) with h1 | h1
            · exact lt_trans (hs.at_ h1 hh) (by rw [Hx.out]; exact Hl.out)
            · obtain rfl : t = (i + j) / 2 := by omega
              rw [Hx.out]; exact Hl.out
          case measure => simp [intOf]; omega
        · have hl : lt x.path p = false := by simp only [lt, decide_eq_false_iff_not]; exact fun h => hc ((compare_lt _ _).2 h)
          have Hl := Lib.hid hl
          clear hl
          go_wp2_with (go_at_fn 101; refine (atf_any _ _ _).mono ?_; rintro e w2 ⟨rfl, hE2⟩)
          go_roundw
          case rel =>
            refine ⟨i, (i + j) / 2, rfl, by go_num, by omega, by omega, ⟨HB.out.1, fun t ht h => ?_⟩, hE.trans hE2⟩
            rcases Nat.lt_or_ge ((i + j) / 2) t with h1 | h1
            · rcases hl2 : lt l[t].path p with _ | _
              · rfl
              · have := lt_trans (hs.at_ h1 ht) hl2
                rw [Hx.out, Hl.out] at this
                cases this
            · obtain rfl : t = (i + j) / 2 := by omega
              rw [Hx.out]; exact Hl.out
          case measure => simp [intOf]; omega
      · obtain rfl : i = j := by omega
        have HB := Lib.hid hB
        clear hB
        by_cases hin : i < n
        · have hh : i < l.length := by have := Hn.out; omega
          obtain ⟨x, hx⟩ : ∃ x, l[i]'hh = x := ⟨_, rfl⟩
          obtain ⟨q0, q1, q2, _⟩ := Hcell.out _ hh
          rw [hx] at q0 q1 q2
          have g0 := hE.cell q0
          have g1 := hE.cell q1
          have g2 := hE.cell q2
          have Hx := Lib.hid hx
          clear q0 q1 q2 hx
          go_wp2_with (go_at_fn 101; refine (atf_any _ _ _).mono ?_; rintro e w2 ⟨rfl, hE2⟩)
          go_ret2
          refine ⟨⟨i, _, rfl, by have := Hn.out; omega, HB.out.1, HB.out.2, ?_⟩, hE.trans hE2⟩
          rw [beq_iff_eq, compare_eq]
          constructor
          · intro h
            exact ⟨hh, by rw [Hx.out]; exact data_inj h⟩
          · rintro ⟨_, h⟩
            rw [Hx.out] at h
            rw [h]
        · go_wp2
          go_ret2
          exact ⟨⟨i, false, rfl, by have := Hn.out; omega, HB.out.1, HB.out.2, ⟨fun h => (by cases h), fun ⟨h, _⟩ => absurd h (by have := Hn.out; omega)⟩⟩, hE⟩

set_option maxHeartbeats 1000000 in
theorem at_any (v : Value) (l : List Ent) (p : ByteArray) (w : World) (hv : RdE w v l) (hs : Rising l) :
    Calls Tryz.prog 70 #[v, .string p] w fun e w' => (∃ (k : Nat) (ok : Bool), e = .returned (.tuple #[.int .i64 k, .bool ok]) ∧ AtIs l p k ok) ∧ Ext w w' := by
  have H := search_any v l p w hv hs
  go_enter Tryz.func70, Tryz.ntmps70
  go_wp2_with (go_at_call 100; refine H.mono ?_; rintro e w' ⟨⟨k, ok, rfl, hA⟩, hE⟩; have HA := Lib.hid hA; clear hA)
  go_ret2
  exact ⟨⟨k, ok, rfl, HA.out⟩, hE⟩

set_option maxHeartbeats 1000000 in
theorem Less_any (x y : Ent) (w : World) :
    Calls Tryz.prog 68 #[.agg #[.string x.path, .int .i64 x.kind, .string x.data], .agg #[.string y.path, .int .i64 y.kind, .string y.data]] w fun e w' => e = .returned (.bool (lt x.path y.path)) ∧ Ext w w' := by
  go_enter Tryz.func68, Tryz.ntmps68
  go_wp2
  go_ret
  exact ⟨by rw [bytesLess_lt]; rfl, (by repeat (first | exact Ext.refl _ | assumption | refine Ext.alloc ?_ _ | refine Ext.drew ?_ | refine Ext.drewN ?_ _ | refine Ext.setCell ?_ (by first | omega | (simp; done) | (simp; omega)) _ | refine Ext.trans ?_ (by assumption)))⟩

def holds (x : Ent) : Bool := x.kind == 2 || x.kind == 4

set_option maxHeartbeats 1000000 in
theorem Holds_any (x : Ent) (w : World) :
    Calls Tryz.prog 71 #[.agg #[.string x.path, .int .i64 x.kind, .string x.data]] w fun e w' => e = .returned (.bool (holds x)) ∧ Ext w w' := by
  unfold holds
  by_cases h2 : x.kind = 2
  · have e2 : (x.kind == 2) = true := by simp [h2]
    have H := Lib.hid h2
    clear h2
    go_enter Tryz.func71, Tryz.ntmps71
    go_wp2
    go_ret
    exact ⟨by simp; exact .inl H.out, (by repeat (first | exact Ext.refl _ | assumption | refine Ext.alloc ?_ _ | refine Ext.drew ?_ | refine Ext.drewN ?_ _ | refine Ext.setCell ?_ (by first | omega | (simp; done) | (simp; omega)) _ | refine Ext.trans ?_ (by assumption)))⟩
  · have e2 : (x.kind == 2) = false := by simp [h2]
    have H := Lib.hid h2
    clear h2
    go_enter Tryz.func71, Tryz.ntmps71
    go_wp2
    go_ret
    exact ⟨by simp; exact fun h => absurd h H.out, (by repeat (first | exact Ext.refl _ | assumption | refine Ext.alloc ?_ _ | refine Ext.drew ?_ | refine Ext.drewN ?_ _ | refine Ext.setCell ?_ (by first | omega | (simp; done) | (simp; omega)) _ | refine Ext.trans ?_ (by assumption)))⟩

/-- An entry that may be. -/
def entOk (x : Ent) : Bool := decide (1 ≤ deep x.path) && (if x.kind = 1 then decide (x.data.size ≤ 256) else (decide (2 ≤ x.kind) && decide (x.kind ≤ 4) && x.data.data.toList.isEmpty))

set_option maxHeartbeats 2000000 in
theorem EntRight_any (x : Ent) (w : World) (hf : x.fits) :
    Calls Tryz.prog 67 #[.agg #[.string x.path, .int .i64 x.kind, .string x.data]] w fun e w' => e = .returned (.bool (entOk x)) ∧ Ext w w' := by
  have HD := fun w => Deep_any x.path w hf.1
  go_enter Tryz.func67, Tryz.ntmps67
  have e0 : x.data.toList.isEmpty = x.data.data.toList.isEmpty := by rw [toList_eq]
  obtain ⟨em, hem⟩ : ∃ em, x.data.data.toList.isEmpty = em := ⟨_, rfl⟩
  obtain ⟨d, hd⟩ : ∃ d, deep x.path = d := ⟨_, rfl⟩
  obtain ⟨r, hr⟩ : ∃ r, entOk x = r := ⟨_, rfl⟩
  rw [hr]
  rw [entOk, hem, hd] at hr
  rw [hem] at e0
  rw [hd] at HD
  have Hr := Lib.hid hr
  clear hr hem hd hf
  go_wp2_with (go_at_call 99; refine (HD _).mono ?_; rintro e w' ⟨rfl, hE⟩; have g1 := hE.cell (p := ⟨w.heap.size, 1, none⟩) (v := .int .i64 x.kind) (by rw [World.cell?_alloc_at _ _ _ _ rfl]; rfl); have g2 := hE.cell (p := ⟨w.heap.size, 2, none⟩) (v := .string x.data) (by rw [World.cell?_alloc_at _ _ _ _ rfl]; rfl))
  all_goals go_ret
  all_goals refine ⟨?_, (by repeat (first | exact Ext.refl _ | assumption | refine Ext.alloc ?_ _ | refine Ext.drew ?_ | refine Ext.drewN ?_ _ | refine Ext.setCell ?_ (by first | omega | (simp; done) | (simp; omega)) _ | refine Ext.trans ?_ (by assumption)))⟩
  · have hd : ¬ 1 ≤ d := by have h : d < 1 := by assumption
                            omega
    rw [← Hr.out, decide_eq_false hd]; rfl
  · have hd : 1 ≤ d := by assumption
    have k : x.kind = 1 := by simpa using (show (x.kind == 1) = true by assumption)
    rw [← Hr.out, decide_eq_true hd, if_pos k]; simp; omega
  · have hd : 1 ≤ d := by assumption
    have k : x.kind = 2 := by simpa using (show (x.kind == 2) = true by assumption)
    rw [← Hr.out, decide_eq_true hd, k]; simp
  · have hd : 1 ≤ d := by assumption
    have k : x.kind = 3 := by simpa using (show (x.kind == 3) = true by assumption)
    rw [← Hr.out, decide_eq_true hd, k]; simp
  · have hd : 1 ≤ d := by assumption
    have k : x.kind = 4 := by simpa using (show (x.kind == 4) = true by assumption)
    rw [← Hr.out, decide_eq_true hd, k]; simp
  · have hd : 1 ≤ d := by assumption
    have k1 : ¬ x.kind = 1 := by simpa using (show (x.kind == 1) = false by assumption)
    have k2 : ¬ x.kind = 2 := by simpa using (show (x.kind == 2) = false by assumption)
    have k3 : ¬ x.kind = 3 := by simpa using (show (x.kind == 3) = false by assumption)
    have k4 : ¬ x.kind = 4 := by simpa using (show (x.kind == 4) = false by assumption)
    have k5 : (decide (2 ≤ x.kind) && decide (x.kind ≤ 4)) = false := by simp; omega
    rw [← Hr.out, decide_eq_true hd, if_neg k1, k5]; rfl
end Go.Proofs.YthadldnojdjlnaaGreatDoor

/-! LPlain -/
namespace Go.Proofs.YthadldnojdjlnaaGreatDoor
open Go Go.RowKit

/-- The directory of a path; nothing, if it has none. -/
def dirOf (p : ByteArray) : ByteArray := match names p with
  | none => ⟨#[]⟩
  | some xs => if xs = [] then ⟨#[]⟩ else pathOf xs.dropLast

/-- Whether the entry is one, and stands behind the one ahead of it. -/
def headOk (l : List Ent) (i : Nat) (x : Ent) : Bool :=
  entOk x && (match i with | 0 => true | j + 1 => (match l[j]? with | some y => lt y.path x.path | none => true))
/-- Whether a directory holds it. -/
def dirOk (l : List Ent) (i : Nat) (x : Ent) : Bool :=
  decide (dirOf x.path = ⟨#[47]⟩) || (l.take i).any fun y => decide (y.path = dirOf x.path) && holds y
def okAt (l : List Ent) (i : Nat) (x : Ent) : Bool := headOk l i x && dirOk l i x
def layerOk (l : List Ent) : Bool := decide (l.length ≤ 64) && l.zipIdx.all fun z => okAt l z.2 z.1

theorem layerOk_of {l : List Ent} (h : l.length ≤ 64) (hall : ∀ (t : Nat) (h : t < l.length), okAt l t l[t] = true) : layerOk l = true := by
  simp only [layerOk, Bool.and_eq_true, decide_eq_true_eq, List.all_eq_true]
  refine ⟨h, ?_⟩
  rintro ⟨x, i⟩ hm
  obtain ⟨hi, e⟩ := List.mem_zipIdx' hm
  show okAt l i x = true
  rw [e]
  exact hall _ hi

theorem layerOk_len {l : List Ent} (h : layerOk l = true) : l.length ≤ 64 := by
  simp only [layerOk, Bool.and_eq_true, decide_eq_true_eq] at h
  exact h.1

theorem layerOk_at {l : List Ent} (h : layerOk l = true) (t : Nat) (ht : t < l.length) : okAt l t l[t] = true := by
  simp only [layerOk, Bool.and_eq_true, decide_eq_true_eq, List.all_eq_true] at h
  refine h.2 (l[t], t) ?_
  rw [List.mem_zipIdx_iff_getElem?]
  exact List.getElem?_eq_getElem ht

theorem layerOk_not {l : List Ent} {t : Nat} (ht : t < l.length) (h : okAt l t l[t] = false) : layerOk l = false := by
  cases e : layerOk l
  · rfl
  · rw [layerOk_at e t ht] at h; cases h

theorem layerOk_long {l : List Ent} (h : ¬ l.length ≤ 64) : layerOk l = false := by
  cases e : layerOk l
  · rfl
  · exact absurd (layerOk_len e) h

theorem okAt_head {l : List Ent} {t : Nat} {x : Ent} (h : okAt l t x = true) : headOk l t x = true := by
  rw [okAt, Bool.and_eq_true] at h; exact h.1

theorem rising_of {l : List Ent} {k : Nat} (hall : ∀ (t : Nat) (h : t < l.length), t < k → okAt l t l[t] = true) : Rising (l.take k) := by
  have H : ∀ (j i : Nat) (hj : j < l.length) (hij : i < j), j < k → lt (l[i]'(by omega)).path l[j].path = true := by
    intro j
    induction j with
    | zero => intro i _ hij; omega
    | succ j ih =>
      intro i hj hij hk
      have h1 := okAt_head (hall (j + 1) hj hk)
      rw [headOk, Bool.and_eq_true] at h1
      have h2 := h1.2
      simp only [List.getElem?_eq_getElem (show j < l.length by omega)] at h2
      rcases Nat.lt_or_ge i j with h3 | h3
      · exact lt_trans (ih i (by omega) h3 (by omega)) h2
      · have : i = j := by omega
        subst this
        exact h2
  refine List.pairwise_iff_getElem.2 fun i j hi hj hij => ?_
  rw [List.length_take] at hi hj
  rw [List.getElem_take, List.getElem_take]
  exact H j i (by omega) hij (by omega)

theorem layerOk_rising {l : List Ent} (h : layerOk l = true) : Rising l := by
  have := rising_of (l := l) (k := l.length) fun t ht _ => layerOk_at h t ht
  rwa [List.take_length] at this

theorem any_none {l : List Ent} {p : ByteArray} {k : Nat} (hr : Rising l) (h : AtIs l p k false) : ∀ y ∈ l, y.path ≠ p := by
  obtain ⟨h1, h2, h3, h4⟩ := h
  intro y hy e
  obtain ⟨j, hj, rfl⟩ := List.getElem_of_mem hy
  rcases Nat.lt_or_ge j k with hk | hk
  · exact lt_ne (h2 j hj hk) e
  · rcases Nat.lt_or_ge k j with hk2 | hk2
    · have := hr.at_ hk2 hj
      rw [e] at this
      rw [h3 k (by omega) (Nat.le_refl _)] at this
      cases this
    · have : j = k := by omega
      subst this
      have := h4.2 ⟨hj, e⟩
      cases this

theorem at_one {l : List Ent} {p : ByteArray} {k : Nat} (hr : Rising l) (h : AtIs l p k true) : ∃ hk : k < l.length, l[k].path = p ∧ ∀ y ∈ l, y.path = p → y = l[k] := by
  obtain ⟨h1, h2, h3, h4⟩ := h
  obtain ⟨hk, e⟩ := h4.1 rfl
  refine ⟨hk, e, fun y hy ey => ?_⟩
  obtain ⟨j, hj, rfl⟩ := List.getElem_of_mem hy
  rcases Nat.lt_or_ge j k with h | h
  · have := hr.at_ h hk
    exact absurd (ey.trans e.symm) (lt_ne this)
  · rcases Nat.lt_or_ge k j with h' | h'
    · have := hr.at_ h' hj
      exact absurd (e.trans ey.symm) (lt_ne this)
    · have : j = k := by omega
      subst this
      rfl

theorem dirOk_none {l : List Ent} {i k : Nat} {x : Ent} (hr : Rising (l.take i)) (hd : dirOf x.path ≠ ⟨#[47]⟩) (h : AtIs (l.take i) (dirOf x.path) k false) : dirOk l i x = false := by
  rw [dirOk, decide_eq_false hd, Bool.false_or]
  rw [List.any_eq_false]
  intro y hy
  simp [any_none hr h y hy]

theorem dirOk_at {l : List Ent} {i k : Nat} {x : Ent} (hr : Rising (l.take i)) (hd : dirOf x.path ≠ ⟨#[47]⟩) (h : AtIs (l.take i) (dirOf x.path) k true) : ∃ hk : k < l.length, k < i ∧ dirOk l i x = holds l[k] := by
  obtain ⟨hk, e, hu⟩ := at_one hr h
  have hk2 := hk
  rw [List.length_take] at hk2
  refine ⟨by omega, by omega, ?_⟩
  rw [dirOk, decide_eq_false hd, Bool.false_or]
  rw [List.getElem_take] at e hu
  cases hh : holds l[k]
  · rw [List.any_eq_false]
    intro y hy
    by_cases ey : y.path = dirOf x.path
    · rw [hu y hy ey, hh]; simp
    · simp [ey]
  · rw [List.any_eq_true]
    refine ⟨(l.take i)[k], List.getElem_mem hk, ?_⟩
    rw [List.getElem_take, e, hh]
    simp

theorem entOk_names {x : Ent} (h : entOk x = true) : ∃ xs z, names x.path = some (xs ++ [z]) ∧ dirOf x.path = pathOf xs := by
  rw [entOk, Bool.and_eq_true, decide_eq_true_eq] at h
  have h1 := h.1
  rw [deep] at h1
  rcases hn : names x.path with _ | xs
  · rw [hn] at h1; revert h1; simp
  · rw [hn] at h1
    have hne : xs ≠ [] := by
      rintro rfl
      revert h1; simp
    refine ⟨xs.dropLast, xs.getLast hne, by rw [List.dropLast_concat_getLast], ?_⟩
    rw [dirOf, hn]
    simp only [if_neg hne]

theorem headOk_ent {l : List Ent} {i : Nat} {x : Ent} (h : headOk l i x = true) : entOk x = true := by
  unfold headOk at h; rw [Bool.and_eq_true] at h; exact h.1

theorem holds_of_dir {x : Ent} {l : List Ent} {i : Nat} (h : dirOf x.path = ⟨#[47]⟩) : dirOk l i x = true := by
  rw [dirOk, decide_eq_true h, Bool.true_or]

theorem okAt_bad {l : List Ent} {i : Nat} {x : Ent} (h : headOk l i x = false) : okAt l i x = false := by rw [okAt, h, Bool.false_and]
theorem okAt_dir {l : List Ent} {i : Nat} {x : Ent} (h : headOk l i x = true) : okAt l i x = dirOk l i x := by rw [okAt, h, Bool.true_and]
theorem headOk_zero {l : List Ent} {x : Ent} : headOk l 0 x = entOk x := by rw [headOk, Bool.and_true]
theorem headOk_succ {l : List Ent} {j : Nat} {x : Ent} (h : j < l.length) : headOk l (j + 1) x = (entOk x && lt l[j].path x.path) := by
  simp only [headOk, List.getElem?_eq_getElem h]
end Go.Proofs.YthadldnojdjlnaaGreatDoor

/-! LRight -/
namespace Go.Proofs.YthadldnojdjlnaaGreatDoor
open Go Go.RowKit Go.Shelf Go.Proofs

theorem ent_box (w : World) (x : Ent) : (w.alloc (.cells #[.string x.path, .int .i64 x.kind, .string x.data] 54)).cell? ⟨w.heap.size, 0, none⟩ = some (.string x.path) ∧
    (w.alloc (.cells #[.string x.path, .int .i64 x.kind, .string x.data] 54)).cell? ⟨w.heap.size, 1, none⟩ = some (.int .i64 x.kind) ∧
    (w.alloc (.cells #[.string x.path, .int .i64 x.kind, .string x.data] 54)).cell? ⟨w.heap.size, 2, none⟩ = some (.string x.data) := by
  refine ⟨?_, ?_, ?_⟩ <;> (rw [World.cell?_alloc_at _ _ _ _ rfl]; rfl)

theorem round_ok {l : List Ent} {k n : Nat} {x : Ent} {w w' : World} (hE : Ext w w') (hkn : k ≤ n) (hlt : k < n) {hh : k < l.length} (hx : Hid (l[k]'hh = x)) (hok : okAt l k x = true)
    (hall : Hid (∀ (t : Nat) (h : t < l.length), t < k → okAt l t l[t] = true)) :
    (∃ k_1 : Nat, Value.int IntKind.i64 ((k : Int) + 1) = Value.int IntKind.i64 k_1 ∧ k_1 ≤ n ∧ Hid (∀ (t : Nat) (h : t < l.length), t < k_1 → okAt l t l[t] = true) ∧ Ext w w') ∧
      n - (intOf (Value.int IntKind.i64 ((k : Int) + 1))).toNat < n - (intOf (Value.int IntKind.i64 k)).toNat := by
  refine ⟨⟨k + 1, by simp, by omega, Lib.hid fun t ht htk => ?_, hE⟩, ?_⟩
  · by_cases e : t = k
    · subst e
      rw [hx.out]
      exact hok
    · exact hall.out t ht (by omega)
  · simp [intOf]
    omega

theorem right_short (v : Value) (w : World) (hv : RdE w v []) :
    Calls Tryz.prog 53 #[v] w fun e w' => e = .returned (.bool true) ∧ Ext w w' := by
  obtain ⟨A, c, rfl, _⟩ := hv
  go_enter Tryz.func53, Tryz.ntmps53
  go_wp2
  go_loopw [15] (fun i wr => i = .int .i64 0 ∧ Ext w wr) (fun i _ => 0)
  case atStart => exact ⟨rfl, Ext.refl _⟩
  case round =>
    obtain ⟨rfl, hE⟩ := hrel
    go_wp2
    go_ret
    exact ⟨rfl, hE⟩

set_option maxHeartbeats 4000000 in
theorem LRight_any (v : Value) (l : List Ent) (w : World) (hv : RdE w v l) :
    Calls Tryz.prog 53 #[v] w fun e w' => e = .returned (.bool (layerOk l)) ∧ Ext w w' := by
  have hlen := Rd.len hv
  by_cases h64 : l.length ≤ 64
  · by_cases h0 : l = []
    · subst h0
      exact right_short v w hv
    · obtain ⟨b, o, c, rfl, hc1, hc2, hcell⟩ := RdE.open_ hv h0
      have Hcell := Lib.hid hcell
      clear hcell
      obtain ⟨n, hn⟩ : ∃ n, n = l.length := ⟨_, rfl⟩
      have Hn := Lib.hid hn
      have Hv := Lib.hid hv
      rw [← hn] at hlen hc1 h64 ⊢
      clear hn hv
      go_enter Tryz.func53, Tryz.ntmps53
      go_wp2
      go_loopw [15] (fun i wr => ∃ k : Nat, i = .int .i64 k ∧ k ≤ n ∧ Hid (∀ (t : Nat) (h : t < l.length), t < k → okAt l t l[t] = true) ∧ Ext w wr) (fun i _ => n - (intOf i).toNat)
      case atStart => exact ⟨0, rfl, by omega, Lib.hid (fun t _ ht => absurd ht (Nat.not_lt_zero t)), Ext.refl _⟩
      case round =>
        obtain ⟨k, rfl, hkn, hall, hE⟩ := hrel
        by_cases hlt : k < n
        · have hh : k < l.length := by have := Hn.out; omega
          obtain ⟨x, hx⟩ : ∃ x, l[k]'hh = x := ⟨_, rfl⟩
          obtain ⟨q0, q1, q2, hf⟩ := Hcell.out _ hh
          rw [hx] at q0 q1 q2 hf
          have g0 := hE.cell q0
          have g1 := hE.cell q1
          have g2 := hE.cell q2
          have Hx := Lib.hid hx
          have hh' := hh
          clear q0 q1 q2 hx
          go_upto_region 6 with (fail)
          obtain ⟨eb, heb⟩ : ∃ eb, wr.heap.size = eb := ⟨_, rfl⟩
          obtain ⟨z0, z1, z2⟩ := ent_box wr x
          have hE5 := hE.alloc (.cells #[.string x.path, .int .i64 x.kind, .string x.data] 54)
          rw [heb] at z0 z1 z2 ⊢
          have Heb := Lib.hid heb
          clear heb
          generalize wr.alloc (.cells #[.string x.path, .int .i64 x.kind, .string x.data] 54) = W5 at z0 z1 z2 hE5 ⊢
          clear g0 g1 g2
          go_cut [36] (fun s36 wx => s36 = .bool (!headOk l k x) ∧ Ext W5 wx)
          case first =>
            have HR := fun w => EntRight_any x w hf
            have z0' := fun d os => cell_regrown z0 d os
            have z1' := fun d os => cell_regrown z1 d os
            have z2' := fun d os => cell_regrown z2 d os
            rcases hok : entOk x with _ | _
            · have hh : headOk l k x = false := by unfold headOk; rw [hok, Bool.false_and]
              rw [hok] at HR
              clear hok
              (refine wp_region_quiet_below (by kernel_rfl) (by kernel_rfl) ?_; (repeat (go_big_quiet_step ((go_at_call 67; exact Calls.regrown_of (HR _))))); refine wpQuiet_nil ?_; intro _ hq; obtain ⟨⟨dq, osq⟩, hq2⟩ := hq; subst hq2)
              go_wp2
              go_meet
              exact ⟨by rw [hh]; rfl, below_regrown W5 dq osq⟩
            · rw [hok] at HR
              rcases k with _ | j
              · have hh : headOk l 0 x = true := by rw [headOk_zero, hok]
                clear hok
                (refine wp_region_quiet_below (by kernel_rfl) (by kernel_rfl) ?_; (repeat (go_big_quiet_step ((go_at_call 67; exact Calls.regrown_of (HR _))))); refine wpQuiet_nil ?_; intro _ hq; obtain ⟨⟨dq, osq⟩, hq2⟩ := hq; subst hq2)
                go_wp2
                go_meet
                exact ⟨by rw [hh]; rfl, below_regrown W5 dq osq⟩
              · have hj : j < l.length := by have := Hn.out; omega
                have hh : headOk l (j + 1) x = lt l[j].path x.path := by rw [headOk_succ hj, hok, Bool.true_and]
                obtain ⟨q0, q1, q2, _⟩ := Hcell.out _ hj
                obtain ⟨y, hy⟩ : ∃ y, l[j]'hj = y := ⟨_, rfl⟩
                rw [hy] at q0 q1 q2 hh
                have y0' := fun d os => cell_regrown (hE5.cell q0) d os
                have y1' := fun d os => cell_regrown (hE5.cell q1) d os
                have y2' := fun d os => cell_regrown (hE5.cell q2) d os
                have HL := fun w => Less_any y x w
                clear hok
                have hsub : IntKind.i64.wrap ((↑(j + 1) : Int) - 1) = (j : Int) := by
                  have : ((↑(j + 1) : Int) - 1) = (j : Int) := by omega
                  rw [this]
                  exact IntWalk.i64_in _ ⟨by omega, by omega⟩
                have hjn : j < n := by omega
                (refine wp_region_quiet_below (by kernel_rfl) (by kernel_rfl) ?_; (repeat (go_big_quiet_step ((first | (go_at_call 67; exact Calls.regrown_of (HR _)) | (go_at_call 68; exact Calls.regrown_of (HL _)))))); refine wpQuiet_nil ?_; intro _ hq; obtain ⟨⟨dq, osq⟩, hq2⟩ := hq; subst hq2)
                go_wp2
                go_meet
                exact ⟨by rw [hh], below_regrown W5 dq osq⟩
          case rest =>
            obtain ⟨rfl, hE6⟩ := hcut
            rcases hh : headOk l k x with _ | _
            · have hbad := layerOk_not hh' (okAt_bad (by rw [Hx.out]; exact hh))
              go_wp2
              go_ret
              exact ⟨by simp [hbad], hE5.trans hE6⟩
            · obtain ⟨xs, z, hnm, hdir⟩ := entOk_names (headOk_ent hh)
              have HP0 := fun w => Parent_some x.path xs z w hf.1 hnm
              obtain ⟨d, hd0⟩ : ∃ d, pathOf xs = d := ⟨_, rfl⟩
              have hd : dirOf x.path = d := hdir.trans hd0
              have HP : ∀ w, Calls Tryz.prog 69 #[.string x.path] w (ParentOk d z w) := fun w => by rw [← hd0]; exact HP0 w
              clear HP0 hd0 hdir hnm
              have z0' := hE6.cell z0
              have hrise := rising_of hall.out
              have HA : ∀ w', Ext w w' → Calls Tryz.prog 70 #[.slice (some ⟨b, o, none⟩) k c, .string d] w' fun e w'' => (∃ (m : Nat) (ok : Bool), e = .returned (.tuple #[.int .i64 m, .bool ok]) ∧ AtIs (l.take k) d m ok) ∧ Ext w' w'' := by
                intro w' hw
                refine at_any _ _ _ _ ?_ hrise
                have h1 := Hv.out
                rw [← List.take_append_drop k l] at h1
                have h2 := Rd.left h1
                rw [List.length_take, Nat.min_eq_left (Nat.le_of_lt hh')] at h2
                exact RdE.ext h2 hw
              go_wp2_with (go_at_call 69; refine (HP _).mono ?_; rintro e W7 ⟨rfl, hE7⟩)
              refine (HA _ ((hE5.trans hE6).trans hE7)).mono ?_
              rintro e W8 ⟨⟨m, ok, rfl, hm⟩, hE8⟩
              have hE9 := ((hE5.trans hE6).trans hE7).trans hE8
              by_cases hroot : d = ⟨#[47]⟩
              · subst hroot
                have hok : okAt l k x = true := by rw [okAt_dir hh, holds_of_dir hd]
                go_wp2
                exact round_ok hE9 hkn hlt Hx hok hall
              · have hroot' : dirOf x.path ≠ ⟨#[47]⟩ := by rw [hd]; exact hroot
                have hroot2 : (d.toList == [47]) = false := by
                  rw [beq_eq_false_iff_ne]
                  exact fun e => hroot (data_inj (by rw [← toList_eq, e]))
                rw [← hd] at hm
                rcases ok with _ | _
                · have hbad := layerOk_not hh' (by rw [Hx.out, okAt_dir hh]; exact dirOk_none hrise hroot' hm)
                  clear hm hroot'
                  go_wp2
                  all_goals (try contradiction)
                  go_ret
                  exact ⟨by simp [hbad], hE9⟩
                · obtain ⟨hm1, hm2, hm3⟩ := dirOk_at hrise hroot' hm
                  obtain ⟨y, hy⟩ : ∃ y, l[m]'hm1 = y := ⟨_, rfl⟩
                  obtain ⟨q0, q1, q2, hfy⟩ := Hcell.out _ hm1
                  rw [hy] at q0 q1 q2 hm3
                  have r0 := hE9.cell q0
                  have r1 := hE9.cell q1
                  have r2 := hE9.cell q2
                  have hmn : m < n := Nat.lt_trans hm2 hlt
                  have HH := fun w => Holds_any y w
                  clear hm hroot' q0 q1 q2 hy hfy hm1
                  rcases hhy : holds y with _ | _
                  · have hbad := layerOk_not hh' (by rw [Hx.out, okAt_dir hh, hm3]; exact hhy)
                    rw [hhy] at HH
                    clear hhy hm3
                    go_wp2_with (go_at_call 71; refine (HH _).mono ?_; rintro e W9 ⟨rfl, hE10⟩)
                    all_goals (try contradiction)
                    go_ret
                    exact ⟨by simp [hbad], hE9.trans hE10⟩
                  · have hok : okAt l k x = true := by rw [okAt_dir hh, hm3]; exact hhy
                    rw [hhy] at HH
                    clear hhy hm3
                    go_wp2_with (go_at_call 71; refine (HH _).mono ?_; rintro e W9 ⟨rfl, hE10⟩)
                    all_goals (try contradiction)
                    exact round_ok (hE9.trans hE10) hkn hlt Hx hok hall
        · have hkn' : k = n := by omega
          have hok : layerOk l = true := layerOk_of (by have := Hn.out; omega) fun t ht => hall.out t ht (by have := Hn.out; omega)
          go_wp2
          go_ret
          exact ⟨by simp [hok], hE⟩
  · have hbad := layerOk_long h64
    obtain ⟨A, c, rfl, hc1, hc2, _⟩ := hv
    go_enter Tryz.func53, Tryz.ntmps53
    go_wp2
    go_ret
    exact ⟨by simp [hbad], Ext.refl _⟩
end Go.Proofs.YthadldnojdjlnaaGreatDoor

/-! Blk -/
namespace Go.Proofs.YthadldnojdjlnaaGreatDoor
open Go Go.RowKit

/-- A block has just these cells, none frozen. -/
def Blk (w : World) (b : Nat) (t : TypeId) (cs : Array Value) : Prop := w.heap[b]? = some (.cells cs t (0, 0))
theorem Blk.cell {w : World} {b : Nat} {t : TypeId} {cs : Array Value} (h : Blk w b t cs) (i : Nat) {v : Value} (hi : cs[i]? = some v) : w.cell? ⟨b, i, none⟩ = some v := by
  rw [Blk] at h
  simp [World.cell?, h, hi]
theorem Blk.frozen {w : World} {b : Nat} {t : TypeId} {cs : Array Value} (h : Blk w b t cs) (i : Nat) : w.frozen? ⟨b, i, none⟩ = false := by
  rw [Blk] at h
  simp [World.frozen?, h]
theorem Blk.ext {w w' : World} {b : Nat} {t : TypeId} {cs : Array Value} (h : Blk w b t cs) (he : Ext w w') : Blk w' b t cs := he.block h
theorem Blk.new (w : World) (t : TypeId) (cs : Array Value) : Blk (w.alloc (.cells cs t)) w.heap.size t cs := by
  show (w.heap.push (.cells cs t))[w.heap.size]? = _
  simp
theorem Blk.lt {w : World} {b : Nat} {t : TypeId} {cs : Array Value} (h : Blk w b t cs) : b < w.heap.size := (Array.getElem?_eq_some_iff.1 h).1
theorem Blk.set {w : World} {b : Nat} {t : TypeId} {cs : Array Value} (h : Blk w b t cs) (i : Nat) (v : Value) : Blk (w.setCell ⟨b, i, none⟩ v) b t (cs.setIfInBounds i v) := by
  have h1 := h.lt
  rw [Blk] at h
  show (w.heap.modify b _)[b]? = _
  rw [Array.getElem?_modify, if_pos rfl, h]
  rfl
/-- One, two, three cells at once. -/
theorem Blk.one {w : World} {b : Nat} {t : TypeId} {x : Value} (h : Blk w b t #[x]) : w.cell? ⟨b, 0, none⟩ = some x ∧ w.frozen? ⟨b, 0, none⟩ = false := ⟨h.cell 0 rfl, h.frozen 0⟩
theorem Blk.two {w : World} {b : Nat} {t : TypeId} {x y : Value} (h : Blk w b t #[x, y]) : (w.cell? ⟨b, 0, none⟩ = some x ∧ w.frozen? ⟨b, 0, none⟩ = false) ∧ (w.cell? ⟨b, 1, none⟩ = some y ∧ w.frozen? ⟨b, 1, none⟩ = false) :=
  ⟨⟨h.cell 0 rfl, h.frozen 0⟩, ⟨h.cell 1 rfl, h.frozen 1⟩⟩
theorem Blk.three {w : World} {b : Nat} {t : TypeId} {x y z : Value} (h : Blk w b t #[x, y, z]) : (w.cell? ⟨b, 0, none⟩ = some x ∧ w.frozen? ⟨b, 0, none⟩ = false) ∧ (w.cell? ⟨b, 1, none⟩ = some y ∧ w.frozen? ⟨b, 1, none⟩ = false) ∧ (w.cell? ⟨b, 2, none⟩ = some z ∧ w.frozen? ⟨b, 2, none⟩ = false) :=
  ⟨⟨h.cell 0 rfl, h.frozen 0⟩, ⟨h.cell 1 rfl, h.frozen 1⟩, ⟨h.cell 2 rfl, h.frozen 2⟩⟩
theorem Blk.four {w : World} {b : Nat} {t : TypeId} {x y z u : Value} (h : Blk w b t #[x, y, z, u]) : (w.cell? ⟨b, 0, none⟩ = some x ∧ w.frozen? ⟨b, 0, none⟩ = false) ∧ (w.cell? ⟨b, 1, none⟩ = some y ∧ w.frozen? ⟨b, 1, none⟩ = false) ∧ (w.cell? ⟨b, 2, none⟩ = some z ∧ w.frozen? ⟨b, 2, none⟩ = false) ∧ (w.cell? ⟨b, 3, none⟩ = some u ∧ w.frozen? ⟨b, 3, none⟩ = false) :=
  ⟨⟨h.cell 0 rfl, h.frozen 0⟩, ⟨h.cell 1 rfl, h.frozen 1⟩, ⟨h.cell 2 rfl, h.frozen 2⟩, ⟨h.cell 3 rfl, h.frozen 3⟩⟩
theorem Blk.five {w : World} {b : Nat} {t : TypeId} {x y z u v : Value} (h : Blk w b t #[x, y, z, u, v]) : (w.cell? ⟨b, 0, none⟩ = some x ∧ w.frozen? ⟨b, 0, none⟩ = false) ∧ (w.cell? ⟨b, 1, none⟩ = some y ∧ w.frozen? ⟨b, 1, none⟩ = false) ∧ (w.cell? ⟨b, 2, none⟩ = some z ∧ w.frozen? ⟨b, 2, none⟩ = false) ∧ (w.cell? ⟨b, 3, none⟩ = some u ∧ w.frozen? ⟨b, 3, none⟩ = false) ∧ (w.cell? ⟨b, 4, none⟩ = some v ∧ w.frozen? ⟨b, 4, none⟩ = false) :=
  ⟨⟨h.cell 0 rfl, h.frozen 0⟩, ⟨h.cell 1 rfl, h.frozen 1⟩, ⟨h.cell 2 rfl, h.frozen 2⟩, ⟨h.cell 3 rfl, h.frozen 3⟩, ⟨h.cell 4 rfl, h.frozen 4⟩⟩
theorem setCell_same {w : World} {b i : Nat} {v : Value} (h : w.cell? ⟨b, i, none⟩ = some v) : w.setCell ⟨b, i, none⟩ v = w := by
  obtain ⟨heap, tape, drawn, os, output⟩ := w
  simp only [World.setCell]
  congr 1
  apply Array.ext_getElem?
  intro k
  rw [Array.getElem?_modify]
  split
  · rename_i e
    subst e
    simp only [World.cell?] at h
    split at h
    · rename_i c elem fr hc
      rw [hc]
      simp at h ⊢
      apply Array.ext_getElem?
      intro j
      rw [Array.getElem?_setIfInBounds]
      split
      · rename_i e; subst e
        split
        · exact h.symm
        · rename_i hge
          rw [Array.getElem?_eq_none (by omega)] at h
          cases h
      · rfl
    · cases h
  · rfl
end Go.Proofs.YthadldnojdjlnaaGreatDoor

/-! LFind -/
namespace Go.Proofs.YthadldnojdjlnaaGreatDoor
open Go Go.RowKit Go.Shelf Go.Proofs

/-- What stands at a place of a layer. -/
def findE (l : List Ent) (p : ByteArray) : Option Ent := if layerOk l then l.find? fun y => decide (y.path = p) else none

theorem findE_none {l : List Ent} {p : ByteArray} {k : Nat} (hr : Rising l) (h : AtIs l p k false) : findE l p = none := by
  rw [findE]
  split
  · rw [List.find?_eq_none]
    intro y hy
    simpa using any_none hr h y hy
  · rfl

theorem findE_some {l : List Ent} {p : ByteArray} {k : Nat} (hl : layerOk l = true) (h : AtIs l p k true) : ∃ hk : k < l.length, findE l p = some l[k] := by
  obtain ⟨hk, e, hu⟩ := at_one (layerOk_rising hl) h
  refine ⟨hk, ?_⟩
  rw [findE, if_pos hl]
  rcases hf : l.find? (fun y => decide (y.path = p)) with _ | y
  · rw [List.find?_eq_none] at hf
    have := hf l[k] (List.getElem_mem hk)
    simp [e] at this
  · have h1 := List.mem_of_find?_eq_some hf
    have h2 := List.find?_some hf
    rw [decide_eq_true_eq] at h2
    rw [hf, hu y h1 h2]

theorem findE_mem {l : List Ent} {p : ByteArray} {x : Ent} (h : findE l p = some x) : x ∈ l ∧ x.path = p ∧ layerOk l = true := by
  rw [findE] at h
  split at h
  · rename_i h1
    have h2 := List.find?_some h
    rw [decide_eq_true_eq] at h2
    exact ⟨List.mem_of_find?_eq_some h, h2, h1⟩
  · cases h

/-- What layer.Find answers. -/
def foundV : Option Ent → Value
  | none => .tuple #[.agg #[.string ⟨#[]⟩, .int .i64 0, .string ⟨#[]⟩], .bool false]
  | some x => .tuple #[.agg #[.string x.path, .int .i64 x.kind, .string x.data], .bool true]

set_option maxHeartbeats 2000000 in
theorem Find_any (v : Value) (l : List Ent) (p : ByteArray) (w : World) (hv : RdE w v l) :
    Calls Tryz.prog 55 #[v, .string p] w fun e w' => e = .returned (foundV (findE l p)) ∧ Ext w w' := by
  have HR := fun w h => LRight_any v l w h
  by_cases hl : layerOk l = true
  · have hrise := layerOk_rising hl
    have HA := fun w h => at_any v l p w h hrise
    rw [hl] at HR
    have Hv := Lib.hid hv
    clear hv
    go_enter Tryz.func55, Tryz.ntmps55
    go_upto_region 1 with (fail)
    obtain ⟨eb, heb⟩ : ∃ eb, w.heap.size = eb := ⟨_, rfl⟩
    have hB := Blk.new w 54 #[.string ⟨#[]⟩, .int .i64 0, .string ⟨#[]⟩]
    have hE1 := (Ext.refl w).alloc (.cells #[.string ⟨#[]⟩, .int .i64 0, .string ⟨#[]⟩] 54)
    have hle : w.heap.size ≤ eb := by omega
    rw [heb] at hB
    rw [heb]
    have Heb := Lib.hid heb
    clear heb
    generalize w.alloc (.cells #[.string ⟨#[]⟩, .int .i64 0, .string ⟨#[]⟩] 54) = W1 at hB hE1 ⊢
    go_wp2_with (go_at_call 53; refine (HR _ (Hv.out.ext hE1)).mono ?_; rintro e W2 ⟨rfl, hE2⟩)
    refine (HA _ (Hv.out.ext (hE1.trans hE2))).mono ?_
    rintro e W3 ⟨⟨m, ok, rfl, hm⟩, hE3⟩
    obtain ⟨⟨z0, f0⟩, ⟨z1, f1⟩, ⟨z2, f2⟩⟩ := (hB.ext (hE2.trans hE3)).three
    have hE4 := (hE1.trans hE2).trans hE3
    clear hB
    rcases ok with _ | _
    · have hfe := findE_none hrise hm
      clear hm
      go_wp2
      refine bodyPost_ret (v := foundV none) (by simp [results, Tryz.f55, go_sem, foundV, z0, z1, z2]) rfl ?_
      rw [hfe]
      exact ⟨rfl, (by repeat (first | exact Ext.refl _ | assumption | refine Ext.alloc ?_ _ | refine Ext.drew ?_ | refine Ext.drewN ?_ _ | refine Ext.setCell ?_ (by first | omega | (simp; done) | (simp; omega)) _ | refine Ext.trans ?_ (by assumption)))⟩
    · obtain ⟨hm1, hm2⟩ := findE_some hl hm
      obtain ⟨y, hy⟩ : ∃ y, l[m]'hm1 = y := ⟨_, rfl⟩
      obtain ⟨b, o, c, rfl, hc1, hc2, hcell⟩ := RdE.open_ Hv.out (List.ne_nil_of_length_pos (by omega))
      obtain ⟨q0, q1, q2, hfy⟩ := hcell _ hm1
      rw [hy] at q0 q1 q2
      have r0 := hE4.cell q0
      have r1 := hE4.cell q1
      have r2 := hE4.cell q2
      clear hm q0 q1 q2 hcell hfy
      go_wp2
      refine bodyPost_ret (v := foundV (some y)) (by simp [results, Tryz.f55, go_sem, foundV, z0, z1, z2]) rfl ?_
      rw [hm2, hy]
      exact ⟨rfl, (by repeat (first | exact Ext.refl _ | assumption | refine Ext.alloc ?_ _ | refine Ext.drew ?_ | refine Ext.drewN ?_ _ | refine Ext.setCell ?_ (by first | omega | (simp; done) | (simp; omega)) _ | refine Ext.trans ?_ (by assumption)))⟩
  · have hbad : layerOk l = false := by simpa using hl
    have hfe : findE l p = none := by rw [findE, if_neg hl]
    rw [hbad] at HR
    have Hv := Lib.hid hv
    clear hv hl
    go_enter Tryz.func55, Tryz.ntmps55
    go_upto_region 1 with (fail)
    obtain ⟨eb, heb⟩ : ∃ eb, w.heap.size = eb := ⟨_, rfl⟩
    have hB := Blk.new w 54 #[.string ⟨#[]⟩, .int .i64 0, .string ⟨#[]⟩]
    have hE1 := (Ext.refl w).alloc (.cells #[.string ⟨#[]⟩, .int .i64 0, .string ⟨#[]⟩] 54)
    have hle : w.heap.size ≤ eb := by omega
    rw [heb] at hB
    rw [heb]
    have Heb := Lib.hid heb
    clear heb
    generalize w.alloc (.cells #[.string ⟨#[]⟩, .int .i64 0, .string ⟨#[]⟩] 54) = W1 at hB hE1 ⊢
    go_wp2_with (go_at_call 53; refine (HR _ (Hv.out.ext hE1)).mono ?_; rintro e W2 ⟨rfl, hE2⟩; obtain ⟨⟨z0, f0⟩, ⟨z1, f1⟩, ⟨z2, f2⟩⟩ := (hB.ext hE2).three)
    have hE4 := hE1.trans hE2
    refine bodyPost_ret (v := foundV none) (by simp [results, Tryz.f55, go_sem, foundV, z0, z1, z2]) rfl ?_
    rw [hfe]
    exact ⟨rfl, (by repeat (first | exact Ext.refl _ | assumption | refine Ext.alloc ?_ _ | refine Ext.drew ?_ | refine Ext.drewN ?_ _ | refine Ext.setCell ?_ (by first | omega | (simp; done) | (simp; omega)) _ | refine Ext.trans ?_ (by assumption)))⟩

/-- A stack of layers in memory. -/
def RL (w : World) (l : List Ent) (cs : List Value) : Prop := ∃ v, cs = [v] ∧ RdE w v l
theorem RL.stays : Stays RL := fun _ _ _ _ he ⟨v, h, k⟩ => ⟨v, h, k.ext he⟩
abbrev RdK := Rd RL 1
theorem RdK.ext {w w' : World} {v : Value} {s : List (List Ent)} (h : RdK w v s) (he : Ext w w') : RdK w' v s := Rd.ext RL.stays h he
theorem RdK.open_ {w : World} {v : Value} {s : List (List Ent)} (h : RdK w v s) (hne : s ≠ []) :
    ∃ b o c, v = .slice (some ⟨b, o, Option.none⟩) s.length c ∧ s.length ≤ c ∧ c ≤ 9223372036854775807 ∧
      ∀ (j : Nat) (h : j < s.length), ∃ u, w.cell? ⟨b, o + j, Option.none⟩ = some u ∧ RdE w u s[j] := by
  obtain ⟨b, o, c, rfl, h1, h2, hc⟩ := Rd.open_ h hne
  refine ⟨b, o, c, rfl, h1, h2, fun j hj => ?_⟩
  obtain ⟨cs, ⟨u, rfl, hr⟩, hu⟩ := hc j s[j] (List.getElem?_eq_getElem hj)
  have e0 := hu 0 _ rfl
  rw [Nat.mul_one] at e0
  exact ⟨u, e0, hr⟩

theorem RdK.form {w : World} {v : Value} {s : List (List Ent)} {n : Nat} (hv : RdK w v s) (hn : n = s.length) :
    ∃ A c, v = .slice A n c ∧ n ≤ c ∧ c ≤ 9223372036854775807 ∧ Hid (s ≠ [] → ∃ b o, A = some ⟨b, o, none⟩ ∧ ∀ (j : Nat) (h : j < s.length), ∃ u, w.cell? ⟨b, o + j, none⟩ = some u ∧ RdE w u s[j]) := by
  by_cases h0 : s = []
  · obtain ⟨A, c, e, h1, h2, _⟩ := hv
    rw [← hn] at e h1
    exact ⟨A, c, e, h1, h2, Lib.hid fun h => absurd h0 h⟩
  · obtain ⟨b, o, c, e, h1, h2, h3⟩ := RdK.open_ hv h0
    rw [← hn] at e h1
    exact ⟨_, c, e, h1, h2, Lib.hid fun _ => ⟨b, o, rfl, h3⟩⟩

/-- Whether a stack may be looked at. -/
def stackOk (s : List (List Ent)) : Bool := decide (s.length ≤ 9) && s.all layerOk

set_option maxHeartbeats 2000000 in
theorem lookRight_any (v : Value) (s : List (List Ent)) (w : World) (hv : RdK w v s) :
    Calls Tryz.prog 36 #[v] w fun e w' => e = .returned (.bool (stackOk s)) ∧ Ext w w' := by
  obtain ⟨n, hn⟩ : ∃ n, n = s.length := ⟨_, rfl⟩
  have Hn := Lib.hid hn
  have hlen := Rd.len hv
  obtain ⟨A, c, rfl, hc1, hc2, Hcell⟩ := RdK.form hv hn
  rw [← hn] at hlen
  clear hn hv
  go_enter Tryz.func36, Tryz.ntmps36
  go_wp2
  go_loopw [7] (fun i wr => ∃ k : Nat, i = .int .i64 k ∧ k ≤ n ∧ Hid (∀ (t : Nat) (h : t < s.length), t < k → layerOk s[t] = true) ∧ Ext w wr) (fun i _ => n - (intOf i).toNat)
  case atStart => exact ⟨0, rfl, by omega, Lib.hid (fun t _ ht => absurd ht (Nat.not_lt_zero t)), Ext.refl _⟩
  case round =>
    obtain ⟨k, rfl, hkn, hall, hE⟩ := hrel
    by_cases hlt : k < n
    · have hh : k < s.length := by have := Hn.out; omega
      obtain ⟨b, o, rfl, hcell⟩ := Hcell.out (List.ne_nil_of_length_pos (by omega))
      obtain ⟨u, q0, hu⟩ := hcell k hh
      have g0 := hE.cell q0
      have HR := LRight_any u s[k] wr (hu.ext hE)
      clear q0 hu hcell
      rcases hl : layerOk s[k] with _ | _
      · have hbad : stackOk s = false := by
          rw [stackOk, Bool.and_eq_false_iff]
          exact .inr (List.all_eq_false.2 ⟨_, List.getElem_mem hh, by simp [hl]⟩)
        rw [hl] at HR
        clear hl
        go_wp2_with (go_at_call 53; refine HR.mono ?_; rintro e W2 ⟨rfl, hE2⟩)
        go_ret
        exact ⟨by simp [hbad], hE.trans hE2⟩
      · rw [hl] at HR
        go_wp2_with (go_at_call 53; refine HR.mono ?_; rintro e W2 ⟨rfl, hE2⟩)
        refine ⟨⟨k + 1, by simp, by omega, Lib.hid fun t ht htk => ?_, hE.trans hE2⟩, by simp [intOf]; omega⟩
        by_cases e : t = k
        · subst e
          exact hl
        · exact hall.out t ht (by omega)
    · have hkn' : k = n := by omega
      have hok : stackOk s = decide (n ≤ 9) := by
        have h1 : s.all layerOk = true := List.all_eq_true.2 fun l hl => by
          obtain ⟨t, ht, rfl⟩ := List.getElem_of_mem hl
          exact hall.out t ht (by have := Hn.out; omega)
        rw [stackOk, h1, Bool.and_true, Hn.out]
      go_wp2
      go_ret
      refine ⟨?_, hE⟩
      rw [hok]
      simp
      omega
end Go.Proofs.YthadldnojdjlnaaGreatDoor

/-! ListArg -/
namespace Go.Proofs.YthadldnojdjlnaaGreatDoor
open Go.ChangeShapes Go.WideShapes Go.RowKit Go

theorem handed_and_shaped {H : Type} {enc : TypeId × Value → H} {a : Assume} {C : Checked} {os : Os} {f : FuncId} {fn : Func} {s : ChangeSpec} {conds : List PathCond} {apart fresh handsOn again : Bool} {X : World → Array Value → Prop}
    (hX : ∀ (w w' : World) (args : Array Value), w.heap = w'.heap → X w args → X w' args)
    (own : ownKnob C.prog.godebug = none) (started : os.Started) (noInit : C.prog.inits.idxOf? f = none) (hfn : C.prog.funcs[f]? = some fn)
    (witness : ∃ (w : World) (tape : Tape) (i : Input), w.os = os ∧ (w.forCall tape i).Shaped C.prog ∧ i.vars = [] ∧ Input.okWide C.prog (w.forCall tape i) .any w.heap.size f i ∧
      ((s.pre enc C.prog fn conds apart (w.forCall tape i).memory i.args ∧ X (w.forCall tape i).memory i.args) ∧ sizedMet enc C.prog fn (OpenSpec.ofChange s) apart (w.forCall tape i).memory i.args) ∧ a.holds C.prog (lone (Frame.enter C.prog f i.args .normal) [] (w.forCall tape i)))
    (contract : ∀ (W : World) (base : Nat) (args : Array Value) (ds gs : List (DataW H)) (before : List MemPlace),
      (∀ (j : Nat) t v, fn.params[j]? = some t → args[j]? = some v → Value.okWide C.prog W .any base t v) →
      DataW.Whole enc C.prog fn.params.toList s.vars apart W args.toList ds gs before →
      (DataW.weightsEach C.prog (fn.params.toList ++ s.plain.varTypes C.prog) (ds ++ gs)).all (· ≤ reachBytes) = true → W.ShapedOpen C.prog → X W args →
      Calls C.prog f args W fun e W' => ∃ v, e = .returned v ∧ s.post enc C.prog fn apart fresh handsOn again W args v W') :
    ReturnsInHanded a C os f .any (fun w args => (s.pre enc C.prog fn conds apart w args ∧ X w args) ∧ sizedMet enc C.prog fn (OpenSpec.ofChange s) apart w args) (s.post enc C.prog fn apart fresh handsOn again) := by
  refine returnsInHanded_of_calls own started noInit witness ?_
  intro w tape i _ hsh _ hok hpre hholds
  obtain ⟨_, _, _, fn', hfn', _, _, _, _, hval⟩ := hok
  obtain rfl := Option.some.inj (hfn'.symm.trans hfn)
  obtain ⟨⟨⟨ds, gs, before, hw, hc⟩, hx⟩, hz⟩ := hpre
  refine (contract (w.forCall tape i) w.heap.size i.args ds gs before hval (DataW.Whole.of_heap (w' := w.forCall tape i) (by rfl) hw) (hz.weights hw) hsh (hX _ _ _ (by rfl) hx)).mono fun e W' ⟨v, he, hp⟩ => ?_
  subst he
  exact ChangeSpec.post_blind hp


def listData : List (String × DataW Unit) := [("unicode/utf8.acceptRanges", Rows.laid_unicode_utf8_acceptRanges), ("unicode/utf8.first", Rows.laid_unicode_utf8_first)]
noncomputable def listWorld (os : Os) : World := (handleWorld os).layVars Tryz.prog listData
theorem listWorld_os (os : Os) : (listWorld os).os = os := World.layVars_os _ _ _
theorem list_data (os : Os) : laidMet Tryz.prog listData (listWorld os) := laidMet_over (by kernel_rfl) (by kernel_rfl)

theorem Tryz.cellsIntL : Tryz.prog.cellsOf 3 = 1 := by kernel_rfl
theorem Tryz.cellsStrL : Tryz.prog.cellsOf 9 = 1 := by kernel_rfl
theorem Tryz.cellsEnt : Tryz.prog.cellsOf 54 = 3 := by kernel_rfl
theorem Tryz.cellsEnts : Tryz.prog.cellsOf 55 = 1 := by kernel_rfl

/-- What is read is no greater than memory has room. -/
def FitD {H : Type} (t : TypeId) (d : DataW H) : Prop := ∀ k ∈ d.weights Tryz.prog t, k ≤ reachBytes

theorem fitD_of {H : Type} {ts : List TypeId} {ds : List (DataW H)} (h : (DataW.weightsEach Tryz.prog ts ds).all (· ≤ reachBytes) = true) {j : Nat} {t : TypeId} {d : DataW H} (ht : ts[j]? = some t) (hd : ds[j]? = some d) : FitD t d :=
  fun k hk => by simpa using List.all_eq_true.1 h k (DataW.weights_mem_each ht hd k hk)

theorem weightsAll_mem {H : Type} {e : TypeId} : ∀ {l : List (DataW H)} {d : DataW H}, d ∈ l → ∀ k ∈ d.weights Tryz.prog e, k ∈ DataW.weightsAll Tryz.prog e l
  | x :: l, d, h, k, hk => by
    rw [DataW.weightsAll, List.mem_append]
    rcases List.mem_cons.1 h with rfl | h
    · exact .inl hk
    · exact .inr (weightsAll_mem h k hk)

/-- A slice that is read as data reads as a list, if each element does. -/
theorem rd_of_trod {H : Type} {enc : TypeId × Value → H} {W : World} {hd : Bool} {α : Type} [Inhabited α] {R : World → α → List Value → Prop} {sz by_ : Nat} {t e : TypeId} (ht : Tryz.prog.underlying t = some (.slice e)) (hsz : Tryz.prog.cellsOf e = sz) (hsz0 : 0 < sz)
    (hby : Tryz.prog.bytesOf e = by_) (hby0 : 1 ≤ by_) (hRc : ∀ x cs, R W x cs → cs.length = sz)
    (hel : ∀ n cs d pl, DataW.trod enc Tryz.prog W 0 (fun _ => true) hd n e cs = some (d, pl) → FitD e d → ∃ x, R W x cs)
    {A : Option Addr} {n c fuel : Nat} {d : DataW H} {p : List MemPlace} (h : DataW.trod enc Tryz.prog W 0 (fun _ => true) hd fuel t [.slice A n c] = some (d, p)) (hw : FitD t d) : ∃ l, Rd R sz W (.slice A n c) l := by
  rcases Go.Deep.open_slice ht h with ⟨e1, _⟩ | ⟨a, len, cap, m, k, D, Pl, e1, hb, hl, hm, hmm, hx, hel2⟩
  · cases e1
    exact ⟨[], Rd.nil _ _ _⟩
  · cases e1
    cases hx
    have hbytes : (n + (m - n)) * by_ ≤ reachBytes := by
      refine hw _ ?_
      rw [DataW.weights, ht]
      simp [hby]
    have hr := reachBytes_lt
    have hn1 : n ≤ (n + (m - n)) * by_ := Nat.le_trans (Nat.le_add_right _ _) (Nat.le_mul_of_pos_right _ hby0)
    have hmc : n ≤ m := by rw [hmm]; simp; omega
    rw [hsz] at hel2
    have hch : ∀ i, i < n → ∃ x : α, ∃ cs, R W x cs ∧ ∀ q u, cs[q]? = some u → W.cell? (a.add (i * sz + q)) = some u := fun i hi => by
      obtain ⟨cs, h1, h2⟩ := hel2 i (by omega)
      obtain ⟨x, hx⟩ := hel _ _ _ _ h2 (fun q hq => hw q (by
        rw [DataW.weights, ht]
        refine List.mem_cons_of_mem _ (List.mem_append_left _ (weightsAll_mem (d := D i) ?_ q hq))
        exact List.mem_map.2 ⟨i, List.mem_range.2 hi, rfl⟩))
      obtain ⟨_, hlen, hc⟩ := World.cells?_some h1
      refine ⟨x, cs, hx, fun q u hq => ?_⟩
      have hq5 : q < sz := by
        have := (List.getElem?_eq_some_iff.1 hq).1
        have := hRc _ _ hx
        omega
      have := hc q hq5
      rw [Go.Deep.add_add] at this
      rw [this, hq]
    obtain ⟨f, hf⟩ := Go.Deep.choose_lt hch
    refine ⟨(List.range n).map f, some a, c, by simp, by simpa using hl, by unfold maxLen at hm; exact hm, by simp; omega, fun hne => ?_⟩
    have hn : 0 < n := by
      rcases n with _ | n
      · simp at hne
      · omega
    obtain ⟨cs0, hr0, h0⟩ := hf 0 hn
    have hl0 := hRc _ _ hr0
    have h00 := h0 0 (cs0[0]'(by omega)) (List.getElem?_eq_getElem _)
    obtain ⟨blk, off, spot⟩ := a
    have hsp : spot = none := by
      rcases spot with _ | sp
      · rfl
      · simp [World.cell?, Addr.add] at h00
        split at h00 <;> simp at h00
    subst hsp
    refine ⟨blk, off, rfl, fun j x hj => ?_⟩
    have hj' : j < n := by
      have := (List.getElem?_eq_some_iff.1 hj).1
      simpa using this
    have hx : f j = x := by simpa [hj'] using hj
    obtain ⟨cs, g1, g2⟩ := hf j hj'
    rw [hx] at g1
    refine ⟨cs, g1, fun i u hi => ?_⟩
    have := g2 i u hi
    rw [Addr.add_lit, ← Nat.add_assoc] at this
    exact this

set_option maxRecDepth 20000 in
theorem ent_trod {H : Type} {enc : TypeId × Value → H} {w : World} {base : Nat} {spare : Nat → Bool} {held : Bool} {n : Nat} {cs : List Value} {d : DataW H} {pl : List MemPlace}
    (h : DataW.trod enc Tryz.prog w base spare held n 54 cs = some (d, pl)) (hw : FitD 54 d) : ∃ x : Ent, RE w x cs := by
  obtain ⟨xs, m, _, hxe, hl, hx, hf⟩ := DataW.trod_struct Tryz.underlying54 h
  rw [Tryz.cellsEnt] at hl
  match cs, hl with
  | [c0, c1, c2], _ =>
    have g0 := hf 0 _ rfl
    have g1 := hf 1 _ rfl
    have g2 := hf 2 _ rfl
    match xs, hx with
    | [y0, y1, y2], _ =>
      simp [Tryz.cellsStrL, Tryz.cellsIntL] at g0 g1 g2
      obtain ⟨s0, e0, x0, _⟩ := DataW.trod_string Tryz.underlying9 g0
      obtain ⟨z1, e1, x1, w1⟩ := DataW.trod_int Tryz.underlying3 g1
      obtain ⟨s2, e2, x2, _⟩ := DataW.trod_string Tryz.underlying9 g2
      cases e0
      cases e1
      cases e2
      subst x0
      subst x1
      subst x2
      cases hxe
      have hr := reachBytes_lt
      have k0 : s0.data.toList.length ≤ reachBytes := hw _ (by
        rw [DataW.weights, Tryz.underlying54]
        simp [DataW.weightsEach, DataW.weights])
      have k2 : s2.data.toList.length ≤ reachBytes := hw _ (by
        rw [DataW.weights, Tryz.underlying54]
        simp [DataW.weightsEach, DataW.weights])
      rw [Array.length_toList] at k0 k2
      refine ⟨⟨s0, z1, s2⟩, rfl, ?_, ?_⟩
      · show s0.data.size ≤ _
        omega
      · show s2.data.size ≤ _
        omega

instance : Inhabited Ent := ⟨⟨⟨#[]⟩, 0, ⟨#[]⟩⟩⟩

theorem ents_in {H : Type} {enc : TypeId × Value → H} {W : World} {hd : Bool} {fuel : Nat} {A : Option Addr} {n c : Nat} {d : DataW H} {p : List MemPlace}
    (h : DataW.trod enc Tryz.prog W 0 (fun _ => true) hd fuel 55 [.slice A n c] = some (d, p)) (hw : FitD 55 d) : ∃ l, RdE W (.slice A n c) l :=
  rd_of_trod Tryz.underlying55 Tryz.cellsEnt (by omega) (by_ := 40) (by kernel_rfl) (by omega) (fun x cs h => by rw [h.1]; rfl) (fun n cs d pl h hw => ent_trod h hw) h hw

theorem stack_in {H : Type} {enc : TypeId × Value → H} {W : World} {hd : Bool} {fuel : Nat} {A : Option Addr} {n c : Nat} {d : DataW H} {p : List MemPlace}
    (h : DataW.trod enc Tryz.prog W 0 (fun _ => true) hd fuel 22 [.slice A n c] = some (d, p)) (hw : FitD 22 d) : ∃ l, RdK W (.slice A n c) l :=
  rd_of_trod Tryz.underlying22 Tryz.cellsEnts (by omega) (by_ := 24) (by kernel_rfl) (by omega) (fun x cs ⟨v, h, _⟩ => by rw [h]; rfl) (fun n cs d pl h hw => by
    have hcs : ∃ A n c, cs = [.slice A n c] := by
      rcases Go.Deep.open_slice Tryz.underlying55 h with ⟨e1, _⟩ | ⟨a, len, cap, m, k, D, Pl, e1, _⟩
      · exact ⟨_, _, _, e1⟩
      · exact ⟨_, _, _, e1⟩
    obtain ⟨A, n', c, rfl⟩ := hcs
    obtain ⟨l, hl⟩ := ents_in h hw
    exact ⟨l, _, rfl, hl⟩) h hw
end Go.Proofs.YthadldnojdjlnaaGreatDoor

/-! Numb -/
namespace Go.Proofs.YthadldnojdjlnaaGreatDoor
open Go Go.RowKit Go.Maps

/-- A table as the datum of a map. -/
def Tab (l : List (Int × Value)) : DataW Value := .map (l.map fun x => (Lit.int .i64 x.1, .held x.2))
/-- An element is held as it is. -/
def RH (v : Value) : Option (DataW Value × List MemPlace) := some (.held v, [])

theorem tab_size (l : List (Int × Value)) : Maps.size (Tab l) = l.length := by simp [Maps.size, Tab]

theorem same_int (a k : Int) : (Lit.int .i64 a).sameKey (.int .i64 k) = decide (a = k) := by simp [Lit.sameKey]

theorem tab_del (l : List (Int × Value)) (k : Int) : (Tab l).del (.int .i64 k) = Tab (l.filter fun x => !decide (x.1 = k)) := by
  simp only [Tab, DataW.del, List.filter_map]
  congr 1
  congr 1
  apply List.filter_congr
  intro x _
  simp [same_int]

theorem insert_last {x : Lit × DataW Value} : ∀ l : List (Lit × DataW Value), (∀ y ∈ l, x.1.before y.1 = false) → DataW.insert x l = l ++ [x]
  | [], _ => rfl
  | y :: r, h => by
    rw [DataW.insert, if_neg (by rw [h y (.head _)]; decide), insert_last r fun z hz => h z (.tail _ hz)]
    rfl

theorem tab_put (l : List (Int × Value)) (k : Int) (v : Value) (h : ∀ x ∈ l, x.1 < k) : (Tab l).put (.int .i64 k) (.held v) = Tab (l ++ [(k, v)]) := by
  simp only [Tab, DataW.put, List.map_append, List.map_cons, List.map_nil]
  congr 1
  rw [List.filter_eq_self.2, insert_last]
  · intro y hy
    obtain ⟨x, hx, rfl⟩ := List.mem_map.1 hy
    have := h x hx
    simp [Lit.before]
    omega
  · intro y hy
    obtain ⟨x, hx, rfl⟩ := List.mem_map.1 hy
    have := h x hx
    simp [same_int]
    omega

theorem tab_at (l : List (Int × Value)) (k : Int) (z : Value) : (Tab l).atKey (.int .i64 k) (.held z) = .held (match l.find? (fun x => decide (x.1 = k)) with | some x => x.2 | none => z) := by
  induction l with
  | nil => rfl
  | cons x l ih =>
    simp only [Tab, DataW.atKey, List.map_cons, List.find?_cons, same_int] at ih ⊢
    by_cases e : x.1 = k
    · simp [e]
    · simpa [e] using ih

theorem tab_has (l : List (Int × Value)) (k : Int) : Maps.has (Tab l) (.int .i64 k) = (l.find? (fun x => decide (x.1 = k))).isSome := by
  induction l with
  | nil => rfl
  | cons x l ih =>
    by_cases e : x.1 = k
    · simp [Maps.has, Tab, same_int, e]
    · simpa [Maps.has, Tab, same_int, e] using ih

end Go.Proofs.YthadldnojdjlnaaGreatDoor

/-! But -/
namespace Go.Proofs.YthadldnojdjlnaaGreatDoor
open Go Go.RowKit

/-- All that lay in w lies in w', but for the blocks that S names. -/
structure But (S : Nat → Prop) (w w' : World) : Prop where
  os : w'.os = w.os
  tape : w'.tape = w.tape
  output : w'.output = w.output
  size : w.heap.size ≤ w'.heap.size
  block : ∀ k, k < w.heap.size → ¬ S k → w'.heap[k]? = w.heap[k]?

theorem But.of_ext {S : Nat → Prop} {w w' : World} (h : Ext w w') : But S w w' := ⟨Below.os h, Below.tape h, Below.output h, h.size, fun k hk _ => Below.block h k hk⟩
theorem But.refl (S : Nat → Prop) (w : World) : But S w w := .of_ext (Ext.refl w)
theorem But.trans {S : Nat → Prop} {a b c : World} (h : But S a b) (k : But S b c) : But S a c :=
  ⟨k.os.trans h.os, k.tape.trans h.tape, k.output.trans h.output, Nat.le_trans h.size k.size, fun i hi hs => (k.block i (Nat.lt_of_lt_of_le hi h.size) hs).trans (h.block i hi hs)⟩
theorem But.alloc {S : Nat → Prop} {a w : World} (h : But S a w) (o : Obj) : But S a (w.alloc o) := h.trans (.of_ext ((Ext.refl w).alloc o))
theorem But.ext {S : Nat → Prop} {a b c : World} (h : But S a b) (k : Ext b c) : But S a c := h.trans (.of_ext k)
theorem But.cell {S : Nat → Prop} {w w' : World} (h : But S w w') {p : Addr} {v : Value} (hp : ¬ S p.block) (hc : w.cell? p = some v) : w'.cell? p = some v := by
  have := h.block p.block (World.block_lt_of_cell? w p hc) hp
  rw [World.cell?] at hc ⊢
  rw [this]
  exact hc
theorem Blk.but {S : Nat → Prop} {w w' : World} {b : Nat} {t : TypeId} {cs : Array Value} (h : Blk w b t cs) (hb : But S w w') (hs : ¬ S b) : Blk w' b t cs := (hb.block b h.lt hs).trans h
/-- What was there before S's blocks is as it was. -/
theorem But.old {S : Nat → Prop} {a w w' : World} (he : Ext a w) (h : But S w w') (hs : ∀ k, S k → a.heap.size ≤ k) : Ext a w' :=
  ⟨h.os.trans (Below.os he), h.tape.trans (Below.tape he), h.output.trans (Below.output he), Nat.le_trans he.size h.size, fun k hk => (h.block k (Nat.lt_of_lt_of_le hk he.size) fun e => Nat.not_lt.2 (hs k e) hk).trans (Below.block he k hk)⟩
theorem But.setCell {S : Nat → Prop} {a w : World} (h : But S a w) {p : Addr} (hp : S p.block) (v : Value) : But S a (w.setCell p v) := by
  refine h.trans ⟨rfl, rfl, rfl, by simp [World.setCell], fun k hk hs => ?_⟩
  show (w.heap.modify p.block _)[k]? = _
  rw [Array.getElem?_modify, if_neg fun e => hs (by rw [← e]; exact hp)]
theorem But.setNew {S : Nat → Prop} {a w : World} (h : But S a w) {p : Addr} (hp : a.heap.size ≤ p.block) (v : Value) : But S a (w.setCell p v) := by
  refine ⟨h.os, h.tape, h.output, Nat.le_trans h.size (by simp [World.setCell]), fun k hk hs => ?_⟩
  rw [← h.block k hk hs]
  show (w.heap.modify p.block _)[k]? = _
  rw [Array.getElem?_modify, if_neg (by omega)]
theorem But.grown {S : Nat → Prop} {a w w' : World} {row : Option Nat} (h : But S a w) (hg : w.grownBy w' row) (hr : ∀ k, row = some k → S k ∨ a.heap.size ≤ k) : But S a w' := by
  refine ⟨hg.os.trans h.os, hg.tape.trans h.tape, hg.output.trans h.output, Nat.le_trans h.size hg.size, fun k hk hs => ?_⟩
  rw [← h.block k hk hs]
  refine hg.block k (Nat.lt_of_lt_of_le hk h.size) fun e => ?_
  rcases hr k e.symm with h1 | h1
  · exact hs h1
  · omega
theorem But.mono {S S' : Nat → Prop} {w w' : World} (h : But S w w') (hs : ∀ k, k < w.heap.size → S k → S' k) : But S' w w' := ⟨h.os, h.tape, h.output, h.size, fun k hk hn => h.block k hk fun e => hn (hs k hk e)⟩

/-- A slice that lies in none of S's blocks. -/
def Off (S : Nat → Prop) (v : Value) : Prop := ∀ b o n c, v = .slice (some ⟨b, o, none⟩) n c → ¬ S b
theorem Rd.but {α : Type} {R : World → α → List Value → Prop} {sz : Nat} {S : Nat → Prop} {w w' : World} {v : Value} {xs : List α} (hR : ∀ w w' x cs, R w x cs → R w' x cs) (h : Rd R sz w v xs) (hb : But S w w') (ho : Off S v) : Rd R sz w' v xs := by
  obtain ⟨A, c, rfl, h1, h2, hl, h3⟩ := h
  refine ⟨A, c, rfl, h1, h2, hl, fun hne => ?_⟩
  obtain ⟨b, o, rfl, hc⟩ := h3 hne
  have hs := ho b o _ _ rfl
  refine ⟨b, o, rfl, fun j x hj => ?_⟩
  obtain ⟨cs, hr, hu⟩ := hc j x hj
  exact ⟨cs, hR _ _ _ _ hr, fun i u hi => hb.cell hs (hu i u hi)⟩
theorem Off.none {S : Nat → Prop} (n c : Nat) : Off S (.slice none n c) := fun _ _ _ _ h => by cases h
/-- A row of blocks that are new lies off S, if S's blocks are old. -/
theorem Off.own {S : Nat → Prop} {w : World} {base e sz n : Nat} {v : Value} {xs : List Value} (h : w.ownsRow base e sz v n xs) (hs : ∀ k, S k → k < base) : Off S v := by
  intro b o n' c hv hb
  rcases h.2 with ⟨rfl, h0⟩ | ⟨g, cap, cur, rfl, hg, r⟩
  · cases hv
  · cases hv
    have := hs _ hb
    omega
end Go.Proofs.YthadldnojdjlnaaGreatDoor

/-! LAsk -/
namespace Go.Proofs.YthadldnojdjlnaaGreatDoor
open Go Go.RowKit Go.Shelf Go.Proofs

/-- What is asked of the layers below a number, down to a floor. -/
def askR (s : List (List Ent)) (p : ByteArray) (f : Nat) : Nat → Nat → Bool → (Ent × Nat) × Bool
  | 0, fl, met => ((⟨p, 2, ⟨#[]⟩⟩, fl), met)
  | i + 1, fl, met =>
    if i < f then ((⟨p, 2, ⟨#[]⟩⟩, fl), met)
    else match findE (s[i]?.getD []) p with
      | none => askR s p f i fl met
      | some e =>
        if e.kind = 3 ∨ (e.kind = 1 ∧ met = true) then ((⟨p, 2, ⟨#[]⟩⟩, fl), met)
        else if e.kind = 1 then ((e, i), true)
        else if e.kind = 4 then ((⟨p, 2, ⟨#[]⟩⟩, i), true)
        else askR s p f i i true
def askE (s : List (List Ent)) (p : ByteArray) (f : Nat) : (Ent × Nat) × Bool := askR s p f s.length 0 false

def fndV (x : Ent × Nat) : Value := .agg #[.string x.1.path, .int .i64 x.1.kind, .string x.1.data, .int .i64 x.2]

theorem blk_other {w : World} {b : Nat} {t : TypeId} {cs : Array Value} (h : Blk w b t cs) {p : Addr} (hp : p.block ≠ b) (v : Value) : Blk (w.setCell p v) b t cs := by
  rw [Blk] at h ⊢
  show (w.heap.modify p.block _)[b]? = _
  rw [Array.getElem?_modify, if_neg hp, h]

def AskRel (s : List (List Ent)) (p : ByteArray) (f n : Nat) (w : World) (rb ob : Nat) (m i : Value) (wr : World) : Prop :=
  ∃ (k fl : Nat) (met : Bool) (j : Int), m = .bool met ∧ i = .int .i64 j ∧ j = (k : Int) - 1 ∧ k ≤ n ∧ Hid (askR s p f k fl met = askR s p f n 0 false) ∧ Ext w wr ∧
    Blk wr rb 69 #[.string ⟨#[]⟩, .int .i64 0, .string ⟨#[]⟩, .int .i64 0] ∧ Blk wr ob 69 #[.string p, .int .i64 2, .string ⟨#[]⟩, .int .i64 fl]

theorem ask_round {s : List (List Ent)} {p : ByteArray} {f n i fl rb ob : Nat} {met : Bool} {w wr : World} {j : Int} (hj : j = (i : Int) - 1) (hkn : i + 1 ≤ n) (hask : Hid (askR s p f i fl met = askR s p f n 0 false)) (hE : Ext w wr)
    (hR : Blk wr rb 69 #[.string ⟨#[]⟩, .int .i64 0, .string ⟨#[]⟩, .int .i64 0]) (hO : Blk wr ob 69 #[.string p, .int .i64 2, .string ⟨#[]⟩, .int .i64 fl]) :
    AskRel s p f n w rb ob (.bool met) (.int .i64 j) wr ∧ (intOf (.int .i64 j) + 1).toNat < (intOf (.int .i64 i) + 1).toNat :=
  ⟨⟨i, fl, met, j, rfl, rfl, hj, by omega, hask, hE, hR, hO⟩, by simp [intOf]; omega⟩

set_option maxHeartbeats 4000000 in
theorem ask_any (v : Value) (s : List (List Ent)) (p : ByteArray) (f : Nat) (w : World) (hv : RdK w v s) (hf : f ≤ 9223372036854775807) :
    Calls Tryz.prog 38 #[v, .string p, .int .i64 f] w fun e w' => e = .returned (.tuple #[fndV (askE s p f).1, .bool (askE s p f).2]) ∧ Ext w w' := by
  obtain ⟨n, hn⟩ : ∃ n, n = s.length := ⟨_, rfl⟩
  have Hn := Lib.hid hn
  have hlen := Rd.len hv
  obtain ⟨A, c, rfl, hc1, hc2, Hcell⟩ := RdK.form hv hn
  rw [← hn] at hlen
  clear hn hv
  go_enter Tryz.func38, Tryz.ntmps38
  go_wp2
  go_step3
  go_wp2
  go_step3
  go_wp2
  obtain ⟨W2, hW2⟩ : ∃ W2, (w.alloc (.cells #[.string ⟨#[]⟩, .int .i64 0, .string ⟨#[]⟩, .int .i64 0] 69)).alloc (.cells #[.string p, .int .i64 2, .string ⟨#[]⟩, .int .i64 0] 69) = W2 := ⟨_, rfl⟩
  have hE2 : Ext w W2 := by rw [← hW2]; exact ((Ext.refl w).alloc _).alloc _
  have hR : Blk W2 w.heap.size 69 #[.string ⟨#[]⟩, .int .i64 0, .string ⟨#[]⟩, .int .i64 0] := by rw [← hW2]; exact (Blk.new w _ _).ext ((Ext.refl _).alloc _)
  have hO : Blk W2 (w.heap.size + 1) 69 #[.string p, .int .i64 2, .string ⟨#[]⟩, .int .i64 0] := by
    have := Blk.new (w.alloc (.cells #[.string ⟨#[]⟩, .int .i64 0, .string ⟨#[]⟩, .int .i64 0] 69)) 69 #[.string p, .int .i64 2, .string ⟨#[]⟩, .int .i64 0]
    rw [World.size_alloc] at this
    rw [← hW2]; exact this
  rw [hW2]
  clear hW2
  obtain ⟨rb, hrb⟩ : ∃ rb, w.heap.size = rb := ⟨_, rfl⟩
  obtain ⟨ob, hob⟩ : ∃ ob, rb + 1 = ob := ⟨_, rfl⟩
  rw [hrb] at hR hO ⊢
  rw [hob] at hO ⊢
  have hne1 : rb ≠ ob := by omega
  have hle1 : w.heap.size ≤ rb := by omega
  have hle2 : w.heap.size ≤ ob := by omega
  have Hrb := Lib.hid hrb
  have Hob := Lib.hid hob
  clear hrb hob
  go_loopw [9, 10] (fun m i wr => AskRel s p f n w rb ob m i wr) (fun _ i _ => (intOf i + 1).toNat)
  case atStart => exact ⟨n, 0, false, (n : Int) - 1, rfl, rfl, rfl, Nat.le_refl _, Lib.hid rfl, hE2, hR, hO⟩
  case round =>
    obtain ⟨k, fl, met, j, rfl, rfl, hj, hkn, hask, hE, hR, hO⟩ := hrel
    by_cases hlt : f < k
    · obtain ⟨i, rfl⟩ : ∃ i, k = i + 1 := ⟨k - 1, by omega⟩
      obtain rfl : j = (i : Int) := by omega
      have hh : i < s.length := by have := Hn.out; omega
      have hin : i < n := by omega
      have hfi : (f : Int) ≤ i := by omega
      clear hj
      obtain ⟨b, o, rfl, hcell⟩ := Hcell.out (List.ne_nil_of_length_pos (by omega))
      obtain ⟨u, q0, hu⟩ := hcell i hh
      have g0 := hE.cell q0
      have HF := Find_any u s[i] p wr (hu.ext hE)
      have hstep : askR s p f (i + 1) fl met = match findE s[i] p with
        | none => askR s p f i fl met
        | some e => if e.kind = 3 ∨ (e.kind = 1 ∧ met = true) then ((⟨p, 2, ⟨#[]⟩⟩, fl), met) else if e.kind = 1 then ((e, i), true) else if e.kind = 4 then ((⟨p, 2, ⟨#[]⟩⟩, i), true) else askR s p f i i true := by
        rw [askR, if_neg (by omega), List.getElem?_eq_getElem hh]
        rfl
      clear q0 hu hcell
      obtain ⟨⟨a0, b0⟩, ⟨a1, b1⟩, ⟨a2, b2⟩, ⟨a3, b3⟩⟩ := hO.four
      rcases hfe : findE s[i] p with _ | x
      · rw [hfe] at hstep HF
        simp only [foundV] at HF
        have Hstep := Lib.hid hstep
        clear hstep hfe
        go_wp2_with (go_at_call 55; refine HF.mono ?_; rintro e W3 ⟨rfl, hE3⟩)
        exact ask_round rfl hkn (Lib.hid (by rw [← hask.out, Hstep.out])) (by have := hE.trans hE3; exact (by repeat (first | exact Ext.refl _ | assumption | refine Ext.alloc ?_ _ | refine Ext.drew ?_ | refine Ext.drewN ?_ _ | refine Ext.setCell ?_ (by first | omega | (simp; done) | (simp; omega)) _ | refine Ext.trans ?_ (by assumption)))) (hR.ext (by have := hE3; exact (by repeat (first | exact Ext.refl _ | assumption | refine Ext.alloc ?_ _ | refine Ext.drew ?_ | refine Ext.drewN ?_ _ | refine Ext.setCell ?_ (by first | omega | (simp; done) | (simp; omega)) _ | refine Ext.trans ?_ (by assumption))))) (hO.ext (by have := hE3; exact (by repeat (first | exact Ext.refl _ | assumption | refine Ext.alloc ?_ _ | refine Ext.drew ?_ | refine Ext.drewN ?_ _ | refine Ext.setCell ?_ (by first | omega | (simp; done) | (simp; omega)) _ | refine Ext.trans ?_ (by assumption)))))
      · rw [hfe] at hstep HF
        simp only [foundV] at HF
        have Hstep := Lib.hid hstep
        clear hstep hfe
        go_upto_region 6 with (go_at_call 55; refine HF.mono ?_; rintro e W3 ⟨rfl, hE3⟩)
        have hX := Blk.new W3 54 #[.string x.path, .int .i64 x.kind, .string x.data]
        have hE4 : Ext wr (W3.alloc (.cells #[.string x.path, .int .i64 x.kind, .string x.data] 54)) := by have := hE3; exact (by repeat (first | exact Ext.refl _ | assumption | refine Ext.alloc ?_ _ | refine Ext.drew ?_ | refine Ext.drewN ?_ _ | refine Ext.setCell ?_ (by first | omega | (simp; done) | (simp; omega)) _ | refine Ext.trans ?_ (by assumption)))
        have hlx : ob < W3.heap.size := Nat.lt_of_lt_of_le hO.lt hE3.size
        have hlx1 : rb < W3.heap.size := Nat.lt_of_lt_of_le hR.lt hE3.size
        have hlx2 : w.heap.size ≤ W3.heap.size := Nat.le_trans hE.size hE3.size
        obtain ⟨xb, hxb⟩ : ∃ xb, W3.heap.size = xb := ⟨_, rfl⟩
        rw [hxb] at hX hlx hlx1 hlx2 ⊢
        have Hxb := Lib.hid hxb
        clear hxb
        generalize W3.alloc (.cells #[.string x.path, .int .i64 x.kind, .string x.data] 54) = W4 at hX hE4 ⊢
        have hR4 := hR.ext hE4
        have hO4 := hO.ext hE4
        have hE5 := hE.trans hE4
        clear g0 a0 a1 a2 a3 b0 b1 b2 b3 hR hO
        obtain ⟨⟨a0, b0⟩, ⟨a1, b1⟩, ⟨a2, b2⟩, ⟨a3, b3⟩⟩ := hO4.four
        obtain ⟨⟨c0, d0⟩, ⟨c1, d1⟩, ⟨c2, d2⟩, ⟨c3, d3⟩⟩ := hR4.four
        obtain ⟨⟨x0, y0⟩, ⟨x1, y1⟩, ⟨x2, y2⟩⟩ := hX.three
        have hox : xb ≠ ob := by omega
        have hrx : xb ≠ rb := by omega
        by_cases h3 : x.kind = 3
        · have Hval : Hid (askR s p f n 0 false = ((⟨p, 2, ⟨#[]⟩⟩, fl), met)) := Lib.hid (by rw [← hask.out, Hstep.out]; exact if_pos (.inl h3))
          go_wp2
          try rw [Exit.noGoto_ret]
          refine bodyPost_ret (v := .tuple #[fndV (⟨p, 2, ⟨#[]⟩⟩, fl), .bool met]) (by simp [results, Tryz.f38, go_sem, fndV, c0, c1, c2, c3]) rfl ?_
          rw [askE, ← Hn.out, Hval.out]
          exact ⟨rfl, (by repeat (first | exact Ext.refl _ | assumption | refine Ext.alloc ?_ _ | refine Ext.drew ?_ | refine Ext.drewN ?_ _ | refine Ext.setCell ?_ (by first | omega | (simp; done) | (simp; omega)) _ | refine Ext.trans ?_ (by assumption)))⟩
        · by_cases h1 : x.kind = 1
          · rcases met with _ | _
            · have Hval : Hid (askR s p f n 0 false = ((x, i), true)) := Lib.hid (by rw [← hask.out, Hstep.out]; exact (if_neg (by simp [h3])).trans (if_pos h1))
              go_wp2
              try rw [Exit.noGoto_ret]
              refine bodyPost_ret (v := .tuple #[fndV (x, i), .bool true]) (by simp [results, Tryz.f38, go_sem, fndV, c0, c1, c2, c3, h1]) rfl ?_
              rw [askE, ← Hn.out, Hval.out]
              exact ⟨rfl, (by repeat (first | exact Ext.refl _ | assumption | refine Ext.alloc ?_ _ | refine Ext.drew ?_ | refine Ext.drewN ?_ _ | refine Ext.setCell ?_ (by first | omega | (simp; done) | (simp; omega)) _ | refine Ext.trans ?_ (by assumption)))⟩
            · have Hval : Hid (askR s p f n 0 false = ((⟨p, 2, ⟨#[]⟩⟩, fl), true)) := Lib.hid (by rw [← hask.out, Hstep.out]; exact if_pos (.inr ⟨h1, rfl⟩))
              go_wp2
              try rw [Exit.noGoto_ret]
              refine bodyPost_ret (v := .tuple #[fndV (⟨p, 2, ⟨#[]⟩⟩, fl), .bool true]) (by simp [results, Tryz.f38, go_sem, fndV, c0, c1, c2, c3]) rfl ?_
              rw [askE, ← Hn.out, Hval.out]
              exact ⟨rfl, (by repeat (first | exact Ext.refl _ | assumption | refine Ext.alloc ?_ _ | refine Ext.drew ?_ | refine Ext.drewN ?_ _ | refine Ext.setCell ?_ (by first | omega | (simp; done) | (simp; omega)) _ | refine Ext.trans ?_ (by assumption)))⟩
          · by_cases h4 : x.kind = 4
            · have Hval : Hid (askR s p f n 0 false = ((⟨p, 2, ⟨#[]⟩⟩, i), true)) := Lib.hid (by rw [← hask.out, Hstep.out]; exact (if_neg (by simp [h3, h1])).trans ((if_neg h1).trans (if_pos h4)))
              go_wp2
              try rw [Exit.noGoto_ret]
              refine bodyPost_ret (v := .tuple #[fndV (⟨p, 2, ⟨#[]⟩⟩, i), .bool true]) (by simp [results, Tryz.f38, go_sem, fndV, c0, c1, c2, c3]) rfl ?_
              rw [askE, ← Hn.out, Hval.out]
              exact ⟨rfl, (by repeat (first | exact Ext.refl _ | assumption | refine Ext.alloc ?_ _ | refine Ext.drew ?_ | refine Ext.drewN ?_ _ | refine Ext.setCell ?_ (by first | omega | (simp; done) | (simp; omega)) _ | refine Ext.trans ?_ (by assumption)))⟩
            · have Hnext : Hid (askR s p f i i true = askR s p f n 0 false) := Lib.hid (by rw [← hask.out, Hstep.out]; exact ((if_neg (by simp [h3, h1])).trans ((if_neg h1).trans (if_neg h4))).symm)
              have hO5 := hO4.set 3 (.int .i64 i)
              have hR5 := blk_other (t := 69) hR4 (show (⟨ob, 3, none⟩ : Addr).block ≠ rb from Ne.symm hne1) (.int .i64 i)
              clear c0 c1 c2 c3 d0 d1 d2 d3 a0 a1 a2 b0 b1 b2 x0 x2 y0 y1 y2
              go_wp2
              exact ask_round rfl hkn Hnext (by repeat (first | exact Ext.refl _ | assumption | refine Ext.alloc ?_ _ | refine Ext.drew ?_ | refine Ext.drewN ?_ _ | refine Ext.setCell ?_ (by first | omega | (simp; done) | (simp; omega)) _ | refine Ext.trans ?_ (by assumption))) hR5 hO5
    · have hfi : ¬ (f : Int) ≤ j := by omega
      have hval : askR s p f n 0 false = ((⟨p, 2, ⟨#[]⟩⟩, fl), met) := by
        rw [← hask.out]
        rcases k with _ | k
        · rfl
        · rw [askR, if_pos (by omega)]
      have Hval := Lib.hid hval
      have Hj := Lib.hid hj
      obtain ⟨⟨a0, b0⟩, ⟨a1, b1⟩, ⟨a2, b2⟩, ⟨a3, b3⟩⟩ := hO.four
      obtain ⟨⟨c0, d0⟩, ⟨c1, d1⟩, ⟨c2, d2⟩, ⟨c3, d3⟩⟩ := hR.four
      clear hval hj
      go_wp2
      refine bodyPost_ret (v := .tuple #[fndV (⟨p, 2, ⟨#[]⟩⟩, fl), .bool met]) (by simp [results, Tryz.f38, go_sem, fndV, c0, c1, c2, c3]) rfl ?_
      rw [askE, ← Hn.out, Hval.out]
      exact ⟨rfl, (by repeat (first | exact Ext.refl _ | assumption | refine Ext.alloc ?_ _ | refine Ext.drew ?_ | refine Ext.drewN ?_ _ | refine Ext.setCell ?_ (by first | omega | (simp; done) | (simp; omega)) _ | refine Ext.trans ?_ (by assumption)))⟩
end Go.Proofs.YthadldnojdjlnaaGreatDoor

/-! LAt -/
namespace Go.Proofs.YthadldnojdjlnaaGreatDoor
open Go Go.RowKit Go.Shelf Go.Proofs

/-- What is found behind some names, or the error's number. -/
def lookN (s : List (List Ent)) (xs : List ByteArray) : Nat → Except Int (Ent × Nat)
  | 0 => .ok (⟨⟨#[47]⟩, 2, ⟨#[]⟩⟩, 0)
  | i + 1 => match lookN s xs i with
    | .error c => .error c
    | .ok x => if x.1.kind = 1 then .error 6 else if (askE s (pathOf (xs.take (i + 1))) x.2).2 = true then .ok (askE s (pathOf (xs.take (i + 1))) x.2).1 else .error 3
/-- What lies at a path. -/
def lookE (s : List (List Ent)) (p : ByteArray) : Except Int (Ent × Nat) :=
  if stackOk s = true then (match names p with | none => .error 2 | some xs => lookN s xs xs.length) else .error 16

theorem lookN_bad {s : List (List Ent)} {xs : List ByteArray} {i : Nat} {c : Int} (h : lookN s xs i = .error c) : ∀ j, i ≤ j → lookN s xs j = .error c
  | 0, hj => by
    have : i = 0 := by omega
    subst this
    exact h
  | j + 1, hj => by
    by_cases e : i = j + 1
    · subst e; exact h
    · rw [lookN, lookN_bad h j (by omega)]

theorem askR_floor (s : List (List Ent)) (p : ByteArray) (f : Nat) : ∀ (k fl : Nat) (met : Bool), fl ≤ k ∨ True → k ≤ s.length → fl ≤ s.length → (askR s p f k fl met).1.2 ≤ s.length
  | 0, fl, met, _, _, h => h
  | k + 1, fl, met, _, hk, h => by
    rw [askR]
    split
    · exact h
    · split
      · exact askR_floor s p f k fl met (.inr trivial) (by omega) h
      · split
        · exact h
        · split
          · show k ≤ _; omega
          · split
            · show k ≤ _; omega
            · exact askR_floor s p f k k true (.inr trivial) (by omega) (by omega)
theorem lookN_floor {s : List (List Ent)} {xs : List ByteArray} {i : Nat} {x : Ent × Nat} (h : lookN s xs i = .ok x) : x.2 ≤ s.length := by
  induction i with
  | zero => rw [lookN] at h; cases h; exact Nat.zero_le _
  | succ i ih =>
    rw [lookN] at h
    split at h
    · cases h
    · split at h
      · cases h
      · split at h
        · cases h
          exact askR_floor s _ _ _ _ _ (.inr trivial) (Nat.le_refl _) (Nat.zero_le _)
        · cases h

/-- look.At's answers. -/
def AtOk (x : Ent × Nat) (w : World) (e : Ending) (w' : World) : Prop := e = .returned (.tuple #[.agg #[.string x.1.path, .int .i64 x.1.kind, .string x.1.data, .int .i64 x.2], .nilIface]) ∧ Ext w w'
def AtBad (c : Int) (w : World) (e : Ending) (w' : World) : Prop := ∃ v, e = .returned (.tuple #[.agg #[.string ⟨#[]⟩, .int .i64 0, .string ⟨#[]⟩, .int .i64 0], v]) ∧ ErrN w' 1 v c ∧ Ext w w'
def AtAns (r : Except Int (Ent × Nat)) (w : World) (e : Ending) (w' : World) : Prop := match r with
  | .ok x => AtOk x w e w'
  | .error c => AtBad c w e w'

set_option maxHeartbeats 4000000 in
theorem LAt_unfit (v : Value) (s : List (List Ent)) (p : ByteArray) (w : World) (hv : RdK w v s) (hp : p.size ≤ 140737488355328) (hs : stackOk s = false) :
    Calls Tryz.prog 21 #[v, .string p] w (AtBad 16 w) := by
  have HR := fun w h => lookRight_any v s w h
  rw [hs] at HR
  have Hv := Lib.hid hv
  have HS : ∀ w, Calls Tryz.prog 35 #[.string p] w fun e w' => ∃ a u, e = .returned (.tuple #[a, u]) ∧ Ext w w' := fun w => by
    rcases hn : names p with _ | xs
    · exact ((Split_any p w hp).2 hn).mono fun e w' ⟨v, h, _, hE⟩ => ⟨_, _, h, hE⟩
    · exact ((Split_any p w hp).1 xs hn).mono fun e w' ⟨v, h, _, hE⟩ => ⟨_, _, h, hE⟩
  clear hv hs
  go_enter Tryz.func21, Tryz.ntmps21
  go_upto_region 1 with (fail)
  have hR := Blk.new w 69 #[.string ⟨#[]⟩, .int .i64 0, .string ⟨#[]⟩, .int .i64 0]
  have hE1 := (Ext.refl w).alloc (.cells #[.string ⟨#[]⟩, .int .i64 0, .string ⟨#[]⟩, .int .i64 0] 69)
  obtain ⟨rb, hrb⟩ : ∃ rb, w.heap.size = rb := ⟨_, rfl⟩
  have hle : w.heap.size ≤ rb := by omega
  rw [hrb] at hR
  rw [hrb]
  have Hrb := Lib.hid hrb
  clear hrb
  generalize w.alloc (.cells #[.string ⟨#[]⟩, .int .i64 0, .string ⟨#[]⟩, .int .i64 0] 69) = W1 at hR hE1 ⊢
  go_wp2_with (first | (go_at_call 35; refine (HS _).mono ?_; rintro e W2 ⟨a, u, rfl, hE2⟩) | (go_at_call 36; refine (HR _ (Hv.out.ext (hE1.trans hE2))).mono ?_; rintro e W3 ⟨rfl, hE3⟩; have hE4 := (hE1.trans hE2).trans hE3; have hR4 := hR.ext (hE2.trans hE3)) | (go_at_call 19; refine (fail_At_c _ _ _ _).mono ?_; rintro e W5 ⟨⟨a5, rfl, hEr⟩, hE5⟩; obtain ⟨⟨c0, d0⟩, ⟨c1, d1⟩, ⟨c2, d2⟩, ⟨c3, d3⟩⟩ := (hR4.ext hE5).four))
  rw [setCell_same c0, setCell_same c1, setCell_same c2, setCell_same c3]
  refine bodyPost_ret (v := .tuple #[.agg #[.string ⟨#[]⟩, .int .i64 0, .string ⟨#[]⟩, .int .i64 0], .iface 86 (.pointer (some ⟨a5, 0, none⟩))]) (by simp [results, Tryz.f21, go_sem, c0, c1, c2, c3]) rfl ?_
  exact ⟨_, rfl, hEr, hE4.trans hE5⟩

set_option maxHeartbeats 4000000 in
theorem LAt_noPath (v : Value) (s : List (List Ent)) (p : ByteArray) (w : World) (hv : RdK w v s) (hp : p.size ≤ 140737488355328) (hs : stackOk s = true) (hn : names p = none) :
    Calls Tryz.prog 21 #[v, .string p] w (AtBad 2 w) := by
  have HR := fun w h => lookRight_any v s w h
  rw [hs] at HR
  have Hv := Lib.hid hv
  have HS := fun w => (Split_any p w hp).2 hn
  clear hv hs hn
  go_enter Tryz.func21, Tryz.ntmps21
  go_upto_region 1 with (fail)
  have hR := Blk.new w 69 #[.string ⟨#[]⟩, .int .i64 0, .string ⟨#[]⟩, .int .i64 0]
  have hE1 := (Ext.refl w).alloc (.cells #[.string ⟨#[]⟩, .int .i64 0, .string ⟨#[]⟩, .int .i64 0] 69)
  obtain ⟨rb, hrb⟩ : ∃ rb, w.heap.size = rb := ⟨_, rfl⟩
  have hle : w.heap.size ≤ rb := by omega
  rw [hrb] at hR
  rw [hrb]
  have Hrb := Lib.hid hrb
  clear hrb
  generalize w.alloc (.cells #[.string ⟨#[]⟩, .int .i64 0, .string ⟨#[]⟩, .int .i64 0] 69) = W1 at hR hE1 ⊢
  go_wp2_with (first | (go_at_call 35; refine (HS _).mono ?_; rintro e W2 ⟨u, rfl, hu, hE2⟩; obtain ⟨a5, rfl⟩ := ErrN_one hu) | (go_at_call 36; refine (HR _ (Hv.out.ext (hE1.trans hE2))).mono ?_; rintro e W3 ⟨rfl, hE3⟩; have hE4 := (hE1.trans hE2).trans hE3; obtain ⟨⟨c0, d0⟩, ⟨c1, d1⟩, ⟨c2, d2⟩, ⟨c3, d3⟩⟩ := (hR.ext (hE2.trans hE3)).four))
  rw [setCell_same c0, setCell_same c1, setCell_same c2, setCell_same c3]
  refine bodyPost_ret (v := .tuple #[.agg #[.string ⟨#[]⟩, .int .i64 0, .string ⟨#[]⟩, .int .i64 0], .iface 86 (.pointer (some ⟨a5, 0, none⟩))]) (by simp [results, Tryz.f21, go_sem, c0, c1, c2, c3]) rfl ?_
  exact ⟨_, rfl, hu.below hE3.below, hE4⟩

/-- The loop's relation: what has been found so far. -/
def AtRel (s : List (List Ent)) (xs : List ByteArray) (n : Nat) (w : World) (rb ob : Nat) (i : Value) (wr : World) : Prop :=
  ∃ (k : Nat) (x : Ent × Nat), i = .int .i64 k ∧ k ≤ n ∧ Hid (lookN s xs k = .ok x) ∧ Ext w wr ∧
    Blk wr rb 69 #[.string ⟨#[]⟩, .int .i64 0, .string ⟨#[]⟩, .int .i64 0] ∧ Blk wr ob 69 #[.string x.1.path, .int .i64 x.1.kind, .string x.1.data, .int .i64 x.2]

set_option maxHeartbeats 8000000 in
theorem LAt_walk (v : Value) (s : List (List Ent)) (p : ByteArray) (xs : List ByteArray) (w : World) (hv : RdK w v s) (hp : p.size ≤ 140737488355328) (hs : stackOk s = true) (hn : names p = some xs) :
    Calls Tryz.prog 21 #[v, .string p] w (AtAns (lookN s xs xs.length) w) := by
  have HR := fun w h => lookRight_any v s w h
  rw [hs] at HR
  have Hv := Lib.hid hv
  have HS := fun w => (Split_any p w hp).1 xs hn
  obtain ⟨hall, hl6, _⟩ := names_some hn
  have hlen := Rd.len hv
  have Hall := Lib.hid hall
  clear hv hs hn hall
  go_enter Tryz.func21, Tryz.ntmps21
  go_upto_region 1 with (fail)
  have hR := Blk.new w 69 #[.string ⟨#[]⟩, .int .i64 0, .string ⟨#[]⟩, .int .i64 0]
  have hE1 := (Ext.refl w).alloc (.cells #[.string ⟨#[]⟩, .int .i64 0, .string ⟨#[]⟩, .int .i64 0] 69)
  obtain ⟨rb, hrb⟩ : ∃ rb, w.heap.size = rb := ⟨_, rfl⟩
  have hle : w.heap.size ≤ rb := by omega
  rw [hrb] at hR
  rw [hrb]
  have Hrb := Lib.hid hrb
  clear hrb
  generalize w.alloc (.cells #[.string ⟨#[]⟩, .int .i64 0, .string ⟨#[]⟩, .int .i64 0] 69) = W1 at hR hE1 ⊢
  obtain ⟨n, hxn⟩ : ∃ n, xs.length = n := ⟨_, rfl⟩
  have Hxn := Lib.hid hxn
  rw [hxn] at hl6
  go_upto_region 8 with (first | (go_at_call 35; refine (HS _).mono ?_; rintro e W2 ⟨u, rfl, hu, hE2⟩; obtain ⟨A, c, rfl, hc1, hc2, _⟩ := id hu; rw [hxn] at hu hc1 ⊢; clear hxn) | (go_at_call 36; refine (HR _ (Hv.out.ext (hE1.trans hE2))).mono ?_; rintro e W3 ⟨rfl, hE3⟩; have hE4 := (hE1.trans hE2).trans hE3))
  have hO := Blk.new W3 69 #[.string ⟨#[47]⟩, .int .i64 2, .string ⟨#[]⟩, .int .i64 0]
  have hE5 := hE4.alloc (.cells #[.string ⟨#[47]⟩, .int .i64 2, .string ⟨#[]⟩, .int .i64 0] 69)
  have hR5 := (hR.ext (hE2.trans hE3)).ext ((Ext.refl W3).alloc (.cells #[.string ⟨#[47]⟩, .int .i64 2, .string ⟨#[]⟩, .int .i64 0] 69))
  have hu5 := RdS.ext hu hE3
  have hE35 := (Ext.refl W3).alloc (.cells #[.string ⟨#[47]⟩, .int .i64 2, .string ⟨#[]⟩, .int .i64 0] 69)
  have hne1 : rb ≠ W3.heap.size := Nat.ne_of_lt (hR.ext (hE2.trans hE3)).lt
  have hle1 : w.heap.size ≤ W3.heap.size := hE4.size
  obtain ⟨ob, hob⟩ : ∃ ob, W3.heap.size = ob := ⟨_, rfl⟩
  rw [hob] at hO hne1 hle1 ⊢
  have hle3' : W3.heap.size ≤ ob := by omega
  have Hob := Lib.hid hob
  clear hob hR
  generalize W3.alloc (.cells #[.string ⟨#[47]⟩, .int .i64 2, .string ⟨#[]⟩, .int .i64 0] 69) = W5 at hO hE5 hR5 hE35 ⊢
  have Hu := Lib.hid hu5
  clear hu hu5
  go_loopw [36] (fun i wr => AtRel s xs n W3 rb ob i wr) (fun i _ => n - (intOf i).toNat)
  case atStart => exact ⟨0, _, rfl, by omega, Lib.hid rfl, hE35, hR5, hO⟩
  case round =>
    obtain ⟨k, x, rfl, hkn, hlk, hE6, hR, hO⟩ := hrel
    have hE := hE4.trans hE6
    obtain ⟨⟨a0, b0⟩, ⟨a1, b1⟩, ⟨a2, b2⟩, ⟨a3, b3⟩⟩ := hO.four
    obtain ⟨⟨c0, d0⟩, ⟨c1, d1⟩, ⟨c2, d2⟩, ⟨c3, d3⟩⟩ := hR.four
    by_cases hlt : k < n
    · have hkx : k < xs.length := by have := Hxn.out; omega
      by_cases h1 : x.1.kind = 1
      · have hbad : lookN s xs xs.length = .error 6 := lookN_bad (i := k + 1) (by rw [lookN, hlk.out]; exact if_pos h1) _ (by omega)
        go_wp2_with (go_at_call 19; refine (fail_At_c _ _ _ _).mono ?_; rintro e W7 ⟨⟨a5, rfl, hEr⟩, hE7⟩; have hR7 := hR.ext hE7; clear c0 c1 c2 c3 d0 d1 d2 d3; obtain ⟨⟨c0, d0⟩, ⟨c1, d1⟩, ⟨c2, d2⟩, ⟨c3, d3⟩⟩ := hR7.four)
        rw [setCell_same c0, setCell_same c1, setCell_same c2, setCell_same c3]
        refine bodyPost_ret (v := .tuple #[.agg #[.string ⟨#[]⟩, .int .i64 0, .string ⟨#[]⟩, .int .i64 0], .iface 86 (.pointer (some ⟨a5, 0, none⟩))]) (by simp [results, Tryz.f21, go_sem, c0, c1, c2, c3]) rfl ?_
        rw [hbad]
        exact ⟨_, rfl, hEr, hE.trans hE7⟩
      · have HJ : ∀ w', Ext W3 w' → Calls Tryz.prog 37 #[.slice A (k + 1) c] w' fun e w'' => e = .returned (.tuple #[.string (pathOf (xs.take (k + 1))), .nilIface]) ∧ Ext w' w'' := by
          intro w' hw
          have h1 := Hu.out
          rw [← List.take_append_drop (k + 1) xs] at h1
          have h2 := Rd.left h1
          rw [List.length_take, Nat.min_eq_left (by omega)] at h2
          refine Join_ok _ _ _ (RdS.ext h2 hw) ?_ (by rw [List.length_take]; have := Hxn.out; omega)
          rw [List.all_eq_true]
          intro y hy
          exact List.all_eq_true.1 Hall.out y (List.mem_of_mem_take hy)
        have hfl := lookN_floor hlk.out
        have HA := fun w' h => ask_any v s (pathOf (xs.take (k + 1))) x.2 w' h (by omega)
        have hnext : lookN s xs (k + 1) = if (askE s (pathOf (xs.take (k + 1))) x.2).2 = true then .ok (askE s (pathOf (xs.take (k + 1))) x.2).1 else .error 3 := by rw [lookN, hlk.out]; exact if_neg h1
        rcases hask : askE s (pathOf (xs.take (k + 1))) x.2 with ⟨⟨y, fy⟩, met⟩
        rw [hask] at HA hnext
        simp only [fndV] at HA
        have Hnext := Lib.hid hnext
        clear hnext hask hfl
        go_upto_region 14 with (first | (go_at_call 37; refine (HJ _ hE6).mono ?_; rintro e W7 ⟨rfl, hE7⟩; clear a0 a1 a2 a3 b0 b1 b2 b3; obtain ⟨⟨a0, b0⟩, ⟨a1, b1⟩, ⟨a2, b2⟩, ⟨a3, b3⟩⟩ := (hO.ext hE7).four) | (go_at_call 38; refine (HA _ (Hv.out.ext (hE.trans hE7))).mono ?_; rintro e W8 ⟨rfl, hE8⟩))
        have hE9 : Ext wr (W8.alloc (.cells #[.string y.path, .int .i64 y.kind, .string y.data, .int .i64 fy] 69)) := by have := hE7.trans hE8; exact (by repeat (first | exact Ext.refl _ | assumption | refine Ext.alloc ?_ _ | refine Ext.drew ?_ | refine Ext.drewN ?_ _ | refine Ext.setCell ?_ (by first | omega | (simp; done) | (simp; omega)) _ | refine Ext.trans ?_ (by assumption)))
        have hX := Blk.new W8 69 #[.string y.path, .int .i64 y.kind, .string y.data, .int .i64 fy]
        have hlx : ob < W8.heap.size := Nat.lt_of_lt_of_le hO.lt (hE7.trans hE8).size
        have hlx1 : rb < W8.heap.size := Nat.lt_of_lt_of_le hR.lt (hE7.trans hE8).size
        obtain ⟨xb, hxb⟩ : ∃ xb, W8.heap.size = xb := ⟨_, rfl⟩
        rw [hxb] at hX hlx hlx1 ⊢
        have Hxb := Lib.hid hxb
        clear hxb
        generalize W8.alloc (.cells #[.string y.path, .int .i64 y.kind, .string y.data, .int .i64 fy] 69) = W9 at hX hE9 ⊢
        clear a0 a1 a2 a3 b0 b1 b2 b3 c0 c1 c2 c3 d0 d1 d2 d3
        have hR9 := hR.ext hE9
        have hO9 := hO.ext hE9
        rcases met with _ | _
        · have hbad : lookN s xs xs.length = .error 3 := lookN_bad (i := k + 1) (by rw [Hnext.out]; exact if_neg (by simp)) _ (by omega)
          go_wp2_with (go_at_call 19; refine (fail_At_c _ _ _ _).mono ?_; rintro e W10 ⟨⟨a5, rfl, hEr⟩, hE10⟩; obtain ⟨⟨c0, d0⟩, ⟨c1, d1⟩, ⟨c2, d2⟩, ⟨c3, d3⟩⟩ := (hR9.ext hE10).four)
          rw [setCell_same c0, setCell_same c1, setCell_same c2, setCell_same c3]
          refine bodyPost_ret (v := .tuple #[.agg #[.string ⟨#[]⟩, .int .i64 0, .string ⟨#[]⟩, .int .i64 0], .iface 86 (.pointer (some ⟨a5, 0, none⟩))]) (by simp [results, Tryz.f21, go_sem, c0, c1, c2, c3]) rfl ?_
          rw [hbad]
          exact ⟨_, rfl, hEr, (hE.trans hE9).trans hE10⟩
        · have hok : Hid (lookN s xs (k + 1) = .ok (y, fy)) := Lib.hid (by rw [Hnext.out]; exact if_pos rfl)
          have hO10 := (((hO9.set 0 (.string y.path)).set 1 (.int .i64 y.kind)).set 2 (.string y.data)).set 3 (.int .i64 fy)
          have hR10 := blk_other (blk_other (blk_other (blk_other hR9 (p := ⟨ob, 0, none⟩) (Ne.symm hne1) (.string y.path)) (p := ⟨ob, 1, none⟩) (Ne.symm hne1) (.int .i64 y.kind)) (p := ⟨ob, 2, none⟩) (Ne.symm hne1) (.string y.data)) (p := ⟨ob, 3, none⟩) (Ne.symm hne1) (.int .i64 fy)
          obtain ⟨⟨a0, b0⟩, ⟨a1, b1⟩, ⟨a2, b2⟩, ⟨a3, b3⟩⟩ := hO9.four
          obtain ⟨⟨x0, _⟩, ⟨x1, _⟩, ⟨x2, _⟩, ⟨x3, _⟩⟩ := hX.four
          go_wp2
          refine ⟨⟨k + 1, (y, fy), by simp, by omega, hok, ?_, hR10, hO10⟩, by simp [intOf]; omega⟩
          have hE11 := hE6.trans hE9
          exact (by repeat (first | exact Ext.refl _ | assumption | refine Ext.alloc ?_ _ | refine Ext.drew ?_ | refine Ext.drewN ?_ _ | refine Ext.setCell ?_ (by first | omega | (simp; done) | (simp; omega)) _ | refine Ext.trans ?_ (by assumption)))
    · have hkn' : k = n := by omega
      have hok : lookN s xs xs.length = .ok x := by rw [Hxn.out, ← hkn', hlk.out]
      go_wp2
      refine bodyPost_ret (v := .tuple #[.agg #[.string x.1.path, .int .i64 x.1.kind, .string x.1.data, .int .i64 x.2], .nilIface]) (by simp [results, Tryz.f21, go_sem, c0, c1, c2, c3]) rfl ?_
      rw [hok]
      exact ⟨rfl, (by repeat (first | exact Ext.refl _ | assumption | refine Ext.alloc ?_ _ | refine Ext.drew ?_ | refine Ext.drewN ?_ _ | refine Ext.setCell ?_ (by first | omega | (simp; done) | (simp; omega)) _ | refine Ext.trans ?_ (by assumption)))⟩

/-- look.At answers what lies at a path, for every stack, and every path of at most 2^47 bytes. -/
theorem LAt_any (v : Value) (s : List (List Ent)) (p : ByteArray) (w : World) (hv : RdK w v s) (hp : p.size ≤ 140737488355328) :
    Calls Tryz.prog 21 #[v, .string p] w (AtAns (lookE s p) w) := by
  rcases hs : stackOk s with _ | _
  · rw [lookE, if_neg (by simp [hs])]
    exact LAt_unfit v s p w hv hp hs
  · rw [lookE, if_pos hs]
    rcases hn : names p with _ | xs
    · exact LAt_noPath v s p w hv hp hs hn
    · exact LAt_walk v s p xs w hv hp hs hn
end Go.Proofs.YthadldnojdjlnaaGreatDoor
