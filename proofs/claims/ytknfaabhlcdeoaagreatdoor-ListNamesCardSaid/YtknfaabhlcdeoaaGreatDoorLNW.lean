/- The names that layers have in a directory, gathered entry by entry; no program. -/
import Derived.Test.YtknfaabhlcdeoaaGreatDoorListW
import Derived.Maps.Views
import Derived.Test.YtknfaabhlcdeoaaGreatDoorNumb
namespace Go.Proofs.YtknfaabhlcdeoaaGreatDoor
open Go Go.RowKit Go.Maps

/-- What has been met in the layers below k. -/
def metAt (s : List (List Ent)) (p : ByteArray) (f k : Nat) : List ByteArray := ((s.take k).drop f).flatten.filterMap (inP p)

theorem metAt_zero (s : List (List Ent)) (p : ByteArray) (f : Nat) : metAt s p f f = [] := by
  rw [metAt, List.drop_of_length_le (by rw [List.length_take]; omega)]
  rfl
theorem metAt_succ {s : List (List Ent)} (p : ByteArray) {f k : Nat} (hf : f ≤ k) (h : k < s.length) : metAt s p f (k + 1) = metAt s p f k ++ (s[k]).filterMap (inP p) := by
  rw [metAt, metAt, ← List.take_append_getElem h, List.drop_append_of_le_length (by rw [List.length_take]; omega), List.flatten_append, List.filterMap_append]
  congr 2
  simp
theorem metAt_end (s : List (List Ent)) (p : ByteArray) (f : Nat) : metAt s p f s.length = metP s p f := by rw [metAt, metP, List.take_length]

theorem met_in {l : List Ent} (p : ByteArray) {j : Nat} (h : j < l.length) : (l.take (j + 1)).filterMap (inP p) = (l.take j).filterMap (inP p) ++ (inP p l[j]).toList := by
  rw [← List.take_append_getElem h, List.filterMap_append]
  congr 1

theorem flatten_le {s : List (List Ent)} (h : ∀ l ∈ s, l.length ≤ 64) : s.flatten.length ≤ 64 * s.length := by
  induction s with
  | nil => simp
  | cons l s ih =>
    have h1 := h l (by simp)
    have h2 := ih (fun x hx => h x (by simp [hx]))
    simp only [List.flatten_cons, List.length_append, List.length_cons]
    omega

theorem stackOk_layers {s : List (List Ent)} (h : stackOk s = true) : s.length ≤ 9 ∧ ∀ l ∈ s, layerOk l = true := by
  simp only [stackOk, Bool.and_eq_true, decide_eq_true_eq, List.all_eq_true] at h
  exact h

theorem metAt_len {s : List (List Ent)} (p : ByteArray) (f k : Nat) (h : stackOk s = true) : (metAt s p f k).length ≤ 576 := by
  obtain ⟨h1, h2⟩ := stackOk_layers h
  have h3 := List.length_filterMap_le (inP p) ((s.take k).drop f).flatten
  have h4 : ((s.take k).drop f).flatten.length ≤ 64 * ((s.take k).drop f).length := flatten_le fun l hl => layerOk_len (h2 l (List.mem_of_mem_take (List.mem_of_mem_drop hl)))
  have h5 : ((s.take k).drop f).length ≤ 9 := by rw [List.length_drop, List.length_take]; omega
  show (List.filterMap _ _).length ≤ _
  omega

theorem met_name {l : List Ent} {p z : ByteArray} (h : z ∈ l.filterMap (inP p)) : nameB z = true := by
  obtain ⟨x, _, hx⟩ := List.mem_filterMap.1 h
  obtain ⟨ys, hy, _⟩ := inP_iff.1 hx
  exact List.all_eq_true.1 (names_some hy).1 z (by simp)

/-- A name as a key. -/
def keyL (z : ByteArray) : Lit := .string z.data.toList
def uT : DataW Value := .held (.bool true)
/-- The set of names in memory. -/
def setS (acc : List ByteArray) : DataW Value := setOf uT (acc.map keyL)

theorem isKey (z : List UInt8) : WideAt.IsKeyLit (.string z) := by simp [WideAt.IsKeyLit]
theorem setS_snoc (acc : List ByteArray) (z : ByteArray) : (setS acc).put (keyL z) uT = setS (acc ++ [z]) := by rw [setS, setS, List.map_append, List.map_singleton, setOf_snoc]

theorem setS_has (acc : List ByteArray) (x : List UInt8) : Maps.has (setS acc) (.string x) = true ↔ B x ∈ acc := by
  rw [setS, has_setOf uT (.string x) (acc.map keyL) (by
    intro y hy
    obtain ⟨z, _, rfl⟩ := List.mem_map.1 hy
    exact isKey _), List.any_map, List.any_eq_true]
  constructor
  · rintro ⟨z, hz, h⟩
    have e : z.data.toList = x := by
      have := WideAt.sameKey_eq (show (keyL z).sameKey (.string x) = true from h)
      simpa [keyL] using this
    rw [← e, B_toList]
    exact hz
  · intro h
    refine ⟨B x, h, ?_⟩
    show (Lit.string (B x).data.toList).sameKey (.string x) = true
    rw [toList_B]
    exact WideAt.sameKey_self (isKey x)

/-- What is kept of the names that come. -/
def shownL (s : List (List Ent)) (p : ByteArray) (pre : List (List UInt8)) : List (List UInt8) := pre.filter fun x => showsE s (childP p (B x))
theorem shownL_snoc (s : List (List Ent)) (p : ByteArray) (pre : List (List UInt8)) (x : List UInt8) : shownL s p (pre ++ [x]) = shownL s p pre ++ (if showsE s (childP p (B x)) then [x] else []) := by
  rw [shownL, shownL, List.filter_append]
  congr 1
  simp [List.filter_cons]
theorem shownL_len (s : List (List Ent)) (p : ByteArray) (pre : List (List UInt8)) : (shownL s p pre).length ≤ pre.length := List.length_filter_le _ _

theorem nodup_sub {α : Type} [DecidableEq α] : ∀ (l m : List α), l.Nodup → (∀ x ∈ l, x ∈ m) → l.length ≤ m.length
  | [], _, _, _ => Nat.zero_le _
  | a :: l, m, hn, h => by
    rw [List.nodup_cons] at hn
    have ha := h a (by simp)
    have h1 := nodup_sub l (m.erase a) hn.2 fun x hx => (List.mem_erase_of_ne (show x ≠ a from fun e => hn.1 (by rw [← e]; exact hx))).2 (h x (by simp [hx]))
    rw [List.length_erase_of_mem ha] at h1
    have h2 := List.length_pos_of_mem ha
    rw [List.length_cons]
    omega

theorem nodup_len {pre : List (List UInt8)} {acc : List ByteArray} (hn : pre.Nodup) (h : ∀ x ∈ pre, B x ∈ acc) : pre.length ≤ acc.length := by
  have h1 : (pre.map B).Nodup := List.pairwise_map.2 (hn.imp fun {a b} h e => h (B_inj e))
  have h2 := nodup_sub (pre.map B) acc h1 (fun x hx => by
    obtain ⟨y, hy, rfl⟩ := List.mem_map.1 hx
    exact h y hy)
  rwa [List.length_map] at h2

/-- The list that is sorted is the directory's. -/
theorem names_done {s : List (List Ent)} {p : ByteArray} {f : Nat} {ss : List (List UInt8)} (hn : ss.Nodup) (h : ∀ x, x ∈ ss ↔ B x ∈ metP s p f) :
    NamesIs s p f (((shownL s p ss).mergeSort fun x y => decide (x ≤ y)).map B) := by
  have hperm := List.mergeSort_perm (shownL s p ss) (fun x y => decide (x ≤ y))
  have hsort := List.pairwise_mergeSort (le := fun x y : List UInt8 => decide (x ≤ y)) (fun a b c h1 h2 => by simp only [decide_eq_true_eq] at *; exact List.le_trans h1 h2) (fun a b => by
    simp only [Bool.or_eq_true, decide_eq_true_eq]
    exact List.le_total a b) (shownL s p ss)
  have hnd : ((shownL s p ss).mergeSort fun x y => decide (x ≤ y)).Nodup := hperm.nodup_iff.2 (hn.filter _)
  refine ⟨?_, fun x => ?_⟩
  · rw [List.pairwise_map]
    refine (List.Pairwise.and hsort hnd).imp fun {a b} ⟨h1, h2⟩ => ?_
    simp only [decide_eq_true_eq] at h1
    simp only [lt, toList_B, decide_eq_true_eq]
    refine Classical.byContradiction fun h3 => h2 ?_
    exact List.le_antisymm h1 (List.not_lt.1 h3)
  · rw [List.mem_map]
    constructor
    · rintro ⟨y, hy, rfl⟩
      have h1 := (hperm.mem_iff.1 hy)
      rw [shownL, List.mem_filter] at h1
      exact ⟨(h y).1 h1.1, h1.2⟩
    · rintro ⟨h1, h2⟩
      refine ⟨x.data.toList, hperm.mem_iff.2 ?_, B_toList x⟩
      rw [shownL, List.mem_filter]
      exact ⟨(h _).2 (by rw [B_toList]; exact h1), by rw [B_toList]; exact h2⟩
end Go.Proofs.YtknfaabhlcdeoaaGreatDoor
