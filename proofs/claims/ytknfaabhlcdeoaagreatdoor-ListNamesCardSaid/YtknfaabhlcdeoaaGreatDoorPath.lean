/- path.Deep, Join (of names) and Parent; for every text of at most 2^47 bytes. -/
import Derived.Test.YtknfaabhlcdeoaaGreatDoorSplit
import Derived.Deep.QuietTactic
import Derived.BigQuiet
namespace Go.Proofs.YtknfaabhlcdeoaaGreatDoor
open Go Go.RowKit Go.Shelf Go.Proofs

/-- How many names; -1: it is no path. -/
def deep (p : ByteArray) : Int := match names p with
  | none => -1
  | some xs => xs.length

set_option maxHeartbeats 1000000 in
theorem Deep_any (p : ByteArray) (w : World) (hs : p.size ≤ 140737488355328) :
    Calls Tryz.prog 49 #[.string p] w fun e w' => e = .returned (.int .i64 (deep p)) ∧ Ext w w' := by
  obtain ⟨h1, h2⟩ := Split_any p w hs
  rcases hn : names p with _ | xs
  · have hd : deep p = -1 := by simp [deep, hn]
    rw [hd]
    have H := h2 hn
    clear h1 h2 hn hd
    go_enter Tryz.func49, Tryz.ntmps49
    go_wp2_with (go_at_call 74; refine H.mono ?_; rintro e w' ⟨v, rfl, hv, hE⟩; rcases ErrN_ne hv with ⟨a, rfl⟩ | rfl)
    all_goals go_wp2
    all_goals go_ret
    all_goals exact ⟨rfl, hE⟩
  · have hd : deep p = xs.length := by simp [deep, hn]
    rw [hd]
    have H := h1 xs hn
    clear h1 h2 hn hd
    go_enter Tryz.func49, Tryz.ntmps49
    go_wp2_with (go_at_call 74; refine H.mono ?_; rintro e w' ⟨v, rfl, ⟨A, c, rfl, hc⟩, hE⟩)
    go_ret
    exact ⟨rfl, hE⟩

set_option maxHeartbeats 1000000 in
theorem Join_ok (v : Value) (xs : List ByteArray) (w : World) (hv : RdS w v xs) (hall : xs.all nameB = true) (hl : xs.length ≤ 6) :
    Calls Tryz.prog 75 #[v] w fun e w' => e = .returned (.tuple #[.string (pathOf xs), .nilIface]) ∧ Ext w w' := by
  obtain ⟨A, c, rfl, hc1, hc2, hc3, hc4⟩ := hv
  by_cases h0 : xs = []
  · subst h0
    have hp : pathOf [] = ⟨#[47]⟩ := by rw [pathOf, if_pos rfl]
    rw [hp]
    go_enter Tryz.func75, Tryz.ntmps75
    go_wp2
    go_ret2
    exact ⟨rfl, Ext.refl _⟩
  · obtain ⟨b, o, rfl, hcell⟩ := hc4 h0
    have hn0 : 0 < xs.length := List.length_pos_iff.2 h0
    have hb : b < w.heap.size := by
      obtain ⟨cs, hr, hu⟩ := hcell 0 (xs[0]) (by simp [hn0])
      exact World.block_lt_of_cell? w ⟨b, _, none⟩ (hu 0 (.string xs[0]) (by rw [show cs = _ from hr]; rfl))
    have hjl := names_join_length hall
    have HJ := Tryz.strings_Join b o c xs ⟨#[47]⟩ w (fun j x hj => by
      obtain ⟨cs, hr, hu⟩ := hcell j x hj
      have := hu 0 (.string x) (by rw [show cs = _ from hr]; rfl)
      simpa using this) hb (by omega) hc1 (by show (Lib.join _ [47]).length ≤ _; omega)
    have hp : pathOf xs = ⟨#[47]⟩ ++ ⟨(Lib.join (xs.map (·.data.toList)) (⟨#[47]⟩ : ByteArray).data.toList).toArray⟩ := by
      rw [pathOf, if_neg h0]
      exact ByteArray.ext (by simp [B])
    have hsz := pathOf_size hall hl
    have HS := fun w => (Split_any (pathOf xs) w (by omega)).1 xs (names_pathOf hall hl)
    have H0 : ((xs.length : Int) == 0) = false := by simp; omega
    have Hp := Lib.hid hp
    have hjl2 : (Lib.join (List.map (fun x => x.data.toList) xs) [47]).length ≤ 54 := by omega
    clear hp hcell hc4 hc3 h0 hjl
    go_enter Tryz.func75, Tryz.ntmps75
    go_wp2_with (go_at_call 126; refine HJ.mono ?_; rintro e w' ⟨rfl, hE⟩)
    rw [← Hp.out]
    refine (HS _).mono ?_
    rintro e w2 ⟨v, rfl, ⟨A2, c2, rfl, hrest⟩, hE2⟩
    clear hrest
    go_wp2
    go_ret2
    exact ⟨rfl, Ext.trans hE hE2⟩

def ParentBad (c : Int) (w : World) (e : Ending) (w' : World) : Prop := ∃ a, e = .returned (.tuple #[.string ⟨#[]⟩, .string ⟨#[]⟩, .iface 181 (.pointer (some ⟨a, 0, none⟩))]) ∧ ErrN w' 1 (.iface 181 (.pointer (some ⟨a, 0, none⟩))) c ∧ Ext w w'
def ParentOk (d x : ByteArray) (w : World) (e : Ending) (w' : World) : Prop := e = .returned (.tuple #[.string d, .string x, .nilIface]) ∧ Ext w w'

theorem ErrN_one {w : World} {v : Value} {c : Int} (h : ErrN w 1 v c) : ∃ a, v = .iface 181 (.pointer (some ⟨a, 0, none⟩)) := by
  obtain ⟨a, _, rfl, _⟩ := h
  exact ⟨a, rfl⟩

set_option maxHeartbeats 1000000 in
theorem Parent_none (p : ByteArray) (w : World) (hs : p.size ≤ 140737488355328) (hn : names p = none) : Calls Tryz.prog 33 #[.string p] w (ParentBad 2 w) := by
  have H := (Split_any p w hs).2 hn
  clear hn
  go_enter Tryz.func33, Tryz.ntmps33
  go_wp2_with (go_at_call 74; refine H.mono ?_; rintro e w' ⟨v, rfl, hv, hE⟩; obtain ⟨a, rfl⟩ := ErrN_one hv)
  go_ret3
  exact ⟨_, rfl, hv, hE⟩

set_option maxHeartbeats 1000000 in
theorem Parent_root (p : ByteArray) (w : World) (hs : p.size ≤ 140737488355328) (hn : names p = some []) : Calls Tryz.prog 33 #[.string p] w (ParentBad 1 w) := by
  have H := (Split_any p w hs).1 [] hn
  clear hn
  go_enter Tryz.func33, Tryz.ntmps33
  go_wp2_with (first | (go_at_call 74; refine H.mono ?_; rintro e w' ⟨v, rfl, ⟨A, c, rfl, hc⟩, hE⟩) | (go_at_call 63; refine (fail_At_c _ _ _ _).mono ?_; rintro e w2 ⟨⟨a, rfl, hv⟩, hE2⟩))
  go_ret3
  exact ⟨_, rfl, hv, hE.trans hE2⟩

set_option maxHeartbeats 2000000 in
theorem Parent_some (p : ByteArray) (xs : List ByteArray) (x : ByteArray) (w : World) (hs : p.size ≤ 140737488355328) (hn : names p = some (xs ++ [x])) : Calls Tryz.prog 33 #[.string p] w (ParentOk (pathOf xs) x w) := by
  have H := (Split_any p w hs).1 _ hn
  obtain ⟨hall, hl, _⟩ := names_some hn
  clear hn
  rw [List.all_append, Bool.and_eq_true] at hall
  rw [List.length_append, List.length_singleton] at hl
  have HJ := fun v w h => Join_ok v xs w h hall.1 (by omega)
  go_enter Tryz.func33, Tryz.ntmps33
  go_wp2_with (go_at_call 74; refine H.mono ?_; rintro e W1 ⟨v, rfl, hv, hE⟩; obtain ⟨b, o, c, rfl, hc1, hc2, hcell⟩ := RdS.open_ hv (by simp); have hl1 := hcell xs.length x (by simp); have hpre := Rd.left hv; rw [List.length_append, List.length_singleton] at hc1; clear hv hcell)
  refine (HJ _ _ hpre).mono ?_
  rintro e W2 ⟨rfl, hE2⟩
  have hl2 := hE2.cell hl1
  clear hl1 hpre
  go_wp2_with fail
  go_quiet (fail)
  go_wp2
  go_ret3
  exact ⟨rfl, (hE.trans hE2).drewN _⟩
end Go.Proofs.YtknfaabhlcdeoaaGreatDoor
