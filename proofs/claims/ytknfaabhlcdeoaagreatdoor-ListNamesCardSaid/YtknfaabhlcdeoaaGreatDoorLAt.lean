/- look.At: what lies at a path of a stack. -/
import Derived.Test.YtknfaabhlcdeoaaGreatDoorLAsk
namespace Go.Proofs.YtknfaabhlcdeoaaGreatDoor
open Go Go.RowKit Go.Shelf Go.Proofs

/-- What is found behind some names, or the error's number. -/
def lookN (s : List (List Ent)) (xs : List ByteArray) : Nat → Except Int (Ent × Nat)
  | 0 => .ok (⟨⟨#[47]⟩, 2, ⟨#[]⟩⟩, 0)
  | i + 1 => match lookN s xs i with
    | .error c => .error c
    | .ok x => if x.1.kind = 1 then .error 6 else if (askE s (pathOf (xs.take (i + 1))) x.2).2 = true then .ok (askE s (pathOf (xs.take (i + 1))) x.2).1 else .error 3
/-- What lies at a path. -/
def lookE (s : List (List Ent)) (p : ByteArray) : Except Int (Ent × Nat) :=
  if stackOk s = true then (match names p with | none => .error 2 | some xs => lookN s xs xs.length) else .error 16

theorem lookN_bad {s : List (List Ent)} {xs : List ByteArray} {i : Nat} {c : Int} (h : lookN s xs i = .error c) : ∀ j, i ≤ j → lookN s xs j = .error c
  | 0, hj => by
    have : i = 0 := by omega
    subst this
    exact h
  | j + 1, hj => by
    by_cases e : i = j + 1
    · subst e; exact h
    · rw [lookN, lookN_bad h j (by omega)]

theorem askR_floor (s : List (List Ent)) (p : ByteArray) (f : Nat) : ∀ (k fl : Nat) (met : Bool), fl ≤ k ∨ True → k ≤ s.length → fl ≤ s.length → (askR s p f k fl met).1.2 ≤ s.length
  | 0, fl, met, _, _, h => h
  | k + 1, fl, met, _, hk, h => by
    rw [askR]
    split
    · exact h
    · split
      · exact askR_floor s p f k fl met (.inr trivial) (by omega) h
      · split
        · exact h
        · split
          · show k ≤ _; omega
          · split
            · show k ≤ _; omega
            · exact askR_floor s p f k k true (.inr trivial) (by omega) (by omega)
theorem lookN_floor {s : List (List Ent)} {xs : List ByteArray} {i : Nat} {x : Ent × Nat} (h : lookN s xs i = .ok x) : x.2 ≤ s.length := by
  induction i with
  | zero => rw [lookN] at h; cases h; exact Nat.zero_le _
  | succ i ih =>
    rw [lookN] at h
    split at h
    · cases h
    · split at h
      · cases h
      · split at h
        · cases h
          exact askR_floor s _ _ _ _ _ (.inr trivial) (Nat.le_refl _) (Nat.zero_le _)
        · cases h

/-- look.At's answers. -/
def AtOk (x : Ent × Nat) (w : World) (e : Ending) (w' : World) : Prop := e = .returned (.tuple #[.agg #[.string x.1.path, .int .i64 x.1.kind, .string x.1.data, .int .i64 x.2], .nilIface]) ∧ Ext w w'
def AtBad (c : Int) (w : World) (e : Ending) (w' : World) : Prop := ∃ v, e = .returned (.tuple #[.agg #[.string ⟨#[]⟩, .int .i64 0, .string ⟨#[]⟩, .int .i64 0], v]) ∧ ErrN w' 1 v c ∧ Ext w w'
def AtAns (r : Except Int (Ent × Nat)) (w : World) (e : Ending) (w' : World) : Prop := match r with
  | .ok x => AtOk x w e w'
  | .error c => AtBad c w e w'

set_option maxHeartbeats 4000000 in
theorem LAt_unfit (v : Value) (s : List (List Ent)) (p : ByteArray) (w : World) (hv : RdK w v s) (hp : p.size ≤ 140737488355328) (hs : stackOk s = false) :
    Calls Tryz.prog 64 #[v, .string p] w (AtBad 16 w) := by
  have HR := fun w h => lookRight_any v s w h
  rw [hs] at HR
  have Hv := Lib.hid hv
  have HS : ∀ w, Calls Tryz.prog 74 #[.string p] w fun e w' => ∃ a u, e = .returned (.tuple #[a, u]) ∧ Ext w w' := fun w => by
    rcases hn : names p with _ | xs
    · exact ((Split_any p w hp).2 hn).mono fun e w' ⟨v, h, _, hE⟩ => ⟨_, _, h, hE⟩
    · exact ((Split_any p w hp).1 xs hn).mono fun e w' ⟨v, h, _, hE⟩ => ⟨_, _, h, hE⟩
  clear hv hs
  go_enter Tryz.func64, Tryz.ntmps64
  go_upto_region 1 with (fail)
  have hR := Blk.new w 111 #[.string ⟨#[]⟩, .int .i64 0, .string ⟨#[]⟩, .int .i64 0]
  have hE1 := (Ext.refl w).alloc (.cells #[.string ⟨#[]⟩, .int .i64 0, .string ⟨#[]⟩, .int .i64 0] 111)
  obtain ⟨rb, hrb⟩ : ∃ rb, w.heap.size = rb := ⟨_, rfl⟩
  have hle : w.heap.size ≤ rb := by omega
  rw [hrb] at hR
  rw [hrb]
  have Hrb := Lib.hid hrb
  clear hrb
  generalize w.alloc (.cells #[.string ⟨#[]⟩, .int .i64 0, .string ⟨#[]⟩, .int .i64 0] 111) = W1 at hR hE1 ⊢
  go_wp2_with (first | (go_at_call 74; refine (HS _).mono ?_; rintro e W2 ⟨a, u, rfl, hE2⟩) | (go_at_call 117; refine (HR _ (Hv.out.ext (hE1.trans hE2))).mono ?_; rintro e W3 ⟨rfl, hE3⟩; have hE4 := (hE1.trans hE2).trans hE3; have hR4 := hR.ext (hE2.trans hE3)) | (go_at_call 63; refine (fail_At_c _ _ _ _).mono ?_; rintro e W5 ⟨⟨a5, rfl, hEr⟩, hE5⟩; obtain ⟨⟨c0, d0⟩, ⟨c1, d1⟩, ⟨c2, d2⟩, ⟨c3, d3⟩⟩ := (hR4.ext hE5).four))
  rw [setCell_same c0, setCell_same c1, setCell_same c2, setCell_same c3]
  refine bodyPost_ret (v := .tuple #[.agg #[.string ⟨#[]⟩, .int .i64 0, .string ⟨#[]⟩, .int .i64 0], .iface 181 (.pointer (some ⟨a5, 0, none⟩))]) (by simp [results, Tryz.f64, go_sem, c0, c1, c2, c3]) rfl ?_
  exact ⟨_, rfl, hEr, hE4.trans hE5⟩

set_option maxHeartbeats 4000000 in
theorem LAt_noPath (v : Value) (s : List (List Ent)) (p : ByteArray) (w : World) (hv : RdK w v s) (hp : p.size ≤ 140737488355328) (hs : stackOk s = true) (hn : names p = none) :
    Calls Tryz.prog 64 #[v, .string p] w (AtBad 2 w) := by
  have HR := fun w h => lookRight_any v s w h
  rw [hs] at HR
  have Hv := Lib.hid hv
  have HS := fun w => (Split_any p w hp).2 hn
  clear hv hs hn
  go_enter Tryz.func64, Tryz.ntmps64
  go_upto_region 1 with (fail)
  have hR := Blk.new w 111 #[.string ⟨#[]⟩, .int .i64 0, .string ⟨#[]⟩, .int .i64 0]
  have hE1 := (Ext.refl w).alloc (.cells #[.string ⟨#[]⟩, .int .i64 0, .string ⟨#[]⟩, .int .i64 0] 111)
  obtain ⟨rb, hrb⟩ : ∃ rb, w.heap.size = rb := ⟨_, rfl⟩
  have hle : w.heap.size ≤ rb := by omega
  rw [hrb] at hR
  rw [hrb]
  have Hrb := Lib.hid hrb
  clear hrb
  generalize w.alloc (.cells #[.string ⟨#[]⟩, .int .i64 0, .string ⟨#[]⟩, .int .i64 0] 111) = W1 at hR hE1 ⊢
  go_wp2_with (first | (go_at_call 74; refine (HS _).mono ?_; rintro e W2 ⟨u, rfl, hu, hE2⟩; obtain ⟨a5, rfl⟩ := ErrN_one hu) | (go_at_call 117; refine (HR _ (Hv.out.ext (hE1.trans hE2))).mono ?_; rintro e W3 ⟨rfl, hE3⟩; have hE4 := (hE1.trans hE2).trans hE3; obtain ⟨⟨c0, d0⟩, ⟨c1, d1⟩, ⟨c2, d2⟩, ⟨c3, d3⟩⟩ := (hR.ext (hE2.trans hE3)).four))
  rw [setCell_same c0, setCell_same c1, setCell_same c2, setCell_same c3]
  refine bodyPost_ret (v := .tuple #[.agg #[.string ⟨#[]⟩, .int .i64 0, .string ⟨#[]⟩, .int .i64 0], .iface 181 (.pointer (some ⟨a5, 0, none⟩))]) (by simp [results, Tryz.f64, go_sem, c0, c1, c2, c3]) rfl ?_
  exact ⟨_, rfl, hu.below hE3.below, hE4⟩

/-- The loop's relation: what has been found so far. -/
def AtRel (s : List (List Ent)) (xs : List ByteArray) (n : Nat) (w : World) (rb ob : Nat) (i : Value) (wr : World) : Prop :=
  ∃ (k : Nat) (x : Ent × Nat), i = .int .i64 k ∧ k ≤ n ∧ Hid (lookN s xs k = .ok x) ∧ Ext w wr ∧
    Blk wr rb 111 #[.string ⟨#[]⟩, .int .i64 0, .string ⟨#[]⟩, .int .i64 0] ∧ Blk wr ob 111 #[.string x.1.path, .int .i64 x.1.kind, .string x.1.data, .int .i64 x.2]

set_option maxHeartbeats 8000000 in
theorem LAt_walk (v : Value) (s : List (List Ent)) (p : ByteArray) (xs : List ByteArray) (w : World) (hv : RdK w v s) (hp : p.size ≤ 140737488355328) (hs : stackOk s = true) (hn : names p = some xs) :
    Calls Tryz.prog 64 #[v, .string p] w (AtAns (lookN s xs xs.length) w) := by
  have HR := fun w h => lookRight_any v s w h
  rw [hs] at HR
  have Hv := Lib.hid hv
  have HS := fun w => (Split_any p w hp).1 xs hn
  obtain ⟨hall, hl6, _⟩ := names_some hn
  have hlen := Rd.len hv
  have Hall := Lib.hid hall
  clear hv hs hn hall
  go_enter Tryz.func64, Tryz.ntmps64
  go_upto_region 1 with (fail)
  have hR := Blk.new w 111 #[.string ⟨#[]⟩, .int .i64 0, .string ⟨#[]⟩, .int .i64 0]
  have hE1 := (Ext.refl w).alloc (.cells #[.string ⟨#[]⟩, .int .i64 0, .string ⟨#[]⟩, .int .i64 0] 111)
  obtain ⟨rb, hrb⟩ : ∃ rb, w.heap.size = rb := ⟨_, rfl⟩
  have hle : w.heap.size ≤ rb := by omega
  rw [hrb] at hR
  rw [hrb]
  have Hrb := Lib.hid hrb
  clear hrb
  generalize w.alloc (.cells #[.string ⟨#[]⟩, .int .i64 0, .string ⟨#[]⟩, .int .i64 0] 111) = W1 at hR hE1 ⊢
  obtain ⟨n, hxn⟩ : ∃ n, xs.length = n := ⟨_, rfl⟩
  have Hxn := Lib.hid hxn
  rw [hxn] at hl6
  go_upto_region 8 with (first | (go_at_call 74; refine (HS _).mono ?_; rintro e W2 ⟨u, rfl, hu, hE2⟩; obtain ⟨A, c, rfl, hc1, hc2, _⟩ := id hu; rw [hxn] at hu hc1 ⊢; clear hxn) | (go_at_call 117; refine (HR _ (Hv.out.ext (hE1.trans hE2))).mono ?_; rintro e W3 ⟨rfl, hE3⟩; have hE4 := (hE1.trans hE2).trans hE3))
  have hO := Blk.new W3 111 #[.string ⟨#[47]⟩, .int .i64 2, .string ⟨#[]⟩, .int .i64 0]
  have hE5 := hE4.alloc (.cells #[.string ⟨#[47]⟩, .int .i64 2, .string ⟨#[]⟩, .int .i64 0] 111)
  have hR5 := (hR.ext (hE2.trans hE3)).ext ((Ext.refl W3).alloc (.cells #[.string ⟨#[47]⟩, .int .i64 2, .string ⟨#[]⟩, .int .i64 0] 111))
  have hu5 := RdS.ext hu hE3
  have hE35 := (Ext.refl W3).alloc (.cells #[.string ⟨#[47]⟩, .int .i64 2, .string ⟨#[]⟩, .int .i64 0] 111)
  have hne1 : rb ≠ W3.heap.size := Nat.ne_of_lt (hR.ext (hE2.trans hE3)).lt
  have hle1 : w.heap.size ≤ W3.heap.size := hE4.size
  obtain ⟨ob, hob⟩ : ∃ ob, W3.heap.size = ob := ⟨_, rfl⟩
  rw [hob] at hO hne1 hle1 ⊢
  have hle3' : W3.heap.size ≤ ob := by omega
  have Hob := Lib.hid hob
  clear hob hR
  generalize W3.alloc (.cells #[.string ⟨#[47]⟩, .int .i64 2, .string ⟨#[]⟩, .int .i64 0] 111) = W5 at hO hE5 hR5 hE35 ⊢
  have Hu := Lib.hid hu5
  clear hu hu5
  go_loopw [36] (fun i wr => AtRel s xs n W3 rb ob i wr) (fun i _ => n - (intOf i).toNat)
  case atStart => exact ⟨0, _, rfl, by omega, Lib.hid rfl, hE35, hR5, hO⟩
  case round =>
    obtain ⟨k, x, rfl, hkn, hlk, hE6, hR, hO⟩ := hrel
    have hE := hE4.trans hE6
    obtain ⟨⟨a0, b0⟩, ⟨a1, b1⟩, ⟨a2, b2⟩, ⟨a3, b3⟩⟩ := hO.four
    obtain ⟨⟨c0, d0⟩, ⟨c1, d1⟩, ⟨c2, d2⟩, ⟨c3, d3⟩⟩ := hR.four
    by_cases hlt : k < n
    · have hkx : k < xs.length := by have := Hxn.out; omega
      by_cases h1 : x.1.kind = 1
      · have hbad : lookN s xs xs.length = .error 6 := lookN_bad (i := k + 1) (by rw [lookN, hlk.out]; exact if_pos h1) _ (by omega)
        go_wp2_with (go_at_call 63; refine (fail_At_c _ _ _ _).mono ?_; rintro e W7 ⟨⟨a5, rfl, hEr⟩, hE7⟩; have hR7 := hR.ext hE7; clear c0 c1 c2 c3 d0 d1 d2 d3; obtain ⟨⟨c0, d0⟩, ⟨c1, d1⟩, ⟨c2, d2⟩, ⟨c3, d3⟩⟩ := hR7.four)
        rw [setCell_same c0, setCell_same c1, setCell_same c2, setCell_same c3]
        refine bodyPost_ret (v := .tuple #[.agg #[.string ⟨#[]⟩, .int .i64 0, .string ⟨#[]⟩, .int .i64 0], .iface 181 (.pointer (some ⟨a5, 0, none⟩))]) (by simp [results, Tryz.f64, go_sem, c0, c1, c2, c3]) rfl ?_
        rw [hbad]
        exact ⟨_, rfl, hEr, hE.trans hE7⟩
      · have HJ : ∀ w', Ext W3 w' → Calls Tryz.prog 75 #[.slice A (k + 1) c] w' fun e w'' => e = .returned (.tuple #[.string (pathOf (xs.take (k + 1))), .nilIface]) ∧ Ext w' w'' := by
          intro w' hw
          have h1 := Hu.out
          rw [← List.take_append_drop (k + 1) xs] at h1
          have h2 := Rd.left h1
          rw [List.length_take, Nat.min_eq_left (by omega)] at h2
          refine Join_ok _ _ _ (RdS.ext h2 hw) ?_ (by rw [List.length_take]; have := Hxn.out; omega)
          rw [List.all_eq_true]
          intro y hy
          exact List.all_eq_true.1 Hall.out y (List.mem_of_mem_take hy)
        have hfl := lookN_floor hlk.out
        have HA := fun w' h => ask_any v s (pathOf (xs.take (k + 1))) x.2 w' h (by omega)
        have hnext : lookN s xs (k + 1) = if (askE s (pathOf (xs.take (k + 1))) x.2).2 = true then .ok (askE s (pathOf (xs.take (k + 1))) x.2).1 else .error 3 := by rw [lookN, hlk.out]; exact if_neg h1
        rcases hask : askE s (pathOf (xs.take (k + 1))) x.2 with ⟨⟨y, fy⟩, met⟩
        rw [hask] at HA hnext
        simp only [fndV] at HA
        have Hnext := Lib.hid hnext
        clear hnext hask hfl
        go_upto_region 14 with (first | (go_at_call 75; refine (HJ _ hE6).mono ?_; rintro e W7 ⟨rfl, hE7⟩; clear a0 a1 a2 a3 b0 b1 b2 b3; obtain ⟨⟨a0, b0⟩, ⟨a1, b1⟩, ⟨a2, b2⟩, ⟨a3, b3⟩⟩ := (hO.ext hE7).four) | (go_at_call 118; refine (HA _ (Hv.out.ext (hE.trans hE7))).mono ?_; rintro e W8 ⟨rfl, hE8⟩))
        have hE9 : Ext wr (W8.alloc (.cells #[.string y.path, .int .i64 y.kind, .string y.data, .int .i64 fy] 111)) := by have := hE7.trans hE8; exact (by repeat (first | exact Ext.refl _ | assumption | refine Ext.alloc ?_ _ | refine Ext.drew ?_ | refine Ext.drewN ?_ _ | refine Ext.setCell ?_ (by first | omega | (simp; done) | (simp; omega)) _ | refine Ext.trans ?_ (by assumption)))
        have hX := Blk.new W8 111 #[.string y.path, .int .i64 y.kind, .string y.data, .int .i64 fy]
        have hlx : ob < W8.heap.size := Nat.lt_of_lt_of_le hO.lt (hE7.trans hE8).size
        have hlx1 : rb < W8.heap.size := Nat.lt_of_lt_of_le hR.lt (hE7.trans hE8).size
        obtain ⟨xb, hxb⟩ : ∃ xb, W8.heap.size = xb := ⟨_, rfl⟩
        rw [hxb] at hX hlx hlx1 ⊢
        have Hxb := Lib.hid hxb
        clear hxb
        generalize W8.alloc (.cells #[.string y.path, .int .i64 y.kind, .string y.data, .int .i64 fy] 111) = W9 at hX hE9 ⊢
        clear a0 a1 a2 a3 b0 b1 b2 b3 c0 c1 c2 c3 d0 d1 d2 d3
        have hR9 := hR.ext hE9
        have hO9 := hO.ext hE9
        rcases met with _ | _
        · have hbad : lookN s xs xs.length = .error 3 := lookN_bad (i := k + 1) (by rw [Hnext.out]; exact if_neg (by simp)) _ (by omega)
          go_wp2_with (go_at_call 63; refine (fail_At_c _ _ _ _).mono ?_; rintro e W10 ⟨⟨a5, rfl, hEr⟩, hE10⟩; obtain ⟨⟨c0, d0⟩, ⟨c1, d1⟩, ⟨c2, d2⟩, ⟨c3, d3⟩⟩ := (hR9.ext hE10).four)
          rw [setCell_same c0, setCell_same c1, setCell_same c2, setCell_same c3]
          refine bodyPost_ret (v := .tuple #[.agg #[.string ⟨#[]⟩, .int .i64 0, .string ⟨#[]⟩, .int .i64 0], .iface 181 (.pointer (some ⟨a5, 0, none⟩))]) (by simp [results, Tryz.f64, go_sem, c0, c1, c2, c3]) rfl ?_
          rw [hbad]
          exact ⟨_, rfl, hEr, (hE.trans hE9).trans hE10⟩
        · have hok : Hid (lookN s xs (k + 1) = .ok (y, fy)) := Lib.hid (by rw [Hnext.out]; exact if_pos rfl)
          have hO10 := (((hO9.set 0 (.string y.path)).set 1 (.int .i64 y.kind)).set 2 (.string y.data)).set 3 (.int .i64 fy)
          have hR10 := blk_other (blk_other (blk_other (blk_other hR9 (p := ⟨ob, 0, none⟩) (Ne.symm hne1) (.string y.path)) (p := ⟨ob, 1, none⟩) (Ne.symm hne1) (.int .i64 y.kind)) (p := ⟨ob, 2, none⟩) (Ne.symm hne1) (.string y.data)) (p := ⟨ob, 3, none⟩) (Ne.symm hne1) (.int .i64 fy)
          obtain ⟨⟨a0, b0⟩, ⟨a1, b1⟩, ⟨a2, b2⟩, ⟨a3, b3⟩⟩ := hO9.four
          obtain ⟨⟨x0, _⟩, ⟨x1, _⟩, ⟨x2, _⟩, ⟨x3, _⟩⟩ := hX.four
          go_wp2
          refine ⟨⟨k + 1, (y, fy), by simp, by omega, hok, ?_, hR10, hO10⟩, by simp [intOf]; omega⟩
          have hE11 := hE6.trans hE9
          exact (by repeat (first | exact Ext.refl _ | assumption | refine Ext.alloc ?_ _ | refine Ext.drew ?_ | refine Ext.drewN ?_ _ | refine Ext.setCell ?_ (by first | omega | (simp; done) | (simp; omega)) _ | refine Ext.trans ?_ (by assumption)))
    · have hkn' : k = n := by omega
      have hok : lookN s xs xs.length = .ok x := by rw [Hxn.out, ← hkn', hlk.out]
      go_wp2
      refine bodyPost_ret (v := .tuple #[.agg #[.string x.1.path, .int .i64 x.1.kind, .string x.1.data, .int .i64 x.2], .nilIface]) (by simp [results, Tryz.f64, go_sem, c0, c1, c2, c3]) rfl ?_
      rw [hok]
      exact ⟨rfl, (by repeat (first | exact Ext.refl _ | assumption | refine Ext.alloc ?_ _ | refine Ext.drew ?_ | refine Ext.drewN ?_ _ | refine Ext.setCell ?_ (by first | omega | (simp; done) | (simp; omega)) _ | refine Ext.trans ?_ (by assumption)))⟩

/-- look.At answers what lies at a path, for every stack, and every path of at most 2^47 bytes. -/
theorem LAt_any (v : Value) (s : List (List Ent)) (p : ByteArray) (w : World) (hv : RdK w v s) (hp : p.size ≤ 140737488355328) :
    Calls Tryz.prog 64 #[v, .string p] w (AtAns (lookE s p) w) := by
  rcases hs : stackOk s with _ | _
  · rw [lookE, if_neg (by simp [hs])]
    exact LAt_unfit v s p w hv hp hs
  · rw [lookE, if_pos hs]
    rcases hn : names p with _ | xs
    · exact LAt_noPath v s p w hv hp hs hn
    · exact LAt_walk v s p xs w hv hp hs hn
end Go.Proofs.YtknfaabhlcdeoaaGreatDoor
