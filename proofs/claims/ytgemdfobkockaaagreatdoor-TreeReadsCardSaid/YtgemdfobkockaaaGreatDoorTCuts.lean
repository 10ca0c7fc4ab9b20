/- shalelaw11.TreeCuts is true. -/
import Derived.Test.YtgemdfobkockaaaGreatDoorTAwake
import Derived.Test.YtgemdfobkockaaaGreatDoorSameE
import Derived.Lib.QuietBelow
namespace Go.Proofs.YtgemdfobkockaaaGreatDoor
open Go Go.RowKit Go.Shelf Go.Proofs

theorem size_yes {v : Value} {l : List Ent} (h : sizeOk l = true) (w : World) (hv : RdE w v l) : Calls Tryz.prog 35 #[v] w fun e w' => e = .returned (.int .i64 1) ∧ Ext w w' := by
  have := Size_any v l w hv
  rwa [h] at this
theorem size_no {v : Value} {l : List Ent} (h : sizeOk l = false) (w : World) (hv : RdE w v l) : Calls Tryz.prog 35 #[v] w fun e w' => e = .returned (.int .i64 0) ∧ Ext w w' := by
  have := Size_any v l w hv
  rwa [h] at this

theorem tRead_ok {v : Value} {t : List Ent} {p s : ByteArray} (hp : p.size ≤ 140737488355328) (h : readT t p = .ok s) (w : World) (hv : RdE w v t) : Calls Tryz.prog 37 #[v, .string p] w (ReadTOk s w) := by
  have := tRead_any v t p w hv hp
  rwa [h] at this
theorem tRead_bad {v : Value} {t : List Ent} {p : ByteArray} {c : Int} (hp : p.size ≤ 140737488355328) (h : readT t p = .error c) (w : World) (hv : RdE w v t) : Calls Tryz.prog 37 #[v, .string p] w (ReadTBad c w) := by
  have := tRead_any v t p w hv hp
  rwa [h] at this
theorem Cut_ok {v : Value} {t l : List Ent} {p : ByteArray} {n : Int} (hp : p.size ≤ 140737488355328) (h : cutT t p n = .ok l) (w : World) (hv : RdE w v t) : Calls Tryz.prog 38 #[v, .string p, .int .i64 n] w (WithOk l w) := by
  have := Cut_any v t p n w hv hp
  rwa [h] at this

theorem readT_code {t : List Ent} {p : ByteArray} {c : Int} (h : readT t p = .error c) : c ≠ 0 := by
  rw [readT] at h
  split at h
  · rename_i cc hk
    cases h
    rw [kindT] at hk
    split at hk
    · split at hk
      · rename_i c2 ha
        cases hk
        exact atT_code ha
      · cases hk
    · cases hk; decide
  · split at h
    · cases h; decide
    · split at h <;> cases h

/-- What a file that is cut is. -/
theorem cut_read {t : List Ent} {p s : ByteArray} (h : readT t p = .ok s) (n : Nat) (hn : n ≤ 256) : ∃ x, cutT t p n = .ok x ∧ treeOk x = true ∧ readT x p = .ok (filledT s n) ∧ (n = s.size → x = t) := by
  obtain ⟨e, hf, rfl⟩ := readT_ok h
  obtain ⟨ht, hx, hpx, hk, _⟩ := fileT_ok hf
  have hw := withT_set ht hx hk (d := filledT e.data n) (by rw [filledT_size]; exact hn)
  refine ⟨insT t (setD e (filledT e.data n)), ?_, hw.2, ?_, ?_⟩
  · rw [cutT, hf]
    show (if (n : Int) < 0 ∨ 256 < (n : Int) then _ else _) = _
    rw [if_neg (by omega)]
    exact hw.1
  · have := readT_of hw.2 (e := setD e (filledT e.data n)) (mem_insT.2 (.inl rfl)) hk
    rw [← hpx]
    exact this
  · rintro rfl
    rw [filledT_self]
    exact insT_same (tree_rising ht) hx
theorem read_size {t : List Ent} {p s : ByteArray} (h : readT t p = .ok s) : s.size ≤ 256 := by
  obtain ⟨e, hf, rfl⟩ := readT_ok h
  obtain ⟨ht, hx, _, hk, _⟩ := fileT_ok hf
  exact entOk_data ((treeOk_iff.1 ht).2.2 e hx).1 hk

set_option maxRecDepth 100000 in
set_option maxHeartbeats 4000000 in
/-- Where the law lets an input go. -/
theorem cuts_let (v : Value) (t : List Ent) (p : ByteArray) (n : Int) (w : World) (hL : Laid w) (hv : RdE w v t) (h : ¬ (sizeOk t = true ∧ p.size ≤ 100 ∧ treeOk t = true)) :
    Calls Tryz.prog 8 #[v, .string p, .int .u8 n] w fun e w' => e = .returned (.bool true) ∧ Ext w w' := by
  have Hv := Lib.hid hv
  have HL := Lib.hid hL
  obtain ⟨A, c, rfl, _, _, _⟩ := rdE_form hv rfl
  clear hv hL
  rcases hf : sizeOk t with _ | _
  · have HF := fun w => size_no (v := .slice A t.length c) hf w
    clear hf h
    go_enter Tryz.func8, Tryz.ntmps8
    go_wp2_with fail
    refine (TAwake_any _ HL.out).mono ?_
    rintro e W1 ⟨rfl, hE1⟩
    go_wp2_with fail
    refine (HF _ (Hv.out.ext hE1)).mono ?_
    rintro e W2 ⟨rfl, hE2⟩
    have hE3 := hE1.trans hE2
    go_wp2_with fail
    refine (TAwake_any _ (HL.out.ext hE3)).mono ?_
    rintro e W4 ⟨rfl, hE4⟩
    go_wp2
    go_ret
    exact ⟨rfl, hE3.trans hE4⟩
  · have HF := fun w => size_yes (v := .slice A t.length c) hf w
    by_cases hp : p.size ≤ 100
    · have ht : treeOk t = false := by
        cases ht : treeOk t
        · rfl
        · exact absurd ⟨hf, hp, ht⟩ h
      have hp' : ¬ (100 : Int) < (p.size : Int) := by omega
      have HT := fun w => Tree_no (v := .slice A t.length c) ht w
      clear hf h ht
      go_enter Tryz.func8, Tryz.ntmps8
      go_wp2_with fail
      refine (TAwake_any _ HL.out).mono ?_
      rintro e W1 ⟨rfl, hE1⟩
      go_wp2_with fail
      refine (HF _ (Hv.out.ext hE1)).mono ?_
      rintro e W2 ⟨rfl, hE2⟩
      have hE3 := hE1.trans hE2
      go_wp2_with fail
      refine (HT _ (Hv.out.ext hE3)).mono ?_
      rintro e W3 ⟨rfl, hE3'⟩
      have hE3 := hE3.trans hE3'
      go_wp2_with fail
      refine (TAwake_any _ (HL.out.ext hE3)).mono ?_
      rintro e W4 ⟨rfl, hE4⟩
      go_wp2
      go_ret
      exact ⟨rfl, hE3.trans hE4⟩
    · have hp' : (100 : Int) < (p.size : Int) := by omega
      clear hf h
      go_enter Tryz.func8, Tryz.ntmps8
      go_wp2_with fail
      refine (TAwake_any _ HL.out).mono ?_
      rintro e W1 ⟨rfl, hE1⟩
      go_wp2_with fail
      refine (HF _ (Hv.out.ext hE1)).mono ?_
      rintro e W2 ⟨rfl, hE2⟩
      have hE3 := hE1.trans hE2
      go_wp2_with fail
      refine (TAwake_any _ (HL.out.ext hE3)).mono ?_
      rintro e W4 ⟨rfl, hE4⟩
      go_wp2
      go_ret
      exact ⟨rfl, hE3.trans hE4⟩

set_option maxRecDepth 100000 in
set_option maxHeartbeats 4000000 in
/-- There is no file. -/
theorem cuts_none (v : Value) (t : List Ent) (p : ByteArray) (n : Int) (w : World) (hL : Laid w) (hv : RdE w v t) (hf : sizeOk t = true) (hp : p.size ≤ 100) (ht : treeOk t = true) (c : Int) (hr : readT t p = .error c) :
    Calls Tryz.prog 8 #[v, .string p, .int .u8 n] w fun e w' => e = .returned (.bool true) ∧ Ext w w' := by
  have Hv := Lib.hid hv
  have HL := Lib.hid hL
  obtain ⟨A, c', rfl, _, _, _⟩ := rdE_form hv rfl
  have HF := fun w => size_yes (v := .slice A t.length c') hf w
  have hp' : ¬ (100 : Int) < (p.size : Int) := by omega
  have HT := fun w => Tree_yes (v := .slice A t.length c') ht w
  have HR := fun w => tRead_bad (v := .slice A t.length c') (by omega) hr w
  have hc0 : (c == 0) = false := by simpa using readT_code hr
  clear hf ht hr hv hL
  go_enter Tryz.func8, Tryz.ntmps8
  go_wp2_with fail
  refine (TAwake_any _ HL.out).mono ?_
  rintro e W1 ⟨rfl, hE1⟩
  go_wp2_with fail
  refine (HF _ (Hv.out.ext hE1)).mono ?_
  rintro e W2 ⟨rfl, hE2⟩
  have hE3 := hE1.trans hE2
  go_wp2_with fail
  refine (HT _ (Hv.out.ext hE3)).mono ?_
  rintro e W3 ⟨rfl, hE3'⟩
  have hE4 := hE3.trans hE3'
  go_wp2_with fail
  refine (HR _ (Hv.out.ext hE4)).mono ?_
  rintro e W4 ⟨v4, rfl, ⟨a4, rfl, hEr⟩, hE4'⟩
  have hE5 := hE4.trans hE4'
  go_wp2_with fail
  refine (Code_err 1 _ c _ hEr (HL.out.ext hE5)).mono ?_
  rintro e W6 ⟨rfl, hE6⟩
  go_wp2
  go_ret
  exact ⟨rfl, hE5.trans hE6⟩

theorem filled_list (s : ByteArray) (n : Nat) : (filledT s n).data.toList = s.data.toList.take n ++ List.replicate (n - s.size) 0 := by rw [filledT, toList_B]
theorem filled_head (s : ByteArray) (n m : Nat) (hm : m = min s.size n) : (filledT s n).extract 0 m = s.extract 0 m := by
  have hl : s.data.toList.length = s.size := Array.length_toList
  refine data_inj ?_
  rw [Lib.extract_data, Lib.extract_data, filled_list]
  simp only [List.drop_zero, Nat.sub_zero]
  rw [List.take_append_of_le_length (by rw [List.length_take]; omega), List.take_take, Nat.min_eq_left (by omega)]
theorem filled_zero (s : ByteArray) (n i : Nat) (h : i < (filledT s n).size) (hm : min s.size n ≤ i) : (filledT s n)[i] = 0 := by
  have hl : s.data.toList.length = s.size := Array.length_toList
  have hs := h
  rw [filledT_size] at hs
  have h1 : (filledT s n).data.toList[i]? = some ((filledT s n)[i]) := by
    have hh : i < (filledT s n).data.toList.length := by rw [Array.length_toList]; exact h
    rw [List.getElem?_eq_getElem hh]
    rfl
  rw [filled_list, List.getElem?_append_right (by rw [List.length_take]; omega), List.getElem?_replicate] at h1
  split at h1
  · exact (Option.some.inj h1).symm
  · cases h1

set_option maxRecDepth 100000 in
set_option maxHeartbeats 8000000 in
/-- There is a file. -/
theorem cuts_ok (v : Value) (t : List Ent) (p : ByteArray) (n : Nat) (w : World) (hn : n ≤ 255) (hL : Laid w) (hv : RdE w v t) (hf : sizeOk t = true) (hp : p.size ≤ 100) (ht : treeOk t = true) (s : ByteArray) (hr : readT t p = .ok s) :
    Calls Tryz.prog 8 #[v, .string p, .int .u8 n] w fun e w' => e = .returned (.bool true) ∧ Ext w w' := by
  have Hv := Lib.hid hv
  have HL := Lib.hid hL
  have hs256 := read_size hr
  obtain ⟨A, c', rfl, _, _, _⟩ := rdE_form hv rfl
  have HF := fun w => size_yes (v := .slice A t.length c') hf w
  have hp' : ¬ (100 : Int) < (p.size : Int) := by omega
  have HT := fun w => Tree_yes (v := .slice A t.length c') ht w
  have HR := fun w => tRead_ok (v := .slice A t.length c') (by omega) hr w
  obtain ⟨x, hx1, hx2, hx3, _⟩ := cut_read hr n (by omega)
  obtain ⟨y, hy1, _, _, hy⟩ := cut_read hr s.size hs256
  obtain rfl := hy rfl
  have HC1 := fun w => Cut_ok (v := .slice A y.length c') (by omega) hx1 w
  have HC2 := fun w => Cut_ok (v := .slice A y.length c') (by omega) hy1 w
  have HR2 := fun u w => tRead_ok (v := u) (by omega) hx3 w
  obtain ⟨m, hm⟩ : ∃ m, m = min s.size n := ⟨_, rfl⟩
  have hhead := filled_head s n m hm
  have hus := filledT_size s n
  have hz := fun i h hi => filled_zero s n i h (by rw [← hm]; exact hi)
  generalize filledT s n = u at *
  have hcmp : ((u.extract 0 m).toList == (s.extract 0 m).toList) = true := by rw [hhead]; simp
  have hcmp2 : ((u.extract 0 (min s.size n)).toList == (s.extract 0 (min s.size n)).toList) = true := by rw [← hm]; exact hcmp
  have hw8 : IntKind.i64.wrap (n : Int) = (n : Int) := IntWalk.i64_in _ ⟨by omega, by omega⟩
  have hb1 : (0 : Int) ≤ min (s.size : Int) (n : Int) := by omega
  have hb2 : min (s.size : Int) (n : Int) ≤ (s.size : Int) := by omega
  have hb3 : min (s.size : Int) (n : Int) ≤ (u.size : Int) := by omega
  have hbm : (min (s.size : Int) (n : Int)).toNat = m := by omega
  have hmn : m ≤ n := by omega
  have Hz := Lib.hid hz
  have Hus := Lib.hid hus
  have hule : (u.size : Int) = (n : Int) := by omega
  clear hf ht hr hv hL hx1 hx2 hx3 hy1 hy hhead hz
  go_enter Tryz.func8, Tryz.ntmps8
  go_wp2_with fail
  refine (TAwake_any _ HL.out).mono ?_
  rintro e W1 ⟨rfl, hE1⟩
  go_wp2_with fail
  refine (HF _ (Hv.out.ext hE1)).mono ?_
  rintro e W2 ⟨rfl, hE2⟩
  have hE3 := hE1.trans hE2
  go_wp2_with fail
  refine (HT _ (Hv.out.ext hE3)).mono ?_
  rintro e W3 ⟨rfl, hE3'⟩
  have hE4 := hE3.trans hE3'
  go_wp2_with fail
  refine (HR _ (Hv.out.ext hE4)).mono ?_
  rintro e W4 ⟨rfl, hE4'⟩
  have hE5 := hE4.trans hE4'
  go_wp2_with fail
  refine (Code_nil _).mono ?_
  rintro e W6 ⟨rfl, hE6'⟩
  have hE6 := hE5.trans hE6'
  clear hE1 hE2 hE3 hE3' hE4 hE4' hE5 hE6'
  go_wp2_with fail
  refine (HC1 _ (Hv.out.ext hE6)).mono ?_
  rintro e W7 ⟨v7, rfl, hr7, hE7'⟩
  have hE7 := hE6.trans hE7'
  have Hr7 := Lib.hid hr7
  obtain ⟨A7, c7, rfl, _, _, _⟩ := rdE_form hr7 rfl
  clear hr7
  go_wp2_with fail
  refine (HR2 _ _ Hr7.out).mono ?_
  rintro e W8 ⟨rfl, hE8'⟩
  have hE8 := hE7.trans hE8'
  go_wp2_with fail
  refine (HC2 _ (Hv.out.ext hE8)).mono ?_
  rintro e W9 ⟨v9, rfl, hr9, hE9'⟩
  have hE9 := hE8.trans hE9'
  have Hr9 := Lib.hid hr9
  obtain ⟨A9, c9, rfl, _, _, _⟩ := rdE_form hr9 rfl
  clear hr9 hE6 hE7' hE7 hE8' hE8 hE9'
  go_wp2
  (refine wp_region_quiet_below (by kernel_rfl) (by kernel_rfl) ?_; (repeat (go_big_quiet_step ((go_at_call 18; exact Calls.regrown_of (Code_nil _))))); refine wpQuiet_nil ?_; intro _ hq; obtain ⟨⟨dq, osq⟩, hq2⟩ := hq; subst hq2)
  have hE10 : Ext w (Sort.grow (redrawn W9 dq) osq) := hE9.trans (below_regrown W9 dq osq)
  have hE10' : Ext W9 (Sort.grow (redrawn W9 dq) osq) := below_regrown W9 dq osq
  generalize Sort.grow (redrawn W9 dq) osq = W10 at *
  have hcond : (u.size : Int) = (n : Int) := hule
  go_wp2
  go_loop [16] (fun iv => ∃ i : Nat, iv = .int .i64 i ∧ m ≤ i ∧ i ≤ n) (fun iv => n - (intOf iv).toNat)
  case atStart => exact ⟨m, by first | rfl | (rw [← hbm]; congr 1; omega), Nat.le_refl _, hmn⟩
  case round =>
    obtain ⟨i, rfl, him, hin⟩ := hrel
    by_cases hlt : i < n
    · have hiu : i < u.size := by omega
      have hz0 : u[i] = 0 := Hz.out i hiu him
      have hz1 : ((u[i].toNat : Int)) = 0 := by rw [hz0]; rfl
      clear hz0
      go_wp2
      exact ⟨⟨i + 1, by simp, by omega, by omega⟩, by simp [intOf]; omega⟩
    · have hiu : ¬ i < u.size := by omega
      have HS := fun W h => Same_yes (l := y) (Hr9.out.ext (by exact h : Ext W9 W)) (Hv.out.ext (hE9.trans h))
      clear Hz
      go_wp2_with (first | (go_at_call 18; refine (Code_nil _).mono ?_; rintro e W11 ⟨rfl, hE11⟩) | (go_at_call 39; refine (HS _ (hE10'.trans hE11)).mono ?_; rintro e W12 ⟨rfl, hE12⟩))
      go_ret
      exact ⟨rfl, (hE10.trans hE11).trans hE12⟩

theorem TreeCuts_any (v : Value) (t : List Ent) (p : ByteArray) (n : Int) (w : World) (hn : 0 ≤ n ∧ n ≤ 255) (hL : Laid w) (hv : RdE w v t) :
    Calls Tryz.prog 8 #[v, .string p, .int .u8 n] w fun e w' => e = .returned (.bool true) ∧ Ext w w' := by
  by_cases h : sizeOk t = true ∧ p.size ≤ 100 ∧ treeOk t = true
  · rcases hr : readT t p with c | s
    · exact cuts_none v t p n w hL hv h.1 h.2.1 h.2.2 c hr
    · obtain ⟨k, rfl⟩ : ∃ k : Nat, n = k := ⟨n.toNat, by omega⟩
      exact cuts_ok v t p k w (by omega) hL hv h.1 h.2.1 h.2.2 s hr
  · exact cuts_let v t p n w hL hv h
end Go.Proofs.YtgemdfobkockaaaGreatDoor
