/- shalelaw14.EditCopies is true: for every stack, two texts and a number. -/
import Derived.Test.YtneefmgidplbcaaGreatDoorJE8
import Derived.Test.YtneefmgidplbcaaGreatDoorJE4
namespace Go.Proofs.YtneefmgidplbcaaGreatDoor
open Go Go.RowKit Go.Shelf Go.Proofs Go.Maps

def cpOp (p s : ByteArray) (n : Int) : OpT := ⟨2, p, ⟨#[]⟩, n, s⟩

theorem fold_nil (low : List (List Ent)) : foldT (low ++ [[]]) = foldT low := by rw [foldT_snoc]; rfl
theorem stack_nil {low : List (List Ent)} (h8 : low.length ≤ 8) : stackOk (low ++ [[]]) = stackOk low := by
  rw [stackOk_all, stackOk, decide_eq_true h8, decide_eq_true (show low.length ≤ 9 by omega), List.all_append]
  have : ([[]] : List (List Ent)).all layerOk = true := by decide
  rw [this, Bool.and_true]

theorem right_cp {p s : ByteArray} {n : Int} (hp : p.size ≤ 54) (hs : s.size ≤ 256) : rightOp (cpOp p s n) = true :=
  rightOp_iff.2 ⟨(by decide : (0:Int) ≤ 2), (by decide : (2:Int) ≤ 6), hp, (by decide : (⟨#[]⟩ : ByteArray).size ≤ 54), hs⟩

theorem cp_unfit {low : List (List Ent)} {p s : ByteArray} {n : Int} (hp : p.size ≤ 54) (hs : s.size ≤ 256) (h8 : low.length ≤ 8) (h : stackOk low = false) : doE low [] (cpOp p s n) = .error 16 := by
  rw [doE, if_pos (right_cp hp hs), stack_nil h8, if_neg (by rw [h]; simp)]
theorem cp_bad {low : List (List Ent)} {p s : ByteArray} {n c : Int} (hp : p.size ≤ 54) (hs : s.size ≤ 256) (h8 : low.length ≤ 8) (h : stackOk low = true) (hw : writeT (foldT low) p n s = .error c) : doE low [] (cpOp p s n) = .error c := by
  have hd : doT (foldT low) (cpOp p s n).act.toNat (cpOp p s n) = .error c := hw
  rw [doE, if_pos (right_cp hp hs), stack_nil h8, if_pos h, fold_nil, hd]
theorem cp_ok {low : List (List Ent)} {p s : ByteArray} {n : Int} {t' : List Ent} (hp : p.size ≤ 54) (hs : s.size ≤ 256) (h8 : low.length ≤ 8) (h : stackOk low = true) (hw : writeT (foldT low) p n s = .ok t') :
    ∃ d u m, d.size ≤ 256 ∧ readT t' p = .ok d ∧ doE low [] (cpOp p s n) = .ok u ∧ layerOk u = true ∧ findE u p = some ⟨p, 1, d⟩ ∧ u.length = m ∧ deep p = (m : Int) := by
  have hd : doT (foldT low) (cpOp p s n).act.toNat (cpOp p s n) = .ok t' := hw
  have ht := (fold_show h).1
  have ht' := doT_tree ht hd
  have hw2 := hw
  rw [writeT] at hw2
  split at hw2
  · cases hw2
  · rename_i e hf
    split at hw2
    · cases hw2
    · obtain ⟨_, h1, h2, h3, ys, z, h4⟩ := fileT_find hf
      have hw3 : withT (foldT low) (setD e (writtenT e.data n.toNat s)) = .ok t' := hw2
      rw [withT] at hw3
      split at hw3
      · cases hw3
        have hmem : setD e (writtenT e.data n.toNat s) ∈ insT (foldT low) (setD e (writtenT e.data n.toNat s)) := mem_insT.2 (.inl rfl)
        have hent := (treeOk_iff.1 ht').2.2 _ hmem
        have hds := entOk_data hent.1 h2
        have hrd := readT_of ht' hmem h2
        have hpp : (setD e (writtenT e.data n.toNat s)).path = p := h3
        rw [hpp] at hrd
        obtain ⟨d, hdd⟩ : ∃ d, (setD e (writtenT e.data n.toNat s)).data = d := ⟨_, rfl⟩
        rw [hdd] at hds hrd
        obtain ⟨g1, g2⟩ := put_nil h4 hds
        have hu : doneU low (insT (foldT low) (setD e (writtenT e.data n.toNat s))) [] (cpOp p s n).act.toNat (cpOp p s n) = putU [] ⟨p, 1, d⟩ := by
          show fileU _ [] p = _
          rw [fileU, dataT, hrd]
        refine ⟨d, putU [] ⟨p, 1, d⟩, ys.length + 1, hds, hrd, ?_, g1, ?_, g2, ?_⟩
        · rw [doE, if_pos (right_cp hp hs), stack_nil h8, if_pos h, fold_nil, hd]
          dsimp only
          rw [hu, if_pos g1]
        · rw [findE_T g1]
          exact find_at_put List.Pairwise.nil (⟨p, 1, d⟩ : Ent)
        · rw [deep_some h4]
          simp
      · cases hw3

set_option maxRecDepth 100000 in
set_option maxHeartbeats 8000000 in
theorem copies_let (v : Value) (low : List (List Ent)) (p s : ByteArray) (n : Int) (w : World) (hv : RdK w v low) (h : ¬ (fewOk low = true ∧ low.length ≤ 8 ∧ p.size ≤ 54 ∧ s.size ≤ 256)) :
    Calls Tryz.prog 7 #[v, .string p, .int .u8 n, .string s] w fun e w' => e = .returned (.bool true) ∧ Ext w w' := by
  have Hv := Lib.hid hv
  obtain ⟨A, c, rfl, _, _, _⟩ := rdK_form2 hv rfl
  clear hv
  rcases hf : fewOk low with _ | _
  · have HF := fun w => few_no (v := .slice A low.length c) hf w
    clear hf h
    go_enter Tryz.func7, Tryz.ntmps7
    go_wp2_with (first | (go_at_call 21; ((with_reducible refine (EAwake_any _).mono ?_)); rintro e W1 ⟨rfl, hE1⟩) | (go_at_call 9; refine (HF _ (Hv.out.ext (by exact (by repeat (first | exact Ext.refl _ | assumption | refine Ext.alloc ?_ _ | refine Ext.drew ?_ | refine Ext.drewN ?_ _ | refine Ext.setCell ?_ (by first | omega | (simp; done) | (simp; omega)) _ | refine Ext.trans ?_ (by assumption)))))).mono ?_; rintro e W2 ⟨rfl, hE2⟩))
    go_ret
    exact ⟨rfl, by exact (by repeat (first | exact Ext.refl _ | assumption | refine Ext.alloc ?_ _ | refine Ext.drew ?_ | refine Ext.drewN ?_ _ | refine Ext.setCell ?_ (by first | omega | (simp; done) | (simp; omega)) _ | refine Ext.trans ?_ (by assumption)))⟩
  · have HF := fun w => few_yes (v := .slice A low.length c) hf w
    by_cases h1 : low.length ≤ 8
    · have h1' : ¬ (8 : Int) < (low.length : Int) := by omega
      by_cases h2 : p.size ≤ 54
      · have h2' : ¬ (54 : Int) < (p.size : Int) := by omega
        have h3' : (256 : Int) < (s.size : Int) := by
          have : ¬ s.size ≤ 256 := fun h3 => h ⟨hf, h1, h2, h3⟩
          omega
        clear hf h
        go_enter Tryz.func7, Tryz.ntmps7
        go_wp2_with (first | (go_at_call 21; ((with_reducible refine (EAwake_any _).mono ?_)); rintro e W1 ⟨rfl, hE1⟩) | (go_at_call 9; refine (HF _ (Hv.out.ext (by exact (by repeat (first | exact Ext.refl _ | assumption | refine Ext.alloc ?_ _ | refine Ext.drew ?_ | refine Ext.drewN ?_ _ | refine Ext.setCell ?_ (by first | omega | (simp; done) | (simp; omega)) _ | refine Ext.trans ?_ (by assumption)))))).mono ?_; rintro e W2 ⟨rfl, hE2⟩))
        go_ret
        exact ⟨rfl, by exact (by repeat (first | exact Ext.refl _ | assumption | refine Ext.alloc ?_ _ | refine Ext.drew ?_ | refine Ext.drewN ?_ _ | refine Ext.setCell ?_ (by first | omega | (simp; done) | (simp; omega)) _ | refine Ext.trans ?_ (by assumption)))⟩
      · have h2' : (54 : Int) < (p.size : Int) := by omega
        clear hf h
        go_enter Tryz.func7, Tryz.ntmps7
        go_wp2_with (first | (go_at_call 21; ((with_reducible refine (EAwake_any _).mono ?_)); rintro e W1 ⟨rfl, hE1⟩) | (go_at_call 9; refine (HF _ (Hv.out.ext (by exact (by repeat (first | exact Ext.refl _ | assumption | refine Ext.alloc ?_ _ | refine Ext.drew ?_ | refine Ext.drewN ?_ _ | refine Ext.setCell ?_ (by first | omega | (simp; done) | (simp; omega)) _ | refine Ext.trans ?_ (by assumption)))))).mono ?_; rintro e W2 ⟨rfl, hE2⟩))
        go_ret
        exact ⟨rfl, by exact (by repeat (first | exact Ext.refl _ | assumption | refine Ext.alloc ?_ _ | refine Ext.drew ?_ | refine Ext.drewN ?_ _ | refine Ext.setCell ?_ (by first | omega | (simp; done) | (simp; omega)) _ | refine Ext.trans ?_ (by assumption)))⟩
    · have h1' : (8 : Int) < (low.length : Int) := by omega
      clear hf h
      go_enter Tryz.func7, Tryz.ntmps7
      go_wp2_with (first | (go_at_call 21; ((with_reducible refine (EAwake_any _).mono ?_)); rintro e W1 ⟨rfl, hE1⟩) | (go_at_call 9; refine (HF _ (Hv.out.ext (by exact (by repeat (first | exact Ext.refl _ | assumption | refine Ext.alloc ?_ _ | refine Ext.drew ?_ | refine Ext.drewN ?_ _ | refine Ext.setCell ?_ (by first | omega | (simp; done) | (simp; omega)) _ | refine Ext.trans ?_ (by assumption)))))).mono ?_; rintro e W2 ⟨rfl, hE2⟩))
      go_ret
      exact ⟨rfl, by exact (by repeat (first | exact Ext.refl _ | assumption | refine Ext.alloc ?_ _ | refine Ext.drew ?_ | refine Ext.drewN ?_ _ | refine Ext.setCell ?_ (by first | omega | (simp; done) | (simp; omega)) _ | refine Ext.trans ?_ (by assumption)))⟩

set_option maxRecDepth 100000 in
set_option maxHeartbeats 16000000 in
theorem copies_main (v : Value) (low : List (List Ent)) (p s : ByteArray) (n : Int) (w : World) (hL : Laid w) (hv : RdK w v low) (hn : 0 ≤ n ∧ n ≤ 255) (hf : fewOk low = true) (h8 : low.length ≤ 8) (hp : p.size ≤ 54) (hs : s.size ≤ 256) :
    Calls Tryz.prog 7 #[v, .string p, .int .u8 n, .string s] w fun e w' => e = .returned (.bool true) ∧ Ext w w' := by
  have hx : (cpOp p s n).fits := ⟨by show p.size ≤ _; omega, by show (0 : Nat) ≤ _; omega, by show s.size ≤ _; omega⟩
  have HF := fun w h => few_yes (v := v) hf w h
  have HSt := fun W h => FStack_any v low W h
  have HWr := fun (W : World) (v' : Value) (t : List Ent) (h : RdE W v' t) => Write_any v' t p n s W h (by omega)
  have hnw : IntKind.i64.wrap n = n := by rw [IntKind.wrap_i64]; omega
  have Hv := Lib.hid hv
  have HL := Lib.hid hL
  obtain ⟨nl, hnl⟩ : ∃ k, k = low.length := ⟨_, rfl⟩
  have Hnl := Lib.hid hnl
  obtain ⟨A, c, rfl, _, _, _⟩ := rdK_form2 hv hnl
  have h8' : ¬ (8 : Int) < (nl : Int) := by omega
  have hp' : ¬ (54 : Int) < (p.size : Int) := by omega
  have hs' : ¬ (256 : Int) < (s.size : Int) := by omega
  rcases hst : stackOk low with _ | _
  · have HD := fun (W : World) (he : Ext w W) => EdDo_bad (v := .slice A nl c) (u := .slice none 0 0) (cp_unfit hp hs h8 hst) hx (by omega) W (Hv.out.ext he) (Rd.nil _ _ _)
    clear hv hL hf hst hnl hx
    go_enter Tryz.func7, Tryz.ntmps7
    go_wp2_with (first | (go_at_call 21; ((with_reducible refine (EAwake_any _).mono ?_)); rintro e W1 ⟨rfl, hE1⟩) | (go_at_call 9; refine (HF _ (Hv.out.ext (by exact (by repeat (first | exact Ext.refl _ | assumption | refine Ext.alloc ?_ _ | refine Ext.drew ?_ | refine Ext.drewN ?_ _ | refine Ext.setCell ?_ (by first | omega | (simp; done) | (simp; omega)) _ | refine Ext.trans ?_ (by assumption)))))).mono ?_; rintro e W2 ⟨rfl, hE2⟩) | fail)
    have hE02 : Ext w W2 := hE1.trans hE2
    refine (HSt _ (Hv.out.ext hE02)).mono ?_
    rintro e W3 ⟨v3, rfl, hr3, hE3⟩
    have Hr3 := Lib.hid hr3
    clear hr3
    go_wp2_with fail
    refine (HD _ (hE02.trans hE3)).mono ?_
    rintro e W4 ⟨v4, n4, rfl, hEr4, hE4⟩
    go_wp2_with fail
    refine (HWr _ _ _ (Hr3.out.ext hE4)).mono ?_
    rintro e W5 h5
    obtain ⟨a5, b5, rfl⟩ := h5.pair
    have hE5 := tans_ext h5
    clear h5
    have hE05 : Ext w W5 := ((hE02.trans hE3).trans hE4).trans hE5
    go_wp2_with fail
    refine (Code_err _ _ _ _ (hEr4.ext hE5) (HL.out.ext hE05)).mono ?_
    rintro e W6 ⟨rfl, hE6⟩
    go_wp2_with fail
    refine (Code_err _ _ _ _ (hEr4.ext (hE5.trans hE6)) (HL.out.ext (hE05.trans hE6))).mono ?_
    rintro e W7 ⟨rfl, hE7⟩
    go_wp2
    go_ret
    exact ⟨rfl, (hE05.trans hE6).trans hE7⟩
  · have hwalk : walkT low = foldT low := by rw [walkT, if_pos hst]
    rw [hwalk] at HSt
    rcases hw : writeT (foldT low) p n s with cc | t'
    · have HD := fun (W : World) (he : Ext w W) => EdDo_bad (v := .slice A nl c) (u := .slice none 0 0) (cp_bad hp hs h8 hst hw) hx (by omega) W (Hv.out.ext he) (Rd.nil _ _ _)
      have hc0 : (cc != 0) = true := by simpa using doE_code (cp_bad hp hs h8 hst hw)
      have HW2 : ∀ (W : World) (v' : Value), RdE W v' (foldT low) → Calls Tryz.prog 34 #[v', .string p, .int .i64 n, .string s] W (TBad cc W) := fun W v' h => by
        have := HWr W v' _ h
        rwa [hw] at this
      clear hv hL hf hst hnl hx hw HWr hwalk
      go_enter Tryz.func7, Tryz.ntmps7
      go_wp2_with (first | (go_at_call 21; ((with_reducible refine (EAwake_any _).mono ?_)); rintro e W1 ⟨rfl, hE1⟩) | (go_at_call 9; refine (HF _ (Hv.out.ext (by exact (by repeat (first | exact Ext.refl _ | assumption | refine Ext.alloc ?_ _ | refine Ext.drew ?_ | refine Ext.drewN ?_ _ | refine Ext.setCell ?_ (by first | omega | (simp; done) | (simp; omega)) _ | refine Ext.trans ?_ (by assumption)))))).mono ?_; rintro e W2 ⟨rfl, hE2⟩) | fail)
      have hE02 : Ext w W2 := hE1.trans hE2
      refine (HSt _ (Hv.out.ext hE02)).mono ?_
      rintro e W3 ⟨v3, rfl, hr3, hE3⟩
      have Hr3 := Lib.hid hr3
      clear hr3
      go_wp2_with fail
      refine (HD _ (hE02.trans hE3)).mono ?_
      rintro e W4 ⟨v4, n4, rfl, hEr4, hE4⟩
      go_wp2_with fail
      refine (HW2 _ _ (Hr3.out.ext hE4)).mono ?_
      rintro e W5 ⟨v5, n5, rfl, hEr5, hE5⟩
      have hE05 : Ext w W5 := ((hE02.trans hE3).trans hE4).trans hE5
      have hEr45 := hEr4.ext hE5
      go_wp2_with fail
      refine (Code_err _ _ _ _ hEr45 (HL.out.ext hE05)).mono ?_
      rintro e W6 ⟨rfl, hE6⟩
      have hE06 := hE05.trans hE6
      go_wp2_with fail
      refine (Code_err _ _ _ _ (hEr45.ext hE6) (HL.out.ext hE06)).mono ?_
      rintro e W7 ⟨rfl, hE7⟩
      have hE07 := hE06.trans hE7
      by_cases h16 : (cc == 16) = true
      · go_wp2
        go_ret
        exact ⟨rfl, hE07⟩
      · have h16' : (cc == 16) = false := by simpa using h16
        clear h16
        go_wp2_with fail
        refine (Code_err _ _ _ _ ((hEr45.ext hE6).ext hE7) (HL.out.ext hE07)).mono ?_
        rintro e W8 ⟨rfl, hE8⟩
        go_wp2_with fail
        refine (Code_err _ _ _ _ (hEr5.ext ((hE6.trans hE7).trans hE8)) (HL.out.ext (hE07.trans hE8))).mono ?_
        rintro e W9 ⟨rfl, hE9⟩
        go_wp2
        go_ret
        exact ⟨by first | rfl | simp, (hE07.trans hE8).trans hE9⟩
    · obtain ⟨d, u, m, hd256, hrd, hdo, hok, hfe, hum, hdeep⟩ := cp_ok hp hs h8 hst hw
      have HD := fun (W : World) (he : Ext w W) => EdDo_ok (v := .slice A nl c) (u := .slice none 0 0) hdo hx (by omega) W (Hv.out.ext he) (Rd.nil _ _ _)
      have HW2 : ∀ (W : World) (v' : Value), RdE W v' (foldT low) → Calls Tryz.prog 34 #[v', .string p, .int .i64 n, .string s] W (WithOk t' W) := fun W v' h => by
        have := HWr W v' _ h
        rwa [hw] at this
      have HRd := fun (W : World) (v' : Value) (h : RdE W v' t') => tRead_ok (v := v') (by omega) hrd W h
      have HFi : ∀ (W : World) (v' : Value), RdE W v' u → Calls Tryz.prog 28 #[v', .string p] W fun e w' => e = .returned (.tuple #[.agg #[.string p, .int .i64 1, .string d], .bool true]) ∧ Ext W w' := fun W v' h => by
        have := Find_any v' u p W h
        rwa [hfe] at this
      have HDp : ∀ W, Calls Tryz.prog 36 #[.string p] W fun e w' => e = .returned (.int .i64 (m : Int)) ∧ Ext W w' := fun W => by
        have := Deep_any p W (by omega)
        rwa [hdeep] at this
      have heq : ∀ w, (binOp .eql 66 (.agg #[.string p, .int .i64 1, .string d]) (.agg #[.string p, .int .i64 1, .string d])).run Tryz.prog w = .ok (.bool true) w := eql_ent ⟨p, 1, d⟩
      have Hum := Lib.hid hum
      clear hv hL hf hst hnl hx hw HWr hwalk hrd hdo hok hfe hdeep hum
      go_enter Tryz.func7, Tryz.ntmps7
      go_wp2_with (first | (go_at_call 21; ((with_reducible refine (EAwake_any _).mono ?_)); rintro e W1 ⟨rfl, hE1⟩) | (go_at_call 9; refine (HF _ (Hv.out.ext (by exact (by repeat (first | exact Ext.refl _ | assumption | refine Ext.alloc ?_ _ | refine Ext.drew ?_ | refine Ext.drewN ?_ _ | refine Ext.setCell ?_ (by first | omega | (simp; done) | (simp; omega)) _ | refine Ext.trans ?_ (by assumption)))))).mono ?_; rintro e W2 ⟨rfl, hE2⟩) | fail)
      have hE02 : Ext w W2 := hE1.trans hE2
      refine (HSt _ (Hv.out.ext hE02)).mono ?_
      rintro e W3 ⟨v3, rfl, hr3, hE3⟩
      have Hr3 := Lib.hid hr3
      clear hr3
      go_wp2_with fail
      refine (HD _ (hE02.trans hE3)).mono ?_
      rintro e W4 ⟨v4, rfl, hr4, hE4⟩
      obtain ⟨A4, c4, rfl, _, _, _⟩ := rdE_form hr4 rfl
      have Hr4 := Lib.hid hr4
      rw [Hum.out]
      have Hr4m : Hid (RdE W4 (.slice A4 m c4) u) := Lib.hid (by have := hr4; rw [Hum.out] at this; exact this)
      clear hr4
      go_wp2_with fail
      refine (HW2 _ _ (Hr3.out.ext hE4)).mono ?_
      rintro e W5 ⟨v5, rfl, hr5, hE5⟩
      have Hr5 := Lib.hid hr5
      clear hr5
      have hE05 : Ext w W5 := ((hE02.trans hE3).trans hE4).trans hE5
      have hE35 : Ext W3 W5 := hE4.trans hE5
      go_wp2_with fail
      (with_reducible refine (Code_nil _).mono ?_)
      rintro e W6 ⟨rfl, hE6⟩
      go_wp2_with fail
      refine (HRd _ _ (Hr5.out.ext hE6)).mono ?_
      rintro e W7 ⟨rfl, hE7⟩
      have hE57 : Ext W5 W7 := hE6.trans hE7
      go_wp2_with fail
      refine (HFi _ _ (Hr4m.out.ext (hE5.trans hE57))).mono ?_
      rintro e W8 ⟨rfl, hE8⟩
      have hE58 : Ext W5 W8 := hE57.trans hE8
      go_wp2_with fail
      (with_reducible refine (Code_nil _).mono ?_)
      rintro e W9 ⟨rfl, hE9⟩
      have hB := (Blk.new W8 66 #[.string p, .int .i64 1, .string d]).ext hE9
      have hE8a : Ext W8 W9 := Ext.trans ((Ext.refl W8).alloc _) hE9
      go_wp2_with fail
      (with_reducible refine (Code_nil _).mono ?_)
      rintro e W10 ⟨rfl, hE10⟩
      obtain ⟨⟨b0, _⟩, ⟨b1, _⟩, ⟨b2, _⟩⟩ := (hB.ext hE10).three
      have hE510 : Ext W5 W10 := (hE58.trans hE8a).trans hE10
      go_wp2_with fail
      refine (HDp _).mono ?_
      rintro e W11 ⟨rfl, hE11⟩
      have hE511 : Ext W5 W11 := hE510.trans hE11
      go_wp2_with fail
      refine (HSt _ (Hv.out.ext (hE05.trans hE511))).mono ?_
      rintro e W12 ⟨v12, rfl, hr12, hE12⟩
      go_wp2_with fail
      refine (Same_yes hr12 (Hr3.out.ext (hE35.trans (hE511.trans hE12)))).mono ?_
      rintro e W13 ⟨rfl, hE13⟩
      go_wp2
      go_ret
      exact ⟨by first | rfl | simp, (hE05.trans hE511).trans (hE12.trans hE13)⟩

theorem EditCopies_any (v : Value) (low : List (List Ent)) (p s : ByteArray) (n : Int) (w : World) (hL : Laid w) (hv : RdK w v low) (hn : 0 ≤ n ∧ n ≤ 255) :
    Calls Tryz.prog 7 #[v, .string p, .int .u8 n, .string s] w fun e w' => e = .returned (.bool true) ∧ Ext w w' := by
  by_cases h : fewOk low = true ∧ low.length ≤ 8 ∧ p.size ≤ 54 ∧ s.size ≤ 256
  · exact copies_main v low p s n w hL hv hn h.1 h.2.1 h.2.2.1 h.2.2.2
  · exact copies_let v low p s n w hv h
end Go.Proofs.YtneefmgidplbcaaGreatDoor
