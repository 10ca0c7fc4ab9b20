/- The document's Right of layers and of stacks. -/
import Derived.Test.YtknfaabhlcdeoaaGreatDoorRRight
namespace Go.Proofs.YtknfaabhlcdeoaaGreatDoor
open Go Go.RowKit Go.Shelf Go.Proofs

def RlRel (l : List Ent) (n : Nat) (w : World) (i : Value) (wr : World) : Prop :=
  ∃ k : Nat, i = .int .i64 k ∧ k ≤ n ∧ Hid (∀ (t : Nat) (h : t < l.length), t < k → okAt l t l[t] = true) ∧ Ext w wr
def RfRel (l : List Ent) (z : ByteArray) (i : Nat) (w : World) (v4 v5 : Value) (wr : World) : Prop :=
  ∃ (k : Nat) (b : Bool), v5 = .int .i64 k ∧ v4 = .bool b ∧ k ≤ i ∧ Hid (b = heldB l k z) ∧ Ext w wr

theorem rf_next {l : List Ent} {z : ByteArray} {i k : Nat} {w W : World} {b : Bool} (hlt : k < i) (h : b = heldB l (k + 1) z) (hE : Ext w W) :
    RfRel l z i w (.bool b) (.int .i64 ((k : Int) + 1)) W ∧ i - (intOf (.int .i64 ((k : Int) + 1))).toNat < i - (intOf (.int .i64 (k : Int))).toNat :=
  ⟨⟨k + 1, b, by simp, rfl, by omega, Lib.hid h, hE⟩, by simp [intOf]; omega⟩

theorem path_eqR (a p : ByteArray) : (a.toList == p.toList) = decide (a = p) := by
  rw [Bool.eq_iff_iff, beq_iff_eq, decide_eq_true_eq]
  exact ⟨fun h => data_inj (by rw [← toList_eq, h, toList_eq]), fun h => by rw [h]⟩

set_option maxHeartbeats 8000000 in
set_option maxRecDepth 20000 in
theorem RLayer_any (v : Value) (l : List Ent) (w : World) (hv : RdE w v l) :
    Calls Tryz.prog 54 #[v] w fun e w' => e = .returned (.bool (layerOk l)) ∧ Ext w w' := by
  obtain ⟨n, hn⟩ : ∃ n, n = l.length := ⟨_, rfl⟩
  have Hn := Lib.hid hn
  have hlen := Rd.len hv
  obtain ⟨A, c, rfl, hc1, hc2, Hcell⟩ := rdE_form hv hn
  rw [← hn] at hlen
  clear hn hv
  go_enter Tryz.func54, Tryz.ntmps54
  go_wp2
  go_loopw [3] (fun i wr => RlRel l n w i wr) (fun i _ => n - (intOf i).toNat)
  case atStart => exact ⟨0, rfl, Nat.zero_le _, Lib.hid (fun t _ ht => absurd ht (Nat.not_lt_zero t)), Ext.refl _⟩
  case round =>
    obtain ⟨k, rfl, hkn, hall, hE⟩ := hrel
    by_cases hlt : k < n
    · have hh : k < l.length := by have := Hn.out; omega
      obtain ⟨b, o, rfl, hcell⟩ := Hcell.out (List.ne_nil_of_length_pos (by omega))
      obtain ⟨q0, q1, q2, hf⟩ := hcell k hh
      obtain ⟨x, hx⟩ : ∃ x, l[k]'hh = x := ⟨_, rfl⟩
      rw [hx] at q0 q1 q2 hf
      have g0 := hE.cell q0
      have g1 := hE.cell q1
      have g2 := hE.cell q2
      have g0' := fun d os => cell_regrown g0 d os
      have g1' := fun d os => cell_regrown g1 d os
      have g2' := fun d os => cell_regrown g2 d os
      have Hx := Lib.hid hx
      have HR := fun W => REnt_any x W hf
      have Hbad : Hid (okAt l k x = false → layerOk l = false) := Lib.hid fun h => layerOk_not hh (by rw [hx]; exact h)
      have Hbad2 : Hid (headOk l k x = false → layerOk l = false) := Lib.hid fun h => Hbad.out (okAt_bad h)
      have hk63 : (k : Int) ≤ 140737488355328 := by omega
      clear q0 q1 q2 hx
      go_upto_region 4 with (fail)
      -- whether the entry is one, and stands behind the one ahead of it
      go_cut [36] (fun s36 wx => s36 = .bool (!headOk l k x) ∧ Ext wr wx)
      case first =>
        rcases hok : entOk x with _ | _
        · have hhd : headOk l k x = false := by unfold headOk; rw [hok]; simp
          rw [hok] at HR
          have Hh := Lib.hid hhd
          clear hok hhd
          (refine wp_region_quiet_below (by kernel_rfl) (by kernel_rfl) ?_; (repeat (go_big_quiet_step ((go_at_call 106; exact Calls.regrown_of (HR _))))); refine wpQuiet_nil ?_; intro _ hq; obtain ⟨⟨dq, osq⟩, hq2⟩ := hq; subst hq2)
          go_wp2
          go_meet
          exact ⟨by first | (rw [Hh.out]; done) | (rw [Hh.out]; rfl), below_regrown wr dq osq⟩
        · rw [hok] at HR
          rcases k with _ | j
          · have hhd : headOk l 0 x = true := by rw [headOk_zero, hok]
            simp only [Nat.zero_mul, Nat.add_zero] at g0' g1' g2'
            have Hh := Lib.hid hhd
            clear hok hhd
            (refine wp_region_quiet_below (by kernel_rfl) (by kernel_rfl) ?_; (repeat (go_big_quiet_step ((go_at_call 106; exact Calls.regrown_of (HR _))))); refine wpQuiet_nil ?_; intro _ hq; obtain ⟨⟨dq, osq⟩, hq2⟩ := hq; subst hq2)
            go_wp2
            go_meet
            exact ⟨by first | (rw [Hh.out]; done) | (rw [Hh.out]; rfl), below_regrown wr dq osq⟩
          · have hj : j < l.length := by omega
            have hhd : headOk l (j + 1) x = lt l[j].path x.path := by rw [headOk_succ hj, hok, Bool.true_and]
            obtain ⟨q0, q1, q2, hfj⟩ := hcell j hj
            obtain ⟨y, hy⟩ : ∃ y, l[j]'hj = y := ⟨_, rfl⟩
            rw [hy] at q0 q1 q2 hhd hfj
            have y0' := fun d os => cell_regrown (hE.cell q0) d os
            have HL := fun W => RLess_any y.path x.path W hfj.1 hf.1
            have Hh := Lib.hid hhd
            clear hok hhd q0 q1 q2 hy hfj
            have hsub : IntKind.i64.wrap ((↑(j + 1) : Int) - 1) = (j : Int) := by
              have : ((↑(j + 1) : Int) - 1) = (j : Int) := by omega
              rw [this]
              exact IntWalk.i64_in _ ⟨by omega, by omega⟩
            have hjn : j < n := by omega
            (refine wp_region_quiet_below (by kernel_rfl) (by kernel_rfl) ?_; (repeat (go_big_quiet_step ((first | (go_at_call 106; exact Calls.regrown_of (HR _)) | (go_at_call 107; exact Calls.regrown_of (HL _)))))); refine wpQuiet_nil ?_; intro _ hq; obtain ⟨⟨dq, osq⟩, hq2⟩ := hq; subst hq2)
            go_wp2
            go_meet
            exact ⟨by first | (rw [Hh.out]; done) | (rw [Hh.out]; rfl), below_regrown wr dq osq⟩
      case rest =>
        obtain ⟨rfl, hE2⟩ := hcut
        rcases hhd : headOk l k x with _ | _
        · have Hb := Lib.hid (Hbad2.out hhd)
          clear hhd hcell
          go_wp2
          all_goals (try contradiction)
          go_ret
          exact ⟨by rw [Hb.out]; rfl, hE.trans hE2⟩
        · have Hhd := Lib.hid hhd
          obtain ⟨ys, z, hnm, hdp⟩ := entOk_names (headOk_ent hhd)
          have HP := fun W => RParent_any x.path ys z W hf.1 hnm
          have hre := root_eq (pathOf ys)
          have Hdp := Lib.hid hdp
          have Hnm := Lib.hid hnm
          obtain ⟨q, hq⟩ : ∃ q, pathOf ys = q := ⟨_, rfl⟩
          rw [hq] at HP hre
          have Hq : Hid (dirOf x.path = q) := Lib.hid (hdp.trans hq)
          obtain ⟨b0, hb0⟩ : ∃ b0, decide (q = (⟨#[47]⟩ : ByteArray)) = b0 := ⟨_, rfl⟩
          rw [hb0] at hre
          have Hb0 := Lib.hid hb0
          have d0 := hE2.cell g0
          clear hhd hdp hnm hq hb0 g0' g1' g2' g0 g1 g2
          go_upto_region 8 with (go_at_call 108; (with_reducible refine (HP _).mono ?_); rintro e W3 ⟨rfl, hE3⟩)
          have hE23 : Ext w W3 := hE.trans (hE2.trans (by exact (by repeat (first | exact Ext.refl _ | assumption | refine Ext.alloc ?_ _ | refine Ext.drew ?_ | refine Ext.drewN ?_ _ | refine Ext.setCell ?_ (by first | omega | (simp; done) | (simp; omega)) _ | refine Ext.trans ?_ (by assumption)))))
          go_loopw [4, 5] (fun v4 v5 wr => RfRel l q k W3 v4 v5 wr) (fun _ v5 _ => k - (intOf v5).toNat)
          case atStart => exact ⟨0, b0, rfl, rfl, Nat.zero_le _, Lib.hid (by rw [heldB, Hb0.out]; simp), Ext.refl _⟩
          case round =>
            obtain ⟨j, bb, rfl, rfl, hjk, hbb, hE4⟩ := hrel
            by_cases hjlt : j < k
            · have hj : j < l.length := by omega
              have hjn : j < n := by omega
              obtain ⟨p0, p1, p2, hfj⟩ := hcell j hj
              obtain ⟨r0, r1, r2, _⟩ := hcell k hh
              rw [Hx.out] at r0 r1 r2
              obtain ⟨y, hy⟩ : ∃ y, l[j]'hj = y := ⟨_, rfl⟩
              rw [hy] at p0 p1 p2
              have y0' := fun d os => cell_regrown ((hE23.trans hE4).cell p0) d os
              have y1' := fun d os => cell_regrown ((hE23.trans hE4).cell p1) d os
              have x0' := fun d os => cell_regrown ((hE23.trans hE4).cell r0) d os
              have hsucc : heldB l (j + 1) q = (bb || (decide (y.path = q) && holds y)) := by rw [heldB_succ hj, ← hbb.out, hy]
              have hpe := path_eqR y.path q
              obtain ⟨e1, he1⟩ : ∃ e1, decide (y.path = q) = e1 := ⟨_, rfl⟩
              rw [he1] at hsucc hpe
              obtain ⟨k2, hk2⟩ : ∃ k2, (y.kind == 2) = k2 := ⟨_, rfl⟩
              obtain ⟨k4, hk4⟩ : ∃ k4, (y.kind == 4) = k4 := ⟨_, rfl⟩
              have hho : holds y = (k2 || k4) := by rw [holds, hk2, hk4]
              rw [hho] at hsucc
              have Hsucc := Lib.hid hsucc
              clear p0 p1 p2 r0 r1 r2 hy he1 hho hsucc hfj
              go_upto_region 10 with (fail)
              rcases bb with _ | _
              · rcases e1 with _ | _
                · (refine wp_region_quiet_below (by kernel_rfl) (by kernel_rfl) ?_; (repeat (go_big_quiet_step ((go_at_call 108; exact Calls.regrown_of (HP _))))); refine wpQuiet_nil ?_; intro _ hq; obtain ⟨⟨dq, osq⟩, hq2⟩ := hq; subst hq2)
                  have hE5 := below_regrown wr dq osq
                  go_wp2
                  exact rf_next hjlt (by rw [Hsucc.out]; rfl) (hE4.trans hE5)
                · rcases k2 with _ | _
                  · rcases k4 with _ | _
                    · (refine wp_region_quiet_below (by kernel_rfl) (by kernel_rfl) ?_; (repeat (go_big_quiet_step ((go_at_call 108; exact Calls.regrown_of (HP _))))); refine wpQuiet_nil ?_; intro _ hq; obtain ⟨⟨dq, osq⟩, hq2⟩ := hq; subst hq2)
                      have hE5 := below_regrown wr dq osq
                      go_wp2
                      exact rf_next hjlt (by rw [Hsucc.out]; rfl) (hE4.trans hE5)
                    · (refine wp_region_quiet_below (by kernel_rfl) (by kernel_rfl) ?_; (repeat (go_big_quiet_step ((go_at_call 108; exact Calls.regrown_of (HP _))))); refine wpQuiet_nil ?_; intro _ hq; obtain ⟨⟨dq, osq⟩, hq2⟩ := hq; subst hq2)
                      have hE5 := below_regrown wr dq osq
                      go_wp2
                      exact rf_next hjlt (by rw [Hsucc.out]; rfl) (hE4.trans hE5)
                  · (refine wp_region_quiet_below (by kernel_rfl) (by kernel_rfl) ?_; (repeat (go_big_quiet_step ((go_at_call 108; exact Calls.regrown_of (HP _))))); refine wpQuiet_nil ?_; intro _ hq; obtain ⟨⟨dq, osq⟩, hq2⟩ := hq; subst hq2)
                    have hE5 := below_regrown wr dq osq
                    go_wp2
                    exact rf_next hjlt (by rw [Hsucc.out]; rfl) (hE4.trans hE5)
              · (refine wp_region_quiet_below (by kernel_rfl) (by kernel_rfl) ?_; (repeat (go_big_quiet_step ((go_at_call 108; exact Calls.regrown_of (HP _))))); refine wpQuiet_nil ?_; intro _ hq; obtain ⟨⟨dq, osq⟩, hq2⟩ := hq; subst hq2)
                have hE5 := below_regrown wr dq osq
                go_wp2
                exact rf_next hjlt (by rw [Hsucc.out]; rfl) (hE4.trans hE5)
            · have hjk2 : j = k := by omega
              have hdk : bb = dirOk l k x := by rw [hbb.out, hjk2, ← Hq.out, heldB_dir]
              rcases bb with _ | _
              · have Hb := Lib.hid (Hbad.out (by rw [okAt, ← hdk, Bool.and_false]))
                clear hdk hbb hcell
                go_wp2
                go_ret
                exact ⟨by rw [Hb.out]; rfl, hE23.trans hE4⟩
              · have hok : okAt l k x = true := by rw [okAt, Hhd.out, ← hdk]; rfl
                have Hnx : Hid (RlRel l n w (.int .i64 ((k : Int) + 1)) wr ∧ n - (intOf (.int .i64 ((k : Int) + 1))).toNat < n - (intOf (.int .i64 (k : Int))).toNat) := Lib.hid (round_ok (hE23.trans hE4) hkn hlt Hx hok hall)
                clear hdk hbb hcell hok
                go_wp2
                exact Hnx.out
    · have hkn' : k = n := by omega
      have hall2 := hall.out
      by_cases h64 : n ≤ 64
      · have h64' : (n : Int) ≤ 64 := by omega
        have hok : layerOk l = true := layerOk_of (by have := Hn.out; omega) fun t ht => hall2 t ht (by have := Hn.out; omega)
        have Hok := Lib.hid hok
        clear hok hall2
        go_wp2
        go_ret
        exact ⟨by rw [Hok.out]; rfl, hE⟩
      · have h64' : ¬ (n : Int) ≤ 64 := by omega
        have hok : layerOk l = false := layerOk_long (by have := Hn.out; omega)
        have Hok := Lib.hid hok
        clear hok hall2
        go_wp2
        go_ret
        exact ⟨by rw [Hok.out]; rfl, hE⟩

set_option maxHeartbeats 4000000 in
set_option maxRecDepth 20000 in
theorem RStack_any (v : Value) (s : List (List Ent)) (w : World) (hv : RdK w v s) :
    Calls Tryz.prog 17 #[v] w fun e w' => e = .returned (.bool (stackOk s)) ∧ Ext w w' := by
  obtain ⟨n, hn⟩ : ∃ n, n = s.length := ⟨_, rfl⟩
  have Hn := Lib.hid hn
  have hlen := Rd.len hv
  obtain ⟨A, c, rfl, hc1, hc2, Hcell⟩ := RdK.form hv hn
  rw [← hn] at hlen
  clear hn hv
  go_enter Tryz.func17, Tryz.ntmps17
  go_wp2
  go_loopw [3] (fun i wr => ∃ k : Nat, i = .int .i64 k ∧ k ≤ n ∧ Hid (∀ (t : Nat) (h : t < s.length), t < k → layerOk s[t] = true) ∧ Ext w wr) (fun i _ => n - (intOf i).toNat)
  case atStart => exact ⟨0, rfl, by omega, Lib.hid (fun t _ ht => absurd ht (Nat.not_lt_zero t)), Ext.refl _⟩
  case round =>
    obtain ⟨k, rfl, hkn, hall, hE⟩ := hrel
    by_cases hlt : k < n
    · have hh : k < s.length := by have := Hn.out; omega
      obtain ⟨b, o, rfl, hcell⟩ := Hcell.out (List.ne_nil_of_length_pos (by omega))
      obtain ⟨u, q0, hu⟩ := hcell k hh
      have g0 := hE.cell q0
      have HR := RLayer_any u s[k] wr (hu.ext hE)
      clear q0 hu hcell
      rcases hl : layerOk s[k] with _ | _
      · have hbad : stackOk s = false := by
          rw [stackOk, Bool.and_eq_false_iff]
          exact .inr (List.all_eq_false.2 ⟨_, List.getElem_mem hh, by simp [hl]⟩)
        have Hbad := Lib.hid hbad
        rw [hl] at HR
        clear hl hbad
        go_wp2_with (go_at_call 54; refine HR.mono ?_; rintro e W2 ⟨rfl, hE2⟩)
        go_ret
        exact ⟨by rw [Hbad.out]; rfl, hE.trans hE2⟩
      · rw [hl] at HR
        go_wp2_with (go_at_call 54; refine HR.mono ?_; rintro e W2 ⟨rfl, hE2⟩)
        refine ⟨⟨k + 1, by simp, by omega, Lib.hid fun t ht htk => ?_, hE.trans hE2⟩, by simp [intOf]; omega⟩
        by_cases e : t = k
        · subst e
          exact hl
        · exact hall.out t ht (by omega)
    · have hkn' : k = n := by omega
      have hok : stackOk s = decide ((n : Int) ≤ 9) := by
        have h1 : s.all layerOk = true := List.all_eq_true.2 fun l hl => by
          obtain ⟨t, ht, rfl⟩ := List.getElem_of_mem hl
          exact hall.out t ht (by have := Hn.out; omega)
        rw [stackOk, h1, Bool.and_true, ← Hn.out, Bool.eq_iff_iff, decide_eq_true_eq, decide_eq_true_eq]
        omega
      have Hok := Lib.hid hok
      clear hok
      go_wp2
      go_ret
      exact ⟨by rw [Hok.out]; rfl, hE⟩
end Go.Proofs.YtknfaabhlcdeoaaGreatDoor
