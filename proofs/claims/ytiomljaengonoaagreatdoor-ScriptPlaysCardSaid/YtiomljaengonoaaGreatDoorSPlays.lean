/- ScriptPlays: any acts' text, the acts of any text, and the line that is none, are the document's. -/
import Derived.Test.YtiomljaengonoaaGreatDoorSBack
import Derived.Test.YtiomljaengonoaaGreatDoorSOnly
import Derived.Test.YtiomljaengonoaaGreatDoorRefRight
import Derived.Test.YtiomljaengonoaaGreatDoorRefLay
import Derived.Test.YtiomljaengonoaaGreatDoorRefRead
import Derived.Test.YtiomljaengonoaaGreatDoorRefLong
import Derived.Deep.RegionWith
import Derived.Lib.QuietBelow
namespace Go.Proofs.YtiomljaengonoaaGreatDoor
open Go Go.RowKit Go.Shelf Go.Proofs Go.Maps

def PlaysRel (w0 : World) (base : Nat) (l : List ActP) (r m i : Value) (wr : World) : Prop := ∃ k : Nat, i = .int .i64 k ∧ k ≤ l.length ∧ Ext w0 wr ∧ wr.ownsRow base 48 5 m k ((l.take k).flatMap ActP.cells) ∧ r = .bool ((l.take k).all fun a => (partsP a).isSome) ∧ base ≤ wr.heap.size

/-- The acts of an own row, to be read. -/
theorem ref_cells {w : World} {base : Nat} {A : Option Addr} {c : Nat} {l : List ActP} (h : w.ownsRow base 44 5 (.slice A l.length c) l.length (l.flatMap ActP.cells)) {j : Nat} (hj : j < l.length) :
    ∃ g, A = some ⟨g, 0, none⟩ ∧ w.cell? ⟨g, j * 5, none⟩ = some (.string (B l[j].name)) ∧ w.cell? ⟨g, j * 5 + 1, none⟩ = some (.string (B l[j].p)) ∧ w.cell? ⟨g, j * 5 + 2, none⟩ = some (.string (B l[j].q)) ∧ w.cell? ⟨g, j * 5 + 3, none⟩ = some (.int .i64 l[j].n) ∧ w.cell? ⟨g, j * 5 + 4, none⟩ = some (.int .i64 l[j].m) := by
  obtain ⟨g, rfl, _⟩ := own_slice h (by omega)
  have hc := acts_cells l j (l[j]'hj) (List.getElem?_eq_getElem hj)
  have hat := fun i (hi : i < 5) => h.cellAt (j * 5 + i) (by omega)
  refine ⟨g, rfl, ?_, ?_, ?_, ?_, ?_⟩
  · have := hat 0 (by omega); rw [hc 0 _ rfl] at this; exact this
  · rw [hat 1 (by omega), hc 1 _ rfl]
  · rw [hat 2 (by omega), hc 2 _ rfl]
  · rw [hat 3 (by omega), hc 3 _ rfl]
  · rw [hat 4 (by omega), hc 4 _ rfl]

set_option maxRecDepth 100000 in
set_option maxHeartbeats 16000000 in
theorem SPlays_any (v : Value) (l : List ActP) (s : ByteArray) (w : World) (hv : RdW w v l) (hV : ScrVars w) :
    Calls Tryz.prog 10 #[v, .string s] w fun e w' => e = .returned (.bool true) ∧ Ext w w' := by
  have HA := fun w' h => awakeS_any w' (hV.ext h)
  have HF := fun w' h => few_any v l w' (RdW.ext hv h)
  have HV := Lib.hid hV
  have Hv := Lib.hid hv
  clear hV
  obtain ⟨A, c, rfl, hc1, hc2, hlm, _⟩ := hv
  have HA0 := HA w (Ext.refl _)
  by_cases hfew : fewP l = true ∧ s.size ≤ 3000
  · obtain ⟨hfew, hwd⟩ := hfew
    have hwd' : ¬ (3000 : Int) < (s.size : Int) := by omega
    rw [hfew] at HF
    obtain ⟨hl60, hfit⟩ := few_fits Hv.out hfew
    have Hfit := Lib.hid hfit
    clear hfew hfit
    go_enter Tryz.func10, Tryz.ntmps10
    go_upto_region 3 with (first
      | (go_at_call 20; refine HA0.mono ?_; rintro e W1 ⟨rfl, hE1⟩; have HF1 := HF W1 hE1)
      | (go_at_call 21; refine HF1.mono ?_; rintro e W3 ⟨rfl, rfl⟩))
    clear HF HF1 HA HA0
    have hbw : w.heap.size ≤ W3.heap.size := hE1.size
    go_wp2
    go_loopw [5, 6, 7] (fun r m i wr => PlaysRel w W3.heap.size l r m i wr) (fun _ _ i _ => l.length - (intOf i).toNat)
    case atStart => exact ⟨0, rfl, Nat.zero_le _, hE1, World.ownsRow_nil _ _ _ _, rfl, Nat.le_refl _⟩
    case round =>
      obtain ⟨k, rfl, hkn, hE, hrow, rfl, hsz0⟩ := hrel
      by_cases hlt : k < l.length
      · have hlt' : (k : Int) < (l.length : Int) := by omega
        obtain ⟨b, o, c', e2, _, _, hcell⟩ := RdW.at_ (RdW.ext Hv.out hE) (by intro e; rw [e] at hlt; simp at hlt)
        cases e2
        obtain ⟨d0, d1, d2, d3, d4, _⟩ := hcell k hlt
        obtain ⟨a, ha⟩ : ∃ a, l[k] = a := ⟨_, rfl⟩
        rw [ha] at d0 d1 d2 d3 d4
        have HO : ∀ w', Calls Tryz.prog 23 #[.agg #[.string (B a.name), .string (B a.p), .string (B a.q), .int .i64 a.n, .int .i64 a.m]] w' fun e w'' => e = .returned (.agg #[.string (B a.name), .string (B a.p), .string (B a.q), .int .i64 a.n, .int .i64 a.m]) ∧ Ext w' w'' := fun w' => Of_any a w'
        obtain ⟨i0, hi, hz0, hz1, hz2⟩ := info_parts info_act
        have hfa : a.fits := Hfit.out a (by rw [← ha]; exact List.getElem_mem hlt)
        have HR : ∀ w', Ext w w' → Calls Tryz.prog 22 #[.agg #[.string (B a.name), .string (B a.p), .string (B a.q), .int .i64 a.n, .int .i64 a.m]] w' fun e w'' => e = .returned (.bool (partsP a).isSome) ∧ Ext w' w'' := fun w' h => Right_any a hfa w' (HV.out.ext h).num
        have HQ : ∀ w', Calls Tryz.prog 27 #[.agg #[.string (B a.name), .string (B a.p), .string (B a.q), .int .i64 a.n, .int .i64 a.m]] w' fun e w'' => e = .returned (.bool (partsP a).isSome) ∧ Ext w' w'' := fun w' => Right_ref a hfa w'
        have hall := take_all l k hlt (fun a => (partsP a).isSome)
        rw [ha] at hall
        have Hall := Lib.hid hall
        have Hrow := Lib.hid hrow
        have Ha := Lib.hid ha
        clear hcell hrow ha hfa hall
        obtain ⟨ok, hok⟩ : ∃ ok, (partsP a).isSome = ok := ⟨_, rfl⟩
        rw [hok] at HR HQ Hall
        clear hok
        go_upto_region 8 with (fail)
        have z0' := fun d os => cell_regrown d0 d os
        have z1' := fun d os => cell_regrown d1 d os
        have z2' := fun d os => cell_regrown d2 d os
        have z3' := fun d os => cell_regrown d3 d os
        have z4' := fun d os => cell_regrown d4 d os
        have HR' := fun d os => HR _ (hE.trans (below_regrown wr d os))
        (refine wp_region_quiet_below (by kernel_rfl) (by kernel_rfl) ?_; (repeat (go_big_quiet_step ((first | (go_at_call 23; exact Calls.regrown_of (HO _)) | (go_at_call 22; exact Calls.regrown_of (HR' _ _)) | (go_at_call 27; exact Calls.regrown_of (HQ _)))))); refine wpQuiet_nil ?_; intro _ hq; obtain ⟨⟨dq, osq⟩, hq2⟩ := hq; subst hq2)
        have hE4 : Ext wr (Go.Sort.grow (redrawn wr dq) osq) := below_regrown wr dq osq
        generalize Go.Sort.grow (redrawn wr dq) osq = W4 at hE4 ⊢
        replace d0 := hE4.cell d0
        replace d1 := hE4.cell d1
        replace d2 := hE4.cell d2
        replace d3 := hE4.cell d3
        replace d4 := hE4.cell d4
        have hE5 := hE.trans hE4
        have hrow5 := own_ext Hrow.out hE4
        have hsz5 := Nat.le_trans hsz0 hE4.size
        clear z0' z1' z2' z3' z4' HR' HR hE Hrow hsz0
        have HQ4 := HQ W4
        cases hpr : (l.take k).all (fun a => (partsP a).isSome) with
        | true =>
          rw [hpr, Bool.true_and] at Hall
          clear hpr HQ
          go_upto_region 11 with (go_at_call 27; refine HQ4.mono ?_; rintro e W6 ⟨rfl, hE6⟩)
          replace d0 := hE6.cell d0
          replace d1 := hE6.cell d1
          replace d2 := hE6.cell d2
          replace d3 := hE6.cell d3
          replace d4 := hE6.cell d4
          have hE7 := hE5.trans hE6
          have hrow7 := own_ext hrow5 hE6
          have hsz7 := Nat.le_trans hsz5 hE6.size
          have HO6 := HO W6
          clear HO hE5 hrow5 hsz5
          go_wp2_with (first
            | (go_at_call 23; refine HO6.mono ?_; rintro e W2 ⟨rfl, hE2⟩; have hrow2 := own_ext hrow7 hE2)
            | (at_builtin; refine wpList_append_own _ rfl _ _ 53 rfl W3.heap.size 48 i0 (.agg #[.string ⟨#[]⟩, .string ⟨#[]⟩, .string ⟨#[]⟩, .int .i64 0, .int .i64 0]) 5 64 Tryz.underlying53 hi hz0 hz1 hz2 rfl (by decide) _ _ _ rfl (hrow2.alloc _) ⟨W2.heap.size, 0, none⟩ 1 1 a.cells rfl rfl (World.news_of_block (cs := #[.string (B a.name), .string (B a.p), .string (B a.q), .int .i64 a.n, .int .i64 a.m]) (t := 48) (fr := (0, 0)) (heap_alloc_new W2 _)) (by simp [ActP.cells, Value.oneCell']) (by unfold maxLen; omega) (by omega) (by have := hE2.size; simp; omega) ?_; intro v' w1 hown hgrow hnil'))
          exact ⟨⟨k + 1, by go_num, by omega, Ext.grown ((hE7.trans hE2).alloc _) hgrow (fun j hj => Nat.le_trans hbw (hrow2.lt j hj).1), build_own hlt Ha.out hown, by rw [Hall.out], Nat.le_trans hsz7 (Nat.le_trans hE2.size (Nat.le_trans (by simp) hgrow.size))⟩, by simp [intOf]; omega⟩
        | false =>
          rw [hpr, Bool.false_and] at Hall
          clear hpr HQ HQ4
          have hE6 : Ext W4 W4 := Ext.refl _
          go_upto_region 11 with (fail)
          replace d0 := hE6.cell d0
          replace d1 := hE6.cell d1
          replace d2 := hE6.cell d2
          replace d3 := hE6.cell d3
          replace d4 := hE6.cell d4
          have hE7 := hE5.trans hE6
          have hrow7 := own_ext hrow5 hE6
          have hsz7 := Nat.le_trans hsz5 hE6.size
          have HO6 := HO W4
          clear HO hE5 hrow5 hsz5
          go_wp2_with (first
            | (go_at_call 23; refine HO6.mono ?_; rintro e W2 ⟨rfl, hE2⟩; have hrow2 := own_ext hrow7 hE2)
            | (at_builtin; refine wpList_append_own _ rfl _ _ 53 rfl W3.heap.size 48 i0 (.agg #[.string ⟨#[]⟩, .string ⟨#[]⟩, .string ⟨#[]⟩, .int .i64 0, .int .i64 0]) 5 64 Tryz.underlying53 hi hz0 hz1 hz2 rfl (by decide) _ _ _ rfl (hrow2.alloc _) ⟨W2.heap.size, 0, none⟩ 1 1 a.cells rfl rfl (World.news_of_block (cs := #[.string (B a.name), .string (B a.p), .string (B a.q), .int .i64 a.n, .int .i64 a.m]) (t := 48) (fr := (0, 0)) (heap_alloc_new W2 _)) (by simp [ActP.cells, Value.oneCell']) (by unfold maxLen; omega) (by omega) (by have := hE2.size; simp; omega) ?_; intro v' w1 hown hgrow hnil'))
          exact ⟨⟨k + 1, by go_num, by omega, Ext.grown ((hE7.trans hE2).alloc _) hgrow (fun j hj => Nat.le_trans hbw (hrow2.lt j hj).1), build_own hlt Ha.out hown, by rw [Hall.out], Nat.le_trans hsz7 (Nat.le_trans hE2.size (Nat.le_trans (by simp) hgrow.size))⟩, by simp [intOf]; omega⟩
      · have hlt' : ¬ (k : Int) < (l.length : Int) := by omega
        have hke : k = l.length := by omega
        have hR := build_done hrow hke hl60 Hfit.out
        obtain ⟨Ao, co, rfl⟩ := own_form hrow
        have hLay := Lay_any _ l wr hR (by omega) (HV.out.ext hE)
        have hrt : (l.take k).all (fun a => (partsP a).isSome) = (layP l).isSome := by rw [hke, List.take_length, lay_right]
        rw [hrt]
        subst hke
        clear hrow hR hrt
        cases hlp : layP l with
        | none =>
          have HL : Calls Tryz.prog 26 #[.slice Ao l.length co] wr fun e w' => ∃ a, e = .returned (.tuple #[.string ⟨#[]⟩, .iface 131 (.pointer (some ⟨a, 0, none⟩))]) ∧ ErrN w' 1 (.iface 131 (.pointer (some ⟨a, 0, none⟩))) 1 ∧ Ext wr w' := hLay.mono fun e w' h => by
            rw [LayAns, hlp] at h
            exact h
          clear hLay hlp
          simp only [Option.isSome_none]
          go_upto_region 15 with (first
            | (go_at_call 26; refine HL.mono ?_; rintro e W4 ⟨a, rfl, hEr, hE4⟩; have HC := code_scr hEr (HV.out.ext (hE.trans hE4)))
            | (go_at_call 17; refine HC.mono ?_; rintro e W5 ⟨rfl, hE5⟩))
          have hEV := hE.trans (hE4.trans hE5)
          clear HC HL hEr hE hE4 hE5
          cases hra : actsGo 0 (linesP s.data.toList) with
          | error n =>
            have HR1 : Calls Tryz.prog 25 #[.string s] W5 fun e w'' => ∃ a, e = .returned (.tuple #[.slice none 0 0, .int .i64 n, .iface 131 (.pointer (some ⟨a, 0, none⟩))]) ∧ ErrN w'' 1 (.iface 131 (.pointer (some ⟨a, 0, none⟩))) 13 ∧ Ext W5 w'' :=
              (Read_any s (by omega) W5 (HV.out.ext hEV)).mono fun e w'' h => by
                rw [ReadAns, hra] at h
                exact h
            have HQ1 : ∀ w', Calls Tryz.prog 29 #[.string s] w' fun e w'' => e = .returned (.tuple #[.slice none 0 0, .int .i64 n, .int .i64 13]) ∧ Ext w' w'' := fun w' =>
              (Read_ref s (by omega) w').mono fun e w'' h => by
                rw [ReadRef, hra] at h
                exact h
            clear hra
            go_upto_region 17 with (first
              | (go_at_call 25; refine HR1.mono ?_; rintro e X1 ⟨a, rfl, hEr, hX1⟩; have HQ2 := HQ1 X1)
              | (go_at_call 29; refine HQ2.mono ?_; rintro e X2 ⟨rfl, hX2⟩))
            have hEr2 := hEr.below hX2.below
            have hX := hEV.trans (hX1.trans hX2)
            have HCx := code_scr hEr2 (HV.out.ext hX)
            clear HR1 HQ1 HQ2 hEr
            go_wp2_with (go_at_call 17; with_reducible refine HCx.mono ?_; rintro e X3 ⟨rfl, hX3⟩)
            have hXX := hX.trans hX3
            go_loopw [16] (fun i wr => i = .int .i64 0 ∧ Ext w wr) (fun _ _ => 0)
            case atStart => exact ⟨rfl, hXX⟩
            case round =>
              obtain ⟨rfl, hEj⟩ := hrel
              clear HCx hEr2 hX hXX
              obtain ⟨zs, Wz, hz1, hEz, hz2, hz3⟩ := zeros wr
              have HRz : ∀ w', Calls Tryz.prog 25 #[.string zs] w' _ := fun w' => Read_long zs hz3 w'
              have HRz1 := HRz Wz
              have hEq := hEj
              clear HRz hz3
              go_wp2_with (first
                | (go_at_call 25; refine HRz1.mono ?_; rintro e Wa ⟨a, rfl, hEr, hEa⟩; have HCz := code_scr hEr (HV.out.ext (hEq.trans (hEz.trans hEa))))
                | (go_at_call 17; with_reducible refine HCz.mono ?_; rintro e Wb ⟨rfl, hEb⟩))
              go_ret
              exact ⟨rfl, hEq.trans (hEz.trans (hEa.trans hEb))⟩
          | ok x =>
            have hx200 : x.length ≤ 200 := (only_plain hra).2
            have HR1 : Calls Tryz.prog 25 #[.string s] W5 fun e w'' => ∃ v, e = .returned (.tuple #[v, .int .i64 0, .nilIface]) ∧ RdA w'' v x ∧ Ext W5 w'' :=
              (Read_any s (by omega) W5 (HV.out.ext hEV)).mono fun e w'' h => by
                rw [ReadAns, hra] at h
                exact h
            have HQ1 : ∀ w', Calls Tryz.prog 29 #[.string s] w' fun e w'' => ∃ A c, e = .returned (.tuple #[.slice A x.length c, .int .i64 0, .int .i64 0]) ∧ w''.ownsRow w'.heap.size 44 5 (.slice A x.length c) x.length (x.flatMap ActP.cells) ∧ Ext w' w'' := fun w' =>
              (Read_ref s (by omega) w').mono fun e w'' h => by
                rw [ReadRef, hra] at h
                exact h
            clear hra
            obtain ⟨nx, hnx⟩ : ∃ nx, x.length = nx := ⟨_, rfl⟩
            have Hnx := Lib.hid hnx
            go_upto_region 17 with (first
              | (go_at_call 25; refine HR1.mono ?_; rintro e X1 ⟨v1, rfl, hR1, hX1⟩; have HQ2 := HQ1 X1)
              | (go_at_call 29; refine HQ2.mono ?_; rintro e X2 ⟨A2, c2, rfl, hown2, hX2⟩))
            have hX := hEV.trans (hX1.trans hX2)
            have hR2 := RdA.ext hR1 hX2
            obtain ⟨A1, c1, rfl, hc11, hc12, _⟩ := id hR2
            have HR2 := Lib.hid hR2
            have Hown2 := Lib.hid hown2
            rw [hnx] at hc11 hx200 ⊢
            have HCx := Code_nil X2
            clear HR1 HQ1 HQ2 hR1 hR2 hown2 hnx
            go_wp2_with (go_at_call 17; with_reducible refine HCx.mono ?_; rintro e X3 ⟨rfl, hX3⟩)
            go_loopw [16] (fun i wr => ∃ j : Nat, i = .int .i64 j ∧ j ≤ nx ∧ Ext X2 wr) (fun i _ => nx - (intOf i).toNat)
            case atStart => exact ⟨0, rfl, Nat.zero_le _, hX3⟩
            case round =>
              obtain ⟨j, rfl, hjn, hEj⟩ := hrel
              by_cases hj : j < nx
              · have hj' : (j : Int) < (nx : Int) := by omega
                have hjx : j < x.length := by have := Hnx.out; omega
                obtain ⟨bx, ox, cx, ex, _, _, hcx⟩ := RdA.at2 (RdA.ext HR2.out hEj) (by intro e; rw [e] at hjx; simp at hjx)
                obtain ⟨g2, ey, y0, y1, y2, y3, y4⟩ := ref_cells (own_ext Hown2.out hEj) hjx
                cases ex
                cases ey
                obtain ⟨x0, x1, x2, x3, x4, _⟩ := hcx j hjx
                obtain ⟨a, ha⟩ : ∃ a, x[j]'hjx = a := ⟨_, rfl⟩
                rw [ha] at x0 x1 x2 x3 x4 y0 y1 y2 y3 y4
                have HP : ∀ w', Calls Tryz.prog 30 #[.agg #[.string (B a.name), .string (B a.p), .string (B a.q), .int .i64 a.n, .int .i64 a.m]] w' fun e w'' => e = .returned (.agg #[.string (B a.name), .string (B a.p), .string (B a.q), .int .i64 a.n, .int .i64 a.m]) ∧ Ext w' w'' := fun w' => Plain_any a w'
                clear hcx ha
                go_upto_region 22 with (fail)
                have p0 := fun d os => cell_regrown x0 d os
                have p1 := fun d os => cell_regrown x1 d os
                have p2 := fun d os => cell_regrown x2 d os
                have p3 := fun d os => cell_regrown x3 d os
                have p4 := fun d os => cell_regrown x4 d os
                have q0 := fun d os => cell_regrown y0 d os
                have q1 := fun d os => cell_regrown y1 d os
                have q2 := fun d os => cell_regrown y2 d os
                have q3 := fun d os => cell_regrown y3 d os
                have q4 := fun d os => cell_regrown y4 d os
                (refine wp_region_quiet_below (by kernel_rfl) (by kernel_rfl) ?_; (repeat (go_big_quiet_step (((go_at_call 30; exact Calls.regrown_of (HP _)))))); refine wpQuiet_nil ?_; intro _ hq; obtain ⟨⟨dq, osq⟩, hq2⟩ := hq; subst hq2)
                have hE4 := hEj.trans (below_regrown wr dq osq)
                generalize Go.Sort.grow (redrawn wr dq) osq = W4 at hE4 ⊢
                go_wp2
                exact ⟨⟨j + 1, by go_num, by omega, hE4⟩, by simp [intOf]; omega⟩
              · have hj' : ¬ (j : Int) < (nx : Int) := by omega
                clear HCx
                obtain ⟨zs, Wz, hz1, hEz, hz2, hz3⟩ := zeros wr
                have HRz : ∀ w', Calls Tryz.prog 25 #[.string zs] w' _ := fun w' => Read_long zs hz3 w'
                have HRz1 := HRz Wz
                have hEq := hX.trans hEj
                clear HRz hz3
                go_wp2_with (first
                  | (go_at_call 25; refine HRz1.mono ?_; rintro e Wa ⟨a, rfl, hEr, hEa⟩; have HCz := code_scr hEr (HV.out.ext (hEq.trans (hEz.trans hEa))))
                  | (go_at_call 17; with_reducible refine HCz.mono ?_; rintro e Wb ⟨rfl, hEb⟩))
                go_ret
                exact ⟨rfl, hEq.trans (hEz.trans (hEa.trans hEb))⟩
        | some t =>
          have HL : Calls Tryz.prog 26 #[.slice Ao l.length co] wr fun e w' => e = .returned (.tuple #[.string (B t), .nilIface]) ∧ Ext wr w' := hLay.mono fun e w' h => by
            rw [LayAns, hlp] at h
            exact h
          have HLR : ∀ w', Ext w w' → Calls Tryz.prog 28 _ w' _ := fun w' h => Lay_ref _ l t w' (RdW.ext Hv.out h) hl60 hlp
          have hq : ((B t).toList == (B t).toList) = true := by simp
          clear hLay hlp
          simp only [Option.isSome_some]
          go_upto_region 15 with (first
            | (go_at_call 26; refine HL.mono ?_; rintro e W4 ⟨rfl, hE4⟩; have HC := Code_nil W4)
            | (go_at_call 17; with_reducible refine HC.mono ?_; rintro e W5 ⟨rfl, hE5⟩; have HLR5 := HLR W5 (hE.trans (hE4.trans hE5)))
            | (go_at_call 28; refine HLR5.mono ?_; rintro e W6 ⟨rfl, hE6⟩))
          have hEV := hE.trans (hE4.trans (hE5.trans hE6))
          clear HC HL HLR HLR5 hE hE4 hE5 hE6
          cases hra : actsGo 0 (linesP s.data.toList) with
          | error n =>
            have HR1 : Calls Tryz.prog 25 #[.string s] W6 fun e w'' => ∃ a, e = .returned (.tuple #[.slice none 0 0, .int .i64 n, .iface 131 (.pointer (some ⟨a, 0, none⟩))]) ∧ ErrN w'' 1 (.iface 131 (.pointer (some ⟨a, 0, none⟩))) 13 ∧ Ext W6 w'' :=
              (Read_any s (by omega) W6 (HV.out.ext hEV)).mono fun e w'' h => by
                rw [ReadAns, hra] at h
                exact h
            have HQ1 : ∀ w', Calls Tryz.prog 29 #[.string s] w' fun e w'' => e = .returned (.tuple #[.slice none 0 0, .int .i64 n, .int .i64 13]) ∧ Ext w' w'' := fun w' =>
              (Read_ref s (by omega) w').mono fun e w'' h => by
                rw [ReadRef, hra] at h
                exact h
            clear hra
            go_upto_region 17 with (first
              | (go_at_call 25; refine HR1.mono ?_; rintro e X1 ⟨a, rfl, hEr, hX1⟩; have HQ2 := HQ1 X1)
              | (go_at_call 29; refine HQ2.mono ?_; rintro e X2 ⟨rfl, hX2⟩))
            have hEr2 := hEr.below hX2.below
            have hX := hEV.trans (hX1.trans hX2)
            have HCx := code_scr hEr2 (HV.out.ext hX)
            clear HR1 HQ1 HQ2 hEr
            go_wp2_with (go_at_call 17; with_reducible refine HCx.mono ?_; rintro e X3 ⟨rfl, hX3⟩)
            have hXX := hX.trans hX3
            go_loopw [16] (fun i wr => i = .int .i64 0 ∧ Ext w wr) (fun _ _ => 0)
            case atStart => exact ⟨rfl, hXX⟩
            case round =>
              obtain ⟨rfl, hEj⟩ := hrel
              clear HCx hEr2 hX hXX
              obtain ⟨zs, Wz, hz1, hEz, hz2, hz3⟩ := zeros wr
              have HRz : ∀ w', Calls Tryz.prog 25 #[.string zs] w' _ := fun w' => Read_long zs hz3 w'
              have HRz1 := HRz Wz
              have hEq := hEj
              clear HRz hz3
              go_wp2_with (first
                | (go_at_call 25; refine HRz1.mono ?_; rintro e Wa ⟨a, rfl, hEr, hEa⟩; have HCz := code_scr hEr (HV.out.ext (hEq.trans (hEz.trans hEa))))
                | (go_at_call 17; with_reducible refine HCz.mono ?_; rintro e Wb ⟨rfl, hEb⟩))
              go_ret
              exact ⟨rfl, hEq.trans (hEz.trans (hEa.trans hEb))⟩
          | ok x =>
            have hx200 : x.length ≤ 200 := (only_plain hra).2
            have HR1 : Calls Tryz.prog 25 #[.string s] W6 fun e w'' => ∃ v, e = .returned (.tuple #[v, .int .i64 0, .nilIface]) ∧ RdA w'' v x ∧ Ext W6 w'' :=
              (Read_any s (by omega) W6 (HV.out.ext hEV)).mono fun e w'' h => by
                rw [ReadAns, hra] at h
                exact h
            have HQ1 : ∀ w', Calls Tryz.prog 29 #[.string s] w' fun e w'' => ∃ A c, e = .returned (.tuple #[.slice A x.length c, .int .i64 0, .int .i64 0]) ∧ w''.ownsRow w'.heap.size 44 5 (.slice A x.length c) x.length (x.flatMap ActP.cells) ∧ Ext w' w'' := fun w' =>
              (Read_ref s (by omega) w').mono fun e w'' h => by
                rw [ReadRef, hra] at h
                exact h
            clear hra
            obtain ⟨nx, hnx⟩ : ∃ nx, x.length = nx := ⟨_, rfl⟩
            have Hnx := Lib.hid hnx
            go_upto_region 17 with (first
              | (go_at_call 25; refine HR1.mono ?_; rintro e X1 ⟨v1, rfl, hR1, hX1⟩; have HQ2 := HQ1 X1)
              | (go_at_call 29; refine HQ2.mono ?_; rintro e X2 ⟨A2, c2, rfl, hown2, hX2⟩))
            have hX := hEV.trans (hX1.trans hX2)
            have hR2 := RdA.ext hR1 hX2
            obtain ⟨A1, c1, rfl, hc11, hc12, _⟩ := id hR2
            have HR2 := Lib.hid hR2
            have Hown2 := Lib.hid hown2
            rw [hnx] at hc11 hx200 ⊢
            have HCx := Code_nil X2
            clear HR1 HQ1 HQ2 hR1 hR2 hown2 hnx
            go_wp2_with (go_at_call 17; with_reducible refine HCx.mono ?_; rintro e X3 ⟨rfl, hX3⟩)
            go_loopw [16] (fun i wr => ∃ j : Nat, i = .int .i64 j ∧ j ≤ nx ∧ Ext X2 wr) (fun i _ => nx - (intOf i).toNat)
            case atStart => exact ⟨0, rfl, Nat.zero_le _, hX3⟩
            case round =>
              obtain ⟨j, rfl, hjn, hEj⟩ := hrel
              by_cases hj : j < nx
              · have hj' : (j : Int) < (nx : Int) := by omega
                have hjx : j < x.length := by have := Hnx.out; omega
                obtain ⟨bx, ox, cx, ex, _, _, hcx⟩ := RdA.at2 (RdA.ext HR2.out hEj) (by intro e; rw [e] at hjx; simp at hjx)
                obtain ⟨g2, ey, y0, y1, y2, y3, y4⟩ := ref_cells (own_ext Hown2.out hEj) hjx
                cases ex
                cases ey
                obtain ⟨x0, x1, x2, x3, x4, _⟩ := hcx j hjx
                obtain ⟨a, ha⟩ : ∃ a, x[j]'hjx = a := ⟨_, rfl⟩
                rw [ha] at x0 x1 x2 x3 x4 y0 y1 y2 y3 y4
                have HP : ∀ w', Calls Tryz.prog 30 #[.agg #[.string (B a.name), .string (B a.p), .string (B a.q), .int .i64 a.n, .int .i64 a.m]] w' fun e w'' => e = .returned (.agg #[.string (B a.name), .string (B a.p), .string (B a.q), .int .i64 a.n, .int .i64 a.m]) ∧ Ext w' w'' := fun w' => Plain_any a w'
                clear hcx ha
                go_upto_region 22 with (fail)
                have p0 := fun d os => cell_regrown x0 d os
                have p1 := fun d os => cell_regrown x1 d os
                have p2 := fun d os => cell_regrown x2 d os
                have p3 := fun d os => cell_regrown x3 d os
                have p4 := fun d os => cell_regrown x4 d os
                have q0 := fun d os => cell_regrown y0 d os
                have q1 := fun d os => cell_regrown y1 d os
                have q2 := fun d os => cell_regrown y2 d os
                have q3 := fun d os => cell_regrown y3 d os
                have q4 := fun d os => cell_regrown y4 d os
                (refine wp_region_quiet_below (by kernel_rfl) (by kernel_rfl) ?_; (repeat (go_big_quiet_step (((go_at_call 30; exact Calls.regrown_of (HP _)))))); refine wpQuiet_nil ?_; intro _ hq; obtain ⟨⟨dq, osq⟩, hq2⟩ := hq; subst hq2)
                have hE4 := hEj.trans (below_regrown wr dq osq)
                generalize Go.Sort.grow (redrawn wr dq) osq = W4 at hE4 ⊢
                go_wp2
                exact ⟨⟨j + 1, by go_num, by omega, hE4⟩, by simp [intOf]; omega⟩
              · have hj' : ¬ (j : Int) < (nx : Int) := by omega
                clear HCx
                obtain ⟨zs, Wz, hz1, hEz, hz2, hz3⟩ := zeros wr
                have HRz : ∀ w', Calls Tryz.prog 25 #[.string zs] w' _ := fun w' => Read_long zs hz3 w'
                have HRz1 := HRz Wz
                have hEq := hX.trans hEj
                clear HRz hz3
                go_wp2_with (first
                  | (go_at_call 25; refine HRz1.mono ?_; rintro e Wa ⟨a, rfl, hEr, hEa⟩; have HCz := code_scr hEr (HV.out.ext (hEq.trans (hEz.trans hEa))))
                  | (go_at_call 17; with_reducible refine HCz.mono ?_; rintro e Wb ⟨rfl, hEb⟩))
                go_ret
                exact ⟨rfl, hEq.trans (hEz.trans (hEa.trans hEb))⟩
  · have hHF : (fewP l = false) ∨ (fewP l = true ∧ ¬ s.size ≤ 3000) := by
      by_cases h : fewP l = true
      · exact .inr ⟨h, fun h2 => hfew ⟨h, h2⟩⟩
      · exact .inl (by simpa using h)
    clear hfew
    rcases hHF with hff | ⟨hff, hwd⟩
    · rw [hff] at HF
      go_enter Tryz.func10, Tryz.ntmps10
      go_upto_region 2 with (first
        | (go_at_call 20; refine HA0.mono ?_; rintro e W1 ⟨rfl, hE1⟩; have HF1 := HF W1 hE1)
        | (go_at_call 21; refine HF1.mono ?_; rintro e W3 ⟨rfl, rfl⟩))
      have HA3 := HA _ hE1
      go_wp2_with (go_at_call 20; refine HA3.mono ?_; rintro e W9 ⟨rfl, hE9⟩)
      go_ret
      exact ⟨rfl, hE1.trans hE9⟩
    · have hwd' : (3000 : Int) < (s.size : Int) := by omega
      rw [hff] at HF
      go_enter Tryz.func10, Tryz.ntmps10
      go_upto_region 2 with (first
        | (go_at_call 20; refine HA0.mono ?_; rintro e W1 ⟨rfl, hE1⟩; have HF1 := HF W1 hE1)
        | (go_at_call 21; refine HF1.mono ?_; rintro e W3 ⟨rfl, rfl⟩))
      have HA3 := HA _ hE1
      go_wp2_with (go_at_call 20; refine HA3.mono ?_; rintro e W9 ⟨rfl, hE9⟩)
      go_ret
      exact ⟨rfl, hE1.trans hE9⟩
end Go.Proofs.YtiomljaengonoaaGreatDoor
