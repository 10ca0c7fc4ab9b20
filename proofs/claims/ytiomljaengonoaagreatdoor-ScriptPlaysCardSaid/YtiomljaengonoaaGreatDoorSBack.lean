/- ScriptBack: what is laid is read as it was. -/
import Derived.Test.YtiomljaengonoaaGreatDoorScrBuild
import Derived.BigQuiet
namespace Go.Proofs.YtiomljaengonoaaGreatDoor
open Go Go.RowKit Go.Shelf Go.Proofs Go.Maps

theorem take_all (l : List ActP) (k : Nat) (h : k < l.length) (f : ActP → Bool) : (l.take (k + 1)).all f = ((l.take k).all f && f l[k]) := by
  rw [List.take_add_one, List.getElem?_eq_getElem h]
  simp only [Option.toList_some, List.all_append, List.all_cons, List.all_nil, Bool.and_true]

def BackRel (w0 : World) (base : Nat) (l : List ActP) (m r i : Value) (wr : World) : Prop := ∃ k : Nat, i = .int .i64 k ∧ k ≤ l.length ∧ Ext w0 wr ∧ wr.ownsRow base 48 5 m k ((l.take k).flatMap ActP.cells) ∧ r = .bool ((l.take k).all fun a => (partsP a).isSome) ∧ base ≤ wr.heap.size

set_option maxRecDepth 100000 in
set_option maxHeartbeats 8000000 in
theorem SBack_any (v : Value) (l : List ActP) (w : World) (hv : RdW w v l) (hV : ScrVars w) :
    Calls Tryz.prog 9 #[v] w fun e w' => e = .returned (.bool true) ∧ Ext w w' := by
  have HA := fun w' h => awakeS_any w' (hV.ext h)
  have HF := fun w' h => few_any v l w' (RdW.ext hv h)
  have HV := Lib.hid hV
  have Hv := Lib.hid hv
  clear hV
  obtain ⟨A, c, rfl, hc1, hc2, hlm, _⟩ := hv
  have HA0 := HA w (Ext.refl _)
  cases hfew : fewP l with
  | true =>
    rw [hfew] at HF
    obtain ⟨hl60, hfit⟩ := few_fits Hv.out hfew
    have Hfit := Lib.hid hfit
    clear hfew hfit
    go_enter Tryz.func9, Tryz.ntmps9
    go_upto_region 3 with (first
      | (go_at_call 20; refine HA0.mono ?_; rintro e W1 ⟨rfl, hE1⟩; have HF1 := HF W1 hE1)
      | (go_at_call 21; refine HF1.mono ?_; rintro e W3 ⟨rfl, rfl⟩))
    clear HF HF1 HA HA0
    have hbw : w.heap.size ≤ W3.heap.size := hE1.size
    go_wp2
    go_loopw [3, 4, 5] (fun m r i wr => BackRel w W3.heap.size l m r i wr) (fun _ _ i _ => l.length - (intOf i).toNat)
    case atStart => exact ⟨0, rfl, Nat.zero_le _, hE1, World.ownsRow_nil _ _ _ _, rfl, Nat.le_refl _⟩
    case round =>
      obtain ⟨k, rfl, hkn, hE, hrow, rfl, hsz0⟩ := hrel
      by_cases hlt : k < l.length
      · have hlt' : (k : Int) < (l.length : Int) := by omega
        obtain ⟨b, o, c', e2, _, _, hcell⟩ := RdW.at_ (RdW.ext Hv.out hE) (by intro e; rw [e] at hlt; simp at hlt)
        cases e2
        obtain ⟨d0, d1, d2, d3, d4, _⟩ := hcell k hlt
        obtain ⟨a, ha⟩ : ∃ a, l[k] = a := ⟨_, rfl⟩
        rw [ha] at d0 d1 d2 d3 d4
        have HO := Of_any a wr
        rw [show a.val = .agg #[.string (B a.name), .string (B a.p), .string (B a.q), .int .i64 a.n, .int .i64 a.m] from rfl] at HO
        obtain ⟨i0, hi, hz0, hz1, hz2⟩ := info_parts info_act
        have hfa : a.fits := Hfit.out a (by rw [← ha]; exact List.getElem_mem hlt)
        have HR : ∀ w', Ext w w' → Calls Tryz.prog 22 #[.agg #[.string (B a.name), .string (B a.p), .string (B a.q), .int .i64 a.n, .int .i64 a.m]] w' fun e w'' => e = .returned (.bool (partsP a).isSome) ∧ Ext w' w'' := fun w' h => Right_any a hfa w' (HV.out.ext h).num
        have hall := take_all l k hlt (fun a => (partsP a).isSome)
        rw [ha] at hall
        have Hall := Lib.hid hall
        have Hrow := Lib.hid hrow
        have Ha := Lib.hid ha
        clear hcell hrow ha hfa hall
        go_upto_region 9 with (first
          | (go_at_call 23; refine HO.mono ?_; rintro e W2 ⟨rfl, hE2⟩; have hrow2 := own_ext Hrow.out hE2)
          | (at_builtin; refine wpList_append_own _ rfl _ _ 53 rfl W3.heap.size 48 i0 (.agg #[.string ⟨#[]⟩, .string ⟨#[]⟩, .string ⟨#[]⟩, .int .i64 0, .int .i64 0]) 5 64 Tryz.underlying53 hi hz0 hz1 hz2 rfl (by decide) _ _ _ rfl (hrow2.alloc _) ⟨W2.heap.size, 0, none⟩ 1 1 a.cells rfl rfl (World.news_of_block (cs := #[.string (B a.name), .string (B a.p), .string (B a.q), .int .i64 a.n, .int .i64 a.m]) (t := 48) (fr := (0, 0)) (heap_alloc_new W2 _)) (by simp [ActP.cells, Value.oneCell']) (by unfold maxLen; omega) (by omega) (by have := hE2.size; simp; omega) ?_; intro v' w1 hown hgrow hnil'))
        have hE3 : Ext w w1 := Ext.grown ((hE.trans hE2).alloc _) hgrow (fun j hj => Nat.le_trans hbw (hrow2.lt j hj).1)
        have hown2 := build_own hlt Ha.out hown
        have hsz3 : W3.heap.size ≤ w1.heap.size := Nat.le_trans hsz0 (Nat.le_trans hE2.size (Nat.le_trans (by simp) hgrow.size))
        have hlk : (l.take (k + 1)).length = k + 1 := by rw [List.length_take]; omega
        have hR1 : RdA w1 v' (l.take (k + 1)) := RdA.of_own (by rw [hlk]; exact hown2) (by omega) (fun x hx => Hfit.out x (List.take_subset _ _ hx))
        obtain ⟨b1, o1, c1, e1, _, _, hcell1⟩ := RdA.at2 hR1 (by intro e; rw [e] at hlk; simp at hlk)
        obtain ⟨f0, f1, f2, f3, f4, _⟩ := hcell1 k (by omega)
        have hka : (l.take (k + 1))[k]'(by omega) = a := by rw [List.getElem_take]; exact Ha.out
        rw [hka] at f0 f1 f2 f3 f4
        rw [hlk] at e1
        subst e1
        have HR1 := HR w1 hE3
        clear d0 d1 d2 d3 d4 hown hgrow hnil' hrow2 hR1 hcell1 hka HR HO
        cases hpr : (l.take k).all (fun a => (partsP a).isSome) with
        | true =>
          have Hnext := Lib.hid (show (l.take (k + 1)).all (fun a => (partsP a).isSome) = (partsP a).isSome by rw [Hall.out, hpr, Bool.true_and])
          clear hpr
          go_wp2_with (go_at_call 22; refine HR1.mono ?_; rintro e W5 ⟨rfl, hE5⟩)
          exact ⟨⟨k + 1, by go_num, by omega, hE3.trans hE5, own_ext hown2 hE5, by rw [Hnext.out], Nat.le_trans hsz3 hE5.size⟩, by simp [intOf]; omega⟩
        | false =>
          have Hnext := Lib.hid (show (l.take (k + 1)).all (fun a => (partsP a).isSome) = false by rw [Hall.out, hpr, Bool.false_and])
          clear hpr
          go_wp2
          exact ⟨⟨k + 1, by go_num, by omega, hE3, hown2, by rw [Hnext.out], hsz3⟩, by simp [intOf]; omega⟩
      · have hlt' : ¬ (k : Int) < (l.length : Int) := by omega
        have hke : k = l.length := by omega
        have hR := build_done hrow hke hl60 Hfit.out
        obtain ⟨Ao, co, rfl⟩ := own_form hrow
        have hLay := Lay_any _ l wr hR (by omega) (HV.out.ext hE)
        have HRr := Lib.hid hR
        have hrt : (l.take k).all (fun a => (partsP a).isSome) = (layP l).isSome := by rw [hke, List.take_length, lay_right]
        rw [hrt]
        subst hke
        clear hrow hR hrt
        cases hlp : layP l with
        | none =>
          have HL : Calls Tryz.prog 26 #[.slice Ao l.length co] wr fun e w' => ∃ a, e = .returned (.tuple #[.string ⟨#[]⟩, .iface 131 (.pointer (some ⟨a, 0, none⟩))]) ∧ ErrN w' 1 (.iface 131 (.pointer (some ⟨a, 0, none⟩))) 1 ∧ Ext wr w' := hLay.mono fun e w' h => by
            rw [LayAns, hlp] at h
            exact h
          clear hLay hlp
          simp only [Option.isSome_none]
          go_wp2_with (first
            | (go_at_call 26; refine HL.mono ?_; rintro e W4 ⟨a, rfl, hEr, hE4⟩; have HC := code_scr hEr (HV.out.ext (hE.trans hE4)))
            | (go_at_call 17; refine HC.mono ?_; rintro e W5 ⟨rfl, hE5⟩))
          go_ret
          exact ⟨rfl, hE.trans (hE4.trans hE5)⟩
        | some s =>
          have HL : Calls Tryz.prog 26 #[.slice Ao l.length co] wr fun e w' => e = .returned (.tuple #[.string (B s), .nilIface]) ∧ Ext wr w' := hLay.mono fun e w' h => by
            rw [LayAns, hlp] at h
            exact h
          have hsl := lay_len2 l s hlp
          have hTl : (B s).size ≤ 20000 := by rw [size_B]; omega
          have hact := back_plain hlp (by omega)
          have HR : ∀ w', Ext w w' → Calls Tryz.prog 25 #[.string (B s)] w' fun e w'' => ∃ v, e = .returned (.tuple #[v, .int .i64 0, .nilIface]) ∧ RdA w'' v l ∧ Ext w' w'' := fun w' h =>
            (Read_any _ hTl w' (HV.out.ext h)).mono fun e w'' h => by
              rw [ReadAns, toList_B, hact] at h
              exact h
          clear hLay hlp hact hTl hsl
          simp only [Option.isSome_some]
          go_wp2_with (first
            | (go_at_call 26; refine HL.mono ?_; rintro e W4 ⟨rfl, hE4⟩; have HR4 := HR W4 (hE.trans hE4))
            | (go_at_call 25; refine HR4.mono ?_; rintro e W6 ⟨v6, rfl, hR6, hE6⟩; obtain ⟨A6, c6, rfl, hc61, hc62, _⟩ := id hR6))
          have hE7 : Ext w W6 := hE.trans (hE4.trans hE6)
          have hM6 := Lib.hid (RdA.ext HRr.out (hE4.trans hE6))
          have hX6 := Lib.hid hR6
          clear hR6 HR HR4 HL
          go_loopw [11] (fun i wr => ∃ j : Nat, i = .int .i64 j ∧ j ≤ l.length ∧ Ext W6 wr) (fun i _ => l.length - (intOf i).toNat)
          case atStart => exact ⟨0, rfl, Nat.zero_le _, Ext.refl _⟩
          case round =>
            obtain ⟨j, rfl, hjn, hEj⟩ := hrel
            by_cases hj : j < l.length
            · have hj' : (j : Int) < (l.length : Int) := by omega
              obtain ⟨bx, ox, cx, ex, _, _, hcx⟩ := RdA.at2 (RdA.ext hX6.out hEj) (by intro e; rw [e] at hj; simp at hj)
              obtain ⟨bm, om, cm, em, _, _, hcm⟩ := RdA.at2 (RdA.ext hM6.out hEj) (by intro e; rw [e] at hj; simp at hj)
              cases ex
              cases em
              obtain ⟨x0, x1, x2, x3, x4, _⟩ := hcx j hj
              obtain ⟨y0, y1, y2, y3, y4, _⟩ := hcm j hj
              generalize l[j] = a at *
              clear hcx hcm
              go_upto_region 17 with (fail)
              go_quiet (fail)
              go_wp2
              exact ⟨⟨j + 1, by go_num, by omega, hEj.drewN _⟩, by simp [intOf]; omega⟩
            · have hj' : ¬ (j : Int) < (l.length : Int) := by omega
              have HC := Code_nil wr
              go_wp2_with (first
                | (go_at_call 17; with_reducible refine HC.mono ?_; rintro e W7 ⟨rfl, hE8⟩; have HC7 := Code_nil W7)
                | (go_at_call 17; with_reducible refine HC7.mono ?_; rintro e W8 ⟨rfl, hE9⟩))
              go_ret
              exact ⟨rfl, hE7.trans (hEj.trans (hE8.trans hE9))⟩
  | false =>
    rw [hfew] at HF
    clear hfew
    go_enter Tryz.func9, Tryz.ntmps9
    go_upto_region 2 with (first
      | (go_at_call 20; refine HA0.mono ?_; rintro e W1 ⟨rfl, hE1⟩; have HF1 := HF W1 hE1)
      | (go_at_call 21; refine HF1.mono ?_; rintro e W3 ⟨rfl, rfl⟩))
    have HA3 := HA _ hE1
    go_wp2_with (go_at_call 20; refine HA3.mono ?_; rintro e W9 ⟨rfl, hE9⟩)
    go_ret
    exact ⟨rfl, hE1.trans hE9⟩
end Go.Proofs.YtiomljaengonoaaGreatDoor
