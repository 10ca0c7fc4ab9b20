/- ScriptLines: texts of acts, one behind the other, are read as the acts of both. -/
import Derived.Test.YtiomljaengonoaaGreatDoorScrBuild
import Derived.BigQuiet
namespace Go.Proofs.YtiomljaengonoaaGreatDoor
open Go Go.RowKit Go.Shelf Go.Proofs Go.Maps

/-- What Lay answers, whichever it is. -/
theorem Lay_some (v : Value) (l : List ActP) (w : World) (hv : RdA w v l) (hl : l.length ≤ 200) (hV : ScrVars w) :
    Calls Tryz.prog 26 #[v] w fun e w' => ∃ t f, e = .returned (.tuple #[.string t, f]) ∧ Ext w w' := by
  refine (Lay_any v l w hv hl hV).mono fun e w' h => ?_
  rw [LayAns] at h
  cases hp : layP l with
  | none =>
    rw [hp] at h
    obtain ⟨a, h1, _, h2⟩ := h
    exact ⟨_, _, h1, h2⟩
  | some s =>
    rw [hp] at h
    exact ⟨_, _, h.1, h.2⟩

set_option maxRecDepth 100000 in
set_option maxHeartbeats 8000000 in
theorem SLines_any (va : Value) (la : List ActP) (vb : Value) (lb : List ActP) (w : World) (ha : RdW w va la) (hb : RdW w vb lb) (hV : ScrVars w) :
    Calls Tryz.prog 7 #[va, vb] w fun e w' => e = .returned (.bool true) ∧ Ext w w' := by
  have HA := fun w' h => awakeS_any w' (hV.ext h)
  have HFa := fun w' h => few_any va la w' (RdW.ext ha h)
  have HFb := fun w' h => few_any vb lb w' (RdW.ext hb h)
  have HV := Lib.hid hV
  have Ha := Lib.hid ha
  have Hb := Lib.hid hb
  clear hV
  obtain ⟨A1, c1, rfl, hc11, hc12, hlm1, _⟩ := ha
  obtain ⟨A2, c2, rfl, hc21, hc22, hlm2, _⟩ := hb
  have HA0 := HA w (Ext.refl _)
  cases hfa : fewP la with
  | false =>
    rw [hfa] at HFa
    clear hfa HFb
    go_enter Tryz.func7, Tryz.ntmps7
    go_upto_region 2 with (first
      | (go_at_call 20; refine HA0.mono ?_; rintro e W1 ⟨rfl, hE1⟩; have HF1 := HFa W1 hE1)
      | (go_at_call 21; refine HF1.mono ?_; rintro e W3 ⟨rfl, rfl⟩))
    have HA3 := HA _ hE1
    go_wp2_with (go_at_call 20; refine HA3.mono ?_; rintro e W9 ⟨rfl, hE9⟩)
    go_ret
    exact ⟨rfl, hE1.trans hE9⟩
  | true =>
    rw [hfa] at HFa
    obtain ⟨hla, hfita⟩ := few_fits Ha.out hfa
    have Hfita := Lib.hid hfita
    clear hfa hfita
    cases hfb : fewP lb with
    | false =>
      rw [hfb] at HFb
      clear hfb
      go_enter Tryz.func7, Tryz.ntmps7
      go_upto_region 2 with (first
        | (go_at_call 20; refine HA0.mono ?_; rintro e W1 ⟨rfl, hE1⟩; have HF1 := HFa W1 hE1)
        | (go_at_call 21; with_reducible refine HF1.mono ?_; rintro e W3 ⟨rfl, rfl⟩; have HF2 := HFb W3 hE1)
        | (go_at_call 21; with_reducible refine HF2.mono ?_; rintro e W4 ⟨rfl, rfl⟩))
      have HA3 := HA _ hE1
      go_wp2_with (go_at_call 20; refine HA3.mono ?_; rintro e W9 ⟨rfl, hE9⟩)
      go_ret
      exact ⟨rfl, hE1.trans hE9⟩
    | true =>
    rw [hfb] at HFb
    obtain ⟨hlb, hfitb⟩ := few_fits Hb.out hfb
    have Hfitb := Lib.hid hfitb
    clear hfb hfitb
    go_enter Tryz.func7, Tryz.ntmps7
    go_upto_region 3 with (first
      | (go_at_call 20; refine HA0.mono ?_; rintro e W1 ⟨rfl, hE1⟩; have HF1 := HFa W1 hE1)
      | (go_at_call 21; with_reducible refine HF1.mono ?_; rintro e W3 ⟨rfl, rfl⟩; have HF2 := HFb W3 hE1)
      | (go_at_call 21; with_reducible refine HF2.mono ?_; rintro e W4 ⟨rfl, rfl⟩))
    clear HFa HFb HF1 HF2 HA HA0
    have Ha4 := Lib.hid (RdW.ext Ha.out hE1)
    have hbw : W4.heap.size ≤ W4.heap.size := Nat.le_refl _
    go_wp2
    go_loopw [5, 7] (fun m i wr => BuildRel W4 W4.heap.size la m i wr) (fun _ i _ => la.length - (intOf i).toNat)
    case atStart => exact ⟨0, rfl, Nat.zero_le _, Ext.refl _, World.ownsRow_nil _ _ _ _⟩
    case round =>
      obtain ⟨k, rfl, hkn, hE, hrow⟩ := hrel
      by_cases hlt : k < la.length
      · have hlt' : (k : Int) < (la.length : Int) := by omega
        obtain ⟨b, o, c', e2, _, _, hcell⟩ := RdW.at_ (RdW.ext Ha4.out hE) (by intro e; rw [e] at hlt; simp at hlt)
        cases e2
        obtain ⟨d0, d1, d2, d3, d4, _⟩ := hcell k hlt
        obtain ⟨a, ha⟩ : ∃ a, la[k] = a := ⟨_, rfl⟩
        rw [ha] at d0 d1 d2 d3 d4
        have HO := Of_any a wr
        rw [show a.val = .agg #[.string (B a.name), .string (B a.p), .string (B a.q), .int .i64 a.n, .int .i64 a.m] from rfl] at HO
        obtain ⟨i0, hi, hz0, hz1, hz2⟩ := info_parts info_act
        have Hrow := Lib.hid hrow
        have Ha := Lib.hid ha
        have hsz1 : W4.heap.size ≤ wr.heap.size := hE.size
        clear hcell hrow ha
        go_wp2_with (first
          | (go_at_call 23; refine HO.mono ?_; rintro e W2 ⟨rfl, hE2⟩; have hrow2 := own_ext Hrow.out hE2)
          | (at_builtin; refine wpList_append_own _ rfl _ _ 53 rfl W4.heap.size 48 i0 (.agg #[.string ⟨#[]⟩, .string ⟨#[]⟩, .string ⟨#[]⟩, .int .i64 0, .int .i64 0]) 5 64 Tryz.underlying53 hi hz0 hz1 hz2 rfl (by decide) _ _ _ rfl (hrow2.alloc _) ⟨W2.heap.size, 0, none⟩ 1 1 a.cells rfl rfl (World.news_of_block (cs := #[.string (B a.name), .string (B a.p), .string (B a.q), .int .i64 a.n, .int .i64 a.m]) (t := 48) (fr := (0, 0)) (heap_alloc_new W2 _)) (by simp [ActP.cells, Value.oneCell']) (by unfold maxLen; omega) (by omega) (by have := hE2.size; simp; omega) ?_; intro v' w1 hown hgrow hnil'))
        exact ⟨⟨k + 1, by go_num, by omega, Ext.grown ((hE.trans hE2).alloc _) hgrow (fun j hj => Nat.le_trans hbw (hrow2.lt j hj).1), build_own hlt Ha.out hown⟩, by simp [intOf]; omega⟩
      · have hlt' : ¬ (k : Int) < (la.length : Int) := by omega
        have hke : k = la.length := by omega
        have hR := build_done hrow hke hla Hfita.out
        obtain ⟨Ao, co, rfl⟩ := own_form hrow
        have HRx := Lib.hid hR
        subst hke
        obtain ⟨W5, hW5⟩ : ∃ W5, W5 = wr := ⟨_, rfl⟩
        subst hW5
        have hE5 := hE1.trans hE
        have Hb5 := Lib.hid (RdW.ext Hb.out hE5)
        clear hrow hR hbw
        have hbw : W5.heap.size ≤ W5.heap.size := Nat.le_refl _
        go_wp2
        go_loopw [6, 8] (fun m i wr => BuildRel W5 W5.heap.size lb m i wr) (fun _ i _ => lb.length - (intOf i).toNat)
        case atStart => exact ⟨0, rfl, Nat.zero_le _, Ext.refl _, World.ownsRow_nil _ _ _ _⟩
        case round =>
          clear hE
          obtain ⟨k, rfl, hkn, hE, hrow⟩ := hrel
          by_cases hlt : k < lb.length
          · have hlt' : (k : Int) < (lb.length : Int) := by omega
            obtain ⟨b, o, c', e2, _, _, hcell⟩ := RdW.at_ (RdW.ext Hb5.out hE) (by intro e; rw [e] at hlt; simp at hlt)
            cases e2
            obtain ⟨d0, d1, d2, d3, d4, _⟩ := hcell k hlt
            obtain ⟨a, ha⟩ : ∃ a, lb[k] = a := ⟨_, rfl⟩
            rw [ha] at d0 d1 d2 d3 d4
            have HO := Of_any a wr
            rw [show a.val = .agg #[.string (B a.name), .string (B a.p), .string (B a.q), .int .i64 a.n, .int .i64 a.m] from rfl] at HO
            obtain ⟨i0, hi, hz0, hz1, hz2⟩ := info_parts info_act
            have Hrow := Lib.hid hrow
            have Ha := Lib.hid ha
            have hsz1 : W5.heap.size ≤ wr.heap.size := hE.size
            clear hcell hrow ha
            go_wp2_with (first
              | (go_at_call 23; refine HO.mono ?_; rintro e W2 ⟨rfl, hE2⟩; have hrow2 := own_ext Hrow.out hE2)
              | (at_builtin; refine wpList_append_own _ rfl _ _ 53 rfl W5.heap.size 48 i0 (.agg #[.string ⟨#[]⟩, .string ⟨#[]⟩, .string ⟨#[]⟩, .int .i64 0, .int .i64 0]) 5 64 Tryz.underlying53 hi hz0 hz1 hz2 rfl (by decide) _ _ _ rfl (hrow2.alloc _) ⟨W2.heap.size, 0, none⟩ 1 1 a.cells rfl rfl (World.news_of_block (cs := #[.string (B a.name), .string (B a.p), .string (B a.q), .int .i64 a.n, .int .i64 a.m]) (t := 48) (fr := (0, 0)) (heap_alloc_new W2 _)) (by simp [ActP.cells, Value.oneCell']) (by unfold maxLen; omega) (by omega) (by have := hE2.size; simp; omega) ?_; intro v' w1 hown hgrow hnil'))
            exact ⟨⟨k + 1, by go_num, by omega, Ext.grown ((hE.trans hE2).alloc _) hgrow (fun j hj => Nat.le_trans hbw (hrow2.lt j hj).1), build_own hlt Ha.out hown⟩, by simp [intOf]; omega⟩
          · have hlt' : ¬ (k : Int) < (lb.length : Int) := by omega
            have hke : k = lb.length := by omega
            have hR := build_done hrow hke hlb Hfitb.out
            obtain ⟨Bo, do_, rfl⟩ := own_form hrow
            have HRy := Lib.hid hR
            subst hke
            have hE6 := hE5.trans hE
            have HRx6 := Lib.hid (RdA.ext HRx.out hE)
            clear hrow hR
            have hLx := Lay_any _ la wr HRx6.out (by omega) (HV.out.ext hE6)
            cases hpa : layP la with
            | none =>
              have HL : Calls Tryz.prog 26 #[.slice Ao la.length co] wr fun e w' => ∃ a, e = .returned (.tuple #[.string ⟨#[]⟩, .iface 131 (.pointer (some ⟨a, 0, none⟩))]) ∧ ErrN w' 1 (.iface 131 (.pointer (some ⟨a, 0, none⟩))) 1 ∧ Ext wr w' := hLx.mono fun e w' h => by
                rw [LayAns, hpa] at h
                exact h
              have HL2 : ∀ w', Ext wr w' → Calls Tryz.prog 26 #[.slice Bo lb.length do_] w' fun e w'' => ∃ t f, e = .returned (.tuple #[.string t, f]) ∧ Ext w' w'' := fun w' h => Lay_some _ lb w' (RdA.ext HRy.out h) (by omega) (HV.out.ext (hE6.trans h))
              clear hLx hpa
              go_wp2_with (first
                | (go_at_call 26; with_reducible refine HL.mono ?_; rintro e V4 ⟨a, rfl, hEr, hF4⟩; have HL4 := HL2 V4 hF4)
                | (go_at_call 26; with_reducible refine HL4.mono ?_; rintro e V5 ⟨t, f, rfl, hF5⟩; have HC := code_scr (hEr.below hF5.below) (HV.out.ext (hE6.trans (hF4.trans hF5))))
                | (go_at_call 17; refine HC.mono ?_; rintro e V6 ⟨rfl, hF6⟩))
              go_ret
              exact ⟨rfl, hE6.trans (hF4.trans (hF5.trans hF6))⟩
            | some s =>
              have HL : Calls Tryz.prog 26 #[.slice Ao la.length co] wr fun e w' => e = .returned (.tuple #[.string (B s), .nilIface]) ∧ Ext wr w' := hLx.mono fun e w' h => by
                rw [LayAns, hpa] at h
                exact h
              have hLy := fun w' h => Lay_any _ lb w' (RdA.ext HRy.out h) (by omega) (HV.out.ext (hE6.trans h))
              have hsl := lay_len2 la s hpa
              cases hpb : layP lb with
              | none =>
                have HL2 : ∀ w', Ext wr w' → Calls Tryz.prog 26 #[.slice Bo lb.length do_] w' fun e w'' => ∃ a, e = .returned (.tuple #[.string ⟨#[]⟩, .iface 131 (.pointer (some ⟨a, 0, none⟩))]) ∧ ErrN w'' 1 (.iface 131 (.pointer (some ⟨a, 0, none⟩))) 1 ∧ Ext w' w'' := fun w' h => (hLy w' h).mono fun e w'' h => by
                  rw [LayAns, hpb] at h
                  exact h
                clear hLx hLy hpa hpb
                go_wp2_with (first
                  | (go_at_call 26; with_reducible refine HL.mono ?_; rintro e V4 ⟨rfl, hF4⟩; have HL4 := HL2 V4 hF4)
                  | (go_at_call 26; with_reducible refine HL4.mono ?_; rintro e V5 ⟨a, rfl, hEr, hF5⟩; have HC5 := Code_nil V5)
                  | (go_at_call 17; with_reducible refine HC5.mono ?_; rintro e V6 ⟨rfl, hF6⟩; have HC6 := code_scr (hEr.below hF6.below) (HV.out.ext (hE6.trans (hF4.trans (hF5.trans hF6)))))
                  | (go_at_call 17; with_reducible refine HC6.mono ?_; rintro e V7 ⟨rfl, hF7⟩))
                go_ret
                exact ⟨rfl, hE6.trans (hF4.trans (hF5.trans (hF6.trans hF7)))⟩
              | some t =>
                have HL2 : ∀ w', Ext wr w' → Calls Tryz.prog 26 #[.slice Bo lb.length do_] w' fun e w'' => e = .returned (.tuple #[.string (B t), .nilIface]) ∧ Ext w' w'' := fun w' h => (hLy w' h).mono fun e w'' h => by
                  rw [LayAns, hpb] at h
                  exact h
                have htl := lay_len2 lb t hpb
                have hbs : (B s).size ≤ 8520 := by rw [size_B]; omega
                have hbt : (B t).size ≤ 8520 := by rw [size_B]; omega
                have hTl : (B (s ++ t)).size ≤ 20000 := by rw [size_B, List.length_append]; omega
                have hact := lines_plain hpa hpb hla hlb
                have HR : ∀ w', Ext w w' → Calls Tryz.prog 25 #[.string (B s ++ B t)] w' fun e w'' => ∃ v, e = .returned (.tuple #[v, .int .i64 0, .nilIface]) ∧ RdA w'' v (la ++ lb) ∧ Ext w' w'' := fun w' h => by
                  rw [B_add]
                  exact (Read_any _ hTl w' (HV.out.ext h)).mono fun e w'' h => by
                    rw [ReadAns, toList_B, hact] at h
                    exact h
                clear hLx hLy hpa hpb hact hTl hsl htl
                go_wp2_with (first
                  | (go_at_call 26; with_reducible refine HL.mono ?_; rintro e V4 ⟨rfl, hF4⟩; have HL4 := HL2 V4 hF4)
                  | (go_at_call 26; with_reducible refine HL4.mono ?_; rintro e V5 ⟨rfl, hF5⟩; have HC5 := Code_nil V5)
                  | (go_at_call 17; with_reducible refine HC5.mono ?_; rintro e V6 ⟨rfl, hF6⟩; have HC6 := Code_nil V6)
                  | (go_at_call 17; with_reducible refine HC6.mono ?_; rintro e V7 ⟨rfl, hF7⟩; have HR7 := HR V7 (hE6.trans (hF4.trans (hF5.trans (hF6.trans hF7)))))
                  | (go_at_call 25; refine HR7.mono ?_; rintro e V8 ⟨v8, rfl, hR8, hF8⟩; obtain ⟨A8, c8, rfl, hc81, hc82, _⟩ := id hR8))
                have hF48 := hF4.trans (hF5.trans (hF6.trans (hF7.trans hF8)))
                have hE8 : Ext w V8 := hE6.trans hF48
                have hX8 := Lib.hid (RdA.ext HRx6.out hF48)
                have hY8 := Lib.hid (RdA.ext HRy.out hF48)
                have hZ8 := Lib.hid hR8
                obtain ⟨nz, hnz2⟩ : ∃ nz, la.length + lb.length = nz := ⟨_, rfl⟩
                have hnz : (la ++ lb).length = nz := by rw [List.length_append, hnz2]
                rw [hnz] at hc81
                rw [hnz2]
                have Hnz := Lib.hid hnz
                have Hnz2 := Lib.hid hnz2.symm
                have hnle : nz ≤ 120 := by omega
                clear hR8 hnz hnz2 HR HR7 HL HL2 HL4 HC5 HC6
                go_loopw [16] (fun i wr => ∃ j : Nat, i = .int .i64 j ∧ j ≤ nz ∧ Ext V8 wr) (fun i _ => nz - (intOf i).toNat)
                case atStart => exact ⟨0, rfl, Nat.zero_le _, Ext.refl _⟩
                case round =>
                  obtain ⟨j, rfl, hjn, hEj⟩ := hrel
                  by_cases hj : j < nz
                  · have hj' : (j : Int) < (nz : Int) := by omega
                    have hjz : j < (la ++ lb).length := by rw [Hnz.out]; exact hj
                    obtain ⟨bz, oz, cz, ez, _, _, hcz⟩ := RdA.at2 (RdA.ext hZ8.out hEj) (by intro e; rw [e] at hjz; simp at hjz)
                    cases ez
                    obtain ⟨z0, z1, z2, z3, z4, _⟩ := hcz j hjz
                    by_cases hja : j < la.length
                    · have hja' : (j : Int) < (la.length : Int) := by omega
                      have hjg : ¬ (la.length : Int) ≤ (j : Int) := by omega
                      obtain ⟨bx, ox, cx, ex, _, _, hcx⟩ := RdA.at2 (RdA.ext hX8.out hEj) (by intro e; rw [e] at hja; simp at hja)
                      cases ex
                      obtain ⟨x0, x1, x2, x3, x4, _⟩ := hcx j hja
                      rw [List.getElem_append_left hja] at z0 z1 z2 z3 z4
                      generalize la[j] = a at *
                      clear hcx hcz
                      go_upto_region 20 with (fail)
                      go_quiet (fail)
                      go_wp2
                      exact ⟨⟨j + 1, by go_num, by omega, hEj.drewN _⟩, by simp [intOf]; omega⟩
                    · obtain ⟨j', hj1⟩ : ∃ j', j = la.length + j' := ⟨j - la.length, by omega⟩
                      have hjb : j' < lb.length := by have := Hnz2.out; omega
                      obtain ⟨bx, ox, cx, ex, _, _, hcx⟩ := RdA.at2 (RdA.ext hY8.out hEj) (by intro e; rw [e] at hjb; simp at hjb)
                      cases ex
                      obtain ⟨x0, x1, x2, x3, x4, _⟩ := hcx j' hjb
                      have hel : (la ++ lb)[j]'hjz = lb[j'] := by
                        rw [List.getElem_append_right (by omega)]
                        simp [hj1]
                      rw [hel] at z0 z1 z2 z3 z4
                      generalize lb[j'] = a at *
                      have hja' : ¬ (j : Int) < (la.length : Int) := by omega
                      have hjg : (la.length : Int) ≤ (j : Int) := by omega
                      have hjs : (j : Int) - (la.length : Int) = (j' : Int) := by omega
                      have hjb' : (j' : Int) < (lb.length : Int) := by omega
                      have Hj1 := Lib.hid hj1
                      clear hcx hcz hj1
                      go_upto_region 20 with (fail)
                      go_quiet (fail)
                      go_wp2
                      exact ⟨⟨j + 1, by go_num, by omega, hEj.drewN _⟩, by simp [intOf]; omega⟩
                  · have hj' : ¬ (j : Int) < (nz : Int) := by omega
                    have HC := Code_nil wr
                    have hsum : (nz : Int) = (la.length : Int) + (lb.length : Int) := by have := Hnz2.out; omega
                    have hsum' : ((nz : Int) == (la.length : Int) + (lb.length : Int)) = true := by simp [hsum]
                    have Hs := Lib.hid hsum
                    clear hsum
                    go_wp2_with (go_at_call 17; refine HC.mono ?_; rintro e V9 ⟨rfl, hF9⟩)
                    go_ret
                    exact ⟨by first | rfl | (simp [Hs.out]; done), hE8.trans (hEj.trans hF9)⟩
end Go.Proofs.YtiomljaengonoaaGreatDoor
