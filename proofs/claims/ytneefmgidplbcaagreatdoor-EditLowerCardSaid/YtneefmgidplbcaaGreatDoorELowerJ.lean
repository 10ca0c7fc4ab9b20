/- shalelaw14.EditLower is true: for every list of ops. -/
import Derived.Test.YtneefmgidplbcaaGreatDoorJE8
namespace Go.Proofs.YtneefmgidplbcaaGreatDoor
open Go Go.RowKit Go.Shelf Go.Proofs Go.Maps

def LowRel (n : Nat) (w : World) (v3 v4 : Value) (wr : World) : Prop := ∃ (k : Nat) (up : List Ent), v4 = .int .i64 k ∧ k ≤ n ∧ Hid (layerOk up = true ∧ noWhite up) ∧ Hid (RdE wr v3 up) ∧ Ext w wr
theorem low_next {n k : Nat} {w wr : World} {v3 : Value} {up : List Ent} (hlt : k < n) (ht : layerOk up = true ∧ noWhite up) (hv : RdE wr v3 up) (hE : Ext w wr) :
    LowRel n w v3 (.int .i64 ((k : Int) + 1)) wr ∧ n - (intOf (.int .i64 ((k : Int) + 1))).toNat < n - (intOf (.int .i64 (k : Int))).toNat :=
  ⟨⟨k + 1, up, by simp, by omega, Lib.hid ht, Lib.hid hv, hE⟩, by simp [intOf]; omega⟩

theorem low_step {up u : List Ent} {x : OpT} (h : layerOk up = true ∧ noWhite up) (hd : doE [] up x = .ok u) : layerOk u = true ∧ noWhite u := by
  rw [doE] at hd
  split at hd
  · rename_i hr
    obtain ⟨h1, h2, _⟩ := rightOp_iff.1 hr
    split at hd
    · split at hd
      · cases hd
      · rename_i t' ht
        split at hd
        · rename_i hok
          cases hd
          exact ⟨hok, lower_keep h.1 h.2 (by omega) ht⟩
        · cases hd
    · cases hd
  · cases hd

set_option maxRecDepth 100000 in
set_option maxHeartbeats 16000000 in
theorem EditLower_any (u : Value) (l : List OpT) (w : World) (hL : Laid w) (hu : RdO w u l) :
    Calls Tryz.prog 4 #[u] w fun e w' => e = .returned (.bool true) ∧ Ext w w' := by
  have HL := Lib.hid hL
  obtain ⟨n, hn⟩ : ∃ n, n = l.length := ⟨_, rfl⟩
  have Hn := Lib.hid hn
  obtain ⟨A2, c2, rfl, hd1, hd2, Hcell⟩ := rdO_form hu hn
  clear hL hu hn
  by_cases h25 : n ≤ 25
  · have h25' : ¬ ((25 : Int) < (n : Int)) := by omega
    go_enter Tryz.func4, Tryz.ntmps4
    go_wp2_with (go_at_call 21; refine (EAwake_any _).mono ?_; rintro e W1 ⟨rfl, hE1⟩)
    go_loopw [3, 4] (fun v3 v4 wr => LowRel n w v3 v4 wr) (fun _ i _ => n - (intOf i).toNat)
    case atStart => exact ⟨0, [], rfl, Nat.zero_le _, Lib.hid ⟨by decide, fun x hx => by simp at hx⟩, Lib.hid (Rd.nil _ _ _), hE1⟩
    case round =>
      obtain ⟨k, up, rfl, hkn, hok, hr, hE⟩ := hrel
      obtain ⟨A0, c0, rfl, _, _, _⟩ := rdE_form hr.out rfl
      clear hE1
      by_cases hlt : k < n
      · have hh : k < l.length := by have := Hn.out; omega
        obtain ⟨b, o, rfl, hcell⟩ := Hcell.out (List.ne_nil_of_length_pos (by omega))
        obtain ⟨q0, q1, q2, q3, q4, hf⟩ := hcell k hh
        obtain ⟨x, hx⟩ : ∃ x, l[k]'hh = x := ⟨_, rfl⟩
        rw [hx] at q0 q1 q2 q3 q4 hf
        have g0 := hE.cell q0
        have g1 := hE.cell q1
        have g2 := hE.cell q2
        have g3 := hE.cell q3
        have g4 := hE.cell q4
        have HX := fun w => OFew_any x w
        clear q0 q1 q2 q3 q4 hx hcell
        rcases hs : opSmall x with _ | _
        · rw [hs] at HX
          clear hs
          go_wp2_with (go_at_call 22; refine (HX _).mono ?_; rintro e W4 ⟨rfl, hE4⟩)
          go_ret
          exact ⟨rfl, hE.trans hE4⟩
        · rw [hs] at HX
          clear hs
          go_wp2_with (first | (go_at_call 22; refine (HX _).mono ?_; rintro e W4 ⟨rfl, hE4⟩; have g0' := hE4.cell g0; have g1' := hE4.cell g1; have g2' := hE4.cell g2; have g3' := hE4.cell g3; have g4' := hE4.cell g4) | (go_at_call 24; refine (EOf_any x _).mono ?_; rintro e W5 ⟨rfl, hE5⟩) | fail)
          have hE6 : Ext w W5 := (hE.trans hE4).trans hE5
          have hr6 := Lib.hid (hr.out.ext (hE4.trans hE5))
          rcases hdo : doE [] up x with cc | u2
          · have hc0 : (cc == 0) = false := by simpa using doE_code hdo
            have HD := EdDo_bad (v := .slice none 0 0) hdo hf (by decide) W5 (Rd.nil _ _ _) hr6.out
            clear hdo HX
            refine HD.mono ?_
            rintro e W7 ⟨v7, n7, rfl, hEr, hE7⟩
            have hE8 := hE6.trans hE7
            go_wp2_with (go_at_call 12; refine (Code_err _ _ _ _ hEr (HL.out.ext hE8)).mono ?_; rintro e W9 ⟨rfl, hE9⟩)
            exact low_next hlt hok.out (hr6.out.ext (hE7.trans hE9)) (hE8.trans hE9)
          · have hok2 := Lib.hid (low_step hok.out hdo)
            have HD := EdDo_ok (v := .slice none 0 0) hdo hf (by decide) W5 (Rd.nil _ _ _) hr6.out
            clear hdo HX
            refine HD.mono ?_
            rintro e W7 ⟨v7, rfl, hr7, hE7⟩
            have hE8 := hE6.trans hE7
            have Hr7 := Lib.hid hr7
            clear hr7
            go_wp2_with (go_at_call 12; (with_reducible refine (Code_nil _).mono ?_); rintro e W9 ⟨rfl, hE9⟩)
            exact low_next hlt hok2.out (Hr7.out.ext hE9) (hE8.trans hE9)
      · have HT := Tree_any _ up _ hr.out
        rw [tree_layer hok.out.1 hok.out.2] at HT
        have HR := fun W (he : Ext wr W) => LRight_any _ up W (hr.out.ext he)
        rw [hok.out.1] at HR
        go_wp2_with (first | (go_at_call 25; refine HT.mono ?_; rintro e W10 ⟨rfl, hE10⟩) | (go_at_call 26; refine (HR _ hE10).mono ?_; rintro e W11 ⟨rfl, hE11⟩))
        go_ret
        exact ⟨rfl, hE.trans (hE10.trans hE11)⟩
  · have h25' : (25 : Int) < (n : Int) := by omega
    go_enter Tryz.func4, Tryz.ntmps4
    go_wp2_with (go_at_call 21; refine (EAwake_any _).mono ?_; rintro e W1 ⟨rfl, hE1⟩)
    go_ret
    exact ⟨rfl, by exact (by repeat (first | exact Ext.refl _ | assumption | refine Ext.alloc ?_ _ | refine Ext.drew ?_ | refine Ext.drewN ?_ _ | refine Ext.setCell ?_ (by first | omega | (simp; done) | (simp; omega)) _ | refine Ext.trans ?_ (by assumption)))⟩
end Go.Proofs.YtneefmgidplbcaaGreatDoor
