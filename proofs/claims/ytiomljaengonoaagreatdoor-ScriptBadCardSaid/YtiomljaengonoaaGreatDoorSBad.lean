/- ScriptBad: behind right acts the first line that is none is told. -/
import Derived.Test.YtiomljaengonoaaGreatDoorScrBuild
namespace Go.Proofs.YtiomljaengonoaaGreatDoor
open Go Go.RowKit Go.Shelf Go.Proofs Go.Maps

theorem bad_exp (s wl : List UInt8) : B s ++ B [63] ++ B wl ++ B [10] ++ B s = B (s ++ 63 :: (wl ++ 10 :: s)) := by
  rw [B_add, B_add, B_add, B_add]
  congr 1
  simp

set_option maxRecDepth 100000 in
set_option maxHeartbeats 8000000 in
theorem SBad_any (v : Value) (l : List ActP) (word : ByteArray) (w : World) (hv : RdW w v l) (hV : ScrVars w) :
    Calls Tryz.prog 8 #[v, .string word] w fun e w' => e = .returned (.bool true) ∧ Ext w w' := by
  have HA := fun w' h => awakeS_any w' (hV.ext h)
  have HF := fun w' h => few_any v l w' (RdW.ext hv h)
  have HV := Lib.hid hV
  have Hv := Lib.hid hv
  clear hV
  obtain ⟨A, c, rfl, hc1, hc2, hlm, _⟩ := hv
  have HA0 := HA w (Ext.refl _)
  by_cases hfew : fewP l = true ∧ word.size ≤ 50
  · obtain ⟨hfew, hwd⟩ := hfew
    have hwd' : ¬ (50 : Int) < (word.size : Int) := by omega
    rw [hfew] at HF
    obtain ⟨hl60, hfit⟩ := few_fits Hv.out hfew
    have Hfit := Lib.hid hfit
    clear hfew hfit
    go_enter Tryz.func8, Tryz.ntmps8
    go_upto_region 3 with (first
      | (go_at_call 20; refine HA0.mono ?_; rintro e W1 ⟨rfl, hE1⟩; have HF1 := HF W1 hE1)
      | (go_at_call 21; refine HF1.mono ?_; rintro e W3 ⟨rfl, rfl⟩))
    clear HF HF1 HA HA0
    have hbz : Nat.le W3.heap.size W3.heap.size := Nat.le_refl _
    have hbw : w.heap.size ≤ W3.heap.size := hE1.size
    go_wp2
    go_loopw [5, 6] (fun m i wr => BuildRel w W3.heap.size l m i wr ∧ W3.heap.size ≤ wr.heap.size) (fun _ i _ => l.length - (intOf i).toNat)
    case atStart => exact ⟨⟨0, rfl, Nat.zero_le _, hE1, World.ownsRow_nil _ _ _ _⟩, Nat.le_refl _⟩
    case round =>
      obtain ⟨hrel, hsz0⟩ := hrel
      obtain ⟨k, rfl, hkn, hE, hrow⟩ := hrel
      by_cases hlt : k < l.length
      · have hlt' : (k : Int) < (l.length : Int) := by omega
        obtain ⟨b, o, c', e2, _, _, hcell⟩ := RdW.at_ (RdW.ext Hv.out hE) (by intro e; rw [e] at hlt; simp at hlt)
        cases e2
        obtain ⟨d0, d1, d2, d3, d4, _⟩ := hcell k hlt
        obtain ⟨a, ha⟩ : ∃ a, l[k] = a := ⟨_, rfl⟩
        rw [ha] at d0 d1 d2 d3 d4
        have HO := Of_any a wr
        rw [show a.val = .agg #[.string (B a.name), .string (B a.p), .string (B a.q), .int .i64 a.n, .int .i64 a.m] from rfl] at HO
        obtain ⟨i0, hi, hz0, hz1, hz2⟩ := info_parts info_act
        have Hrow := Lib.hid hrow
        have Ha := Lib.hid ha
        have hsz1 : W3.heap.size ≤ wr.heap.size := hsz0
        clear hcell hrow ha
        go_wp2_with (first
          | (go_at_call 23; refine HO.mono ?_; rintro e W2 ⟨rfl, hE2⟩; have hrow2 := own_ext Hrow.out hE2)
          | (at_builtin; refine wpList_append_own _ rfl _ _ 53 rfl W3.heap.size 48 i0 (.agg #[.string ⟨#[]⟩, .string ⟨#[]⟩, .string ⟨#[]⟩, .int .i64 0, .int .i64 0]) 5 64 Tryz.underlying53 hi hz0 hz1 hz2 rfl (by decide) _ _ _ rfl (hrow2.alloc _) ⟨W2.heap.size, 0, none⟩ 1 1 a.cells rfl rfl (World.news_of_block (cs := #[.string (B a.name), .string (B a.p), .string (B a.q), .int .i64 a.n, .int .i64 a.m]) (t := 48) (fr := (0, 0)) (heap_alloc_new W2 _)) (by simp [ActP.cells, Value.oneCell']) (by unfold maxLen; omega) (by omega) (by have := hE2.size; simp; omega) ?_; intro v' w1 hown hgrow hnil'))
        exact ⟨⟨⟨k + 1, by go_num, by omega, Ext.grown ((hE.trans hE2).alloc _) hgrow (fun j hj => Nat.le_trans hbw (hrow2.lt j hj).1), build_own hlt Ha.out hown⟩, Nat.le_trans hsz0 (Nat.le_trans hE2.size (Nat.le_trans (by simp) hgrow.size))⟩, by simp [intOf]; omega⟩
      · have hlt' : ¬ (k : Int) < (l.length : Int) := by omega
        have hke : k = l.length := by omega
        have hR := build_done hrow hke hl60 Hfit.out
        obtain ⟨Ao, co, rfl⟩ := own_form hrow
        have hLay := Lay_any _ l wr hR (by omega) (HV.out.ext hE)
        subst hke
        clear hrow hR
        cases hlp : layP l with
        | none =>
          have HL : Calls Tryz.prog 26 #[.slice Ao l.length co] wr fun e w' => ∃ a, e = .returned (.tuple #[.string ⟨#[]⟩, .iface 131 (.pointer (some ⟨a, 0, none⟩))]) ∧ ErrN w' 1 (.iface 131 (.pointer (some ⟨a, 0, none⟩))) 1 ∧ Ext wr w' := hLay.mono fun e w' h => by
            rw [LayAns, hlp] at h
            exact h
          clear hLay hlp
          go_wp2_with (first
            | (go_at_call 26; refine HL.mono ?_; rintro e W4 ⟨a, rfl, hEr, hE4⟩; have HC := code_scr hEr (HV.out.ext (hE.trans hE4)))
            | (go_at_call 17; refine HC.mono ?_; rintro e W5 ⟨rfl, hE5⟩))
          go_ret
          exact ⟨rfl, hE.trans (hE4.trans hE5)⟩
        | some s =>
          have HL : Calls Tryz.prog 26 #[.slice Ao l.length co] wr fun e w' => e = .returned (.tuple #[.string (B s), .nilIface]) ∧ Ext wr w' := hLay.mono fun e w' h => by
            rw [LayAns, hlp] at h
            exact h
          have hsl := lay_len2 l s hlp
          have hbs : (B s).size ≤ 8520 := by rw [size_B]; omega
          have hexp : B s ++ (⟨#[63]⟩ : ByteArray) ++ word ++ (⟨#[10]⟩ : ByteArray) ++ B s = B (s ++ 63 :: (word.data.toList ++ 10 :: s)) := bad_exp s word.data.toList
          have hTl : (B (s ++ 63 :: (word.data.toList ++ 10 :: s))).size ≤ 20000 := by
            rw [size_B]
            have h4 : word.data.toList.length = word.size := Array.length_toList
            simp
            omega
          have hact := bad_plain (r := word.data.toList ++ 10 :: s) hlp hl60
          have HR : ∀ w', Ext w w' → Calls Tryz.prog 25 #[.string (B s ++ (⟨#[63]⟩ : ByteArray) ++ word ++ (⟨#[10]⟩ : ByteArray) ++ B s)] w' fun e w'' => ∃ a, e = .returned (.tuple #[.slice none 0 0, .int .i64 (l.length + 1), .iface 131 (.pointer (some ⟨a, 0, none⟩))]) ∧ ErrN w'' 1 (.iface 131 (.pointer (some ⟨a, 0, none⟩))) 13 ∧ Ext w' w'' := fun w' h => by
            rw [hexp]
            exact (Read_any _ hTl w' (HV.out.ext h)).mono fun e w'' h => by
              rw [ReadAns, toList_B, hact] at h
              exact h
          clear hLay hlp hexp hact hTl hsl
          go_wp2_with (first
            | (go_at_call 26; refine HL.mono ?_; rintro e W4 ⟨rfl, hE4⟩; have HC := Code_nil W4)
            | (go_at_call 17; with_reducible refine HC.mono ?_; rintro e W5 ⟨rfl, hE5⟩; have HR5 := HR W5 (hE.trans (hE4.trans hE5)))
            | (go_at_call 25; refine HR5.mono ?_; rintro e W6 ⟨a, rfl, hEr, hE6⟩; have HC6 := code_scr hEr (HV.out.ext (hE.trans (hE4.trans (hE5.trans hE6)))))
            | (go_at_call 17; with_reducible refine HC6.mono ?_; rintro e W7 ⟨rfl, hE7⟩))
          go_ret
          exact ⟨rfl, hE.trans (hE4.trans (hE5.trans (hE6.trans hE7)))⟩
  · have hHF : (fewP l = false) ∨ (fewP l = true ∧ ¬ word.size ≤ 50) := by
      by_cases h : fewP l = true
      · exact .inr ⟨h, fun h2 => hfew ⟨h, h2⟩⟩
      · exact .inl (by simpa using h)
    clear hfew
    rcases hHF with hff | ⟨hff, hwd⟩
    · rw [hff] at HF
      go_enter Tryz.func8, Tryz.ntmps8
      go_upto_region 2 with (first
        | (go_at_call 20; refine HA0.mono ?_; rintro e W1 ⟨rfl, hE1⟩; have HF1 := HF W1 hE1)
        | (go_at_call 21; refine HF1.mono ?_; rintro e W3 ⟨rfl, rfl⟩))
      have HA3 := HA _ hE1
      go_wp2_with (go_at_call 20; refine HA3.mono ?_; rintro e W9 ⟨rfl, hE9⟩)
      go_ret
      exact ⟨rfl, hE1.trans hE9⟩
    · have hwd' : (50 : Int) < (word.size : Int) := by omega
      rw [hff] at HF
      go_enter Tryz.func8, Tryz.ntmps8
      go_upto_region 2 with (first
        | (go_at_call 20; refine HA0.mono ?_; rintro e W1 ⟨rfl, hE1⟩; have HF1 := HF W1 hE1)
        | (go_at_call 21; refine HF1.mono ?_; rintro e W3 ⟨rfl, rfl⟩))
      have HA3 := HA _ hE1
      go_wp2_with (go_at_call 20; refine HA3.mono ?_; rintro e W9 ⟨rfl, hE9⟩)
      go_ret
      exact ⟨rfl, hE1.trans hE9⟩
end Go.Proofs.YtiomljaengonoaaGreatDoor
