/- script.number reads numbers. -/
import Derived.Test.YtiomljaengonoaaGreatDoorScrW
import Derived.Test.YtiomljaengonoaaGreatDoorBase
import Derived.Test.YtiomljaengonoaaGreatDoorShelf
import Derived.Lib.SmallJoins
import Derived.Lib.AtoiErrMem
import Derived.Lib.AppendIntMem
namespace Go.Proofs.YtiomljaengonoaaGreatDoor
open Go Go.RowKit Go.Shelf Go.Proofs

/-- The variables that reading and writing numbers looks at. -/
structure NumVars (w : World) : Prop where
  syn : ∃ te pe, w.cell? ⟨2, 0, none⟩ = some (.iface te pe)
  ran : ∃ te pe, w.cell? ⟨3, 0, none⟩ = some (.iface te pe)
  tab : Lib.TabIs Tryz.prog w "internal/strconv.uint64pow10" .u64 Lib.pow10Tab

theorem NumVars.ext {w w' : World} (h : NumVars w) (he : Ext w w') : NumVars w' := by
  obtain ⟨⟨a, b, h1⟩, ⟨c, d, h2⟩, h3⟩ := h
  exact ⟨⟨a, b, he.cell h1⟩, ⟨c, d, he.cell h2⟩, Joins.tab_stays (g := 6) (by kernel_rfl) h3 he (Nat.le_refl _)⟩

def ItoaPost (n : Int) (w : World) (e : Ending) (w' : World) : Prop := e = .returned (.string (B (Lib.itoa n))) ∧ Ext w w'

theorem itoa_any (n : Int) (h0 : -9223372036854775808 ≤ n) (h1 : n ≤ 9223372036854775807) (w : World) (hN : NumVars w) :
    Calls Tryz.prog 99 #[.int .i64 n] w (ItoaPost n w) := by
  refine (Tryz.strconv_Itoa n h0 h1 w hN.tab).mono ?_
  rintro e w' ⟨rfl, k, os, rfl⟩
  exact ⟨rfl, Lib.below_grow _ w (Nat.le_refl _) k os⟩

def NumPost (s : ByteArray) (w : World) (e : Ending) (w' : World) : Prop := ∃ v ok, e = .returned (.tuple #[.int .i64 v, .bool ok]) ∧ numP s.data.toList = (if ok = true then some v else none) ∧ Ext w w'

set_option maxHeartbeats 4000000 in
/-- script.number, for every text. -/
theorem number_any (s : ByteArray) (hs : s.size ≤ 140737488355328) (w : World) (hN : NumVars w) :
    Calls Tryz.prog 78 #[.string s] w (NumPost s w) := by
  rcases ha : Lib.atoiAll s.data.toList with v | _ | _
  · obtain ⟨b0, b1⟩ := Lib.atoiAll_bounds ha
    have HA := Tryz.strconv_Atoi_ok s (by omega) v ha w
    have HI := fun w' h => itoa_any v b0 b1 w' (hN.ext h)
    have HN : numP s.data.toList = if 0 ≤ v ∧ v ≤ 9999 ∧ Lib.itoa v = s.data.toList then some v else none := by rw [numP, ha]
    clear ha hN
    by_cases h0 : 0 ≤ v
    · by_cases h9 : v ≤ 9999
      · obtain ⟨ok, hok⟩ : ∃ ok, ((B (Lib.itoa v)).toList == s.toList) = ok := ⟨_, rfl⟩
        have Hok : Hid (numP s.data.toList = if ok = true then some v else none) := Lib.hid (by
          rw [HN, ← hok, ByteArray.toList_eq, ByteArray.toList_eq, toList_B]
          by_cases hq : Lib.itoa v = s.data.toList
          · rw [if_pos ⟨h0, h9, hq⟩, if_pos (by simpa using hq)]
          · rw [if_neg (fun h => hq h.2.2), if_neg (by simpa using hq)])
        clear HN
        go_enter Tryz.func78, Tryz.ntmps78
        go_wp2_with (first | (go_at_call 103; refine HA.mono ?_; rintro e W1 ⟨rfl, hW⟩; have hE1 : Ext w W1 := (by rcases hW with rfl | ⟨t, rfl⟩; exact Ext.refl _; exact Lib.bytesWorld_below _ _ _); clear hW) | (go_at_call 99; refine (HI _ (by assumption)).mono ?_; rintro e W2 ⟨rfl, hE2⟩))
        go_ret2
        exact ⟨v, ok, rfl, Hok.out, hE1.trans hE2⟩
      · have Hn : Hid (numP s.data.toList = none) := Lib.hid (by rw [HN, if_neg (fun h => h9 h.2.1)])
        clear HN HI
        go_enter Tryz.func78, Tryz.ntmps78
        go_wp2_with (go_at_call 103; refine HA.mono ?_; rintro e W1 ⟨rfl, hW⟩; have hE1 : Ext w W1 := (by rcases hW with rfl | ⟨t, rfl⟩; exact Ext.refl _; exact Lib.bytesWorld_below _ _ _); clear hW)
        go_ret2
        exact ⟨v, false, rfl, Hn.out, hE1⟩
    · have Hn : Hid (numP s.data.toList = none) := Lib.hid (by rw [HN, if_neg (fun h => h0 h.1)])
      clear HN HI
      go_enter Tryz.func78, Tryz.ntmps78
      go_wp2_with (go_at_call 103; refine HA.mono ?_; rintro e W1 ⟨rfl, hW⟩; have hE1 : Ext w W1 := (by rcases hW with rfl | ⟨t, rfl⟩; exact Ext.refl _; exact Lib.bytesWorld_below _ _ _); clear hW)
      go_ret2
      exact ⟨v, false, rfl, Hn.out, hE1⟩
  · obtain ⟨te, pe, hv⟩ := hN.syn
    have HA := Tryz.strconv_Atoi_syntax s (by omega) ha _ w hv (.inr ⟨te, pe, rfl⟩)
    have Hn : Hid (numP s.data.toList = none) := Lib.hid (by rw [numP, ha])
    clear ha hN hv
    go_enter Tryz.func78, Tryz.ntmps78
    go_wp2_with (go_at_call 103; refine HA.mono ?_; rintro e W1 ⟨N, rfl, _, _, hE1⟩)
    go_ret2
    exact ⟨0, false, rfl, Hn.out, hE1⟩
  · obtain ⟨te, pe, hv⟩ := hN.ran
    have HA := Tryz.strconv_Atoi_range s (by omega) ha _ w hv (.inr ⟨te, pe, rfl⟩)
    have Hn : Hid (numP s.data.toList = none) := Lib.hid (by rw [numP, ha])
    obtain ⟨sat, hsat⟩ : ∃ sat, Lib.atoiSat s.data.toList = sat := ⟨_, rfl⟩
    rw [hsat] at HA
    clear ha hN hv hsat
    go_enter Tryz.func78, Tryz.ntmps78
    go_wp2_with (go_at_call 103; refine HA.mono ?_; rintro e W1 ⟨N, rfl, _, _, hE1⟩)
    go_ret2
    exact ⟨sat, false, rfl, Hn.out, hE1⟩
end Go.Proofs.YtiomljaengonoaaGreatDoor
