/- ScriptOnly: acts that are read are laid as they stand there. -/
import Derived.Test.YtiomljaengonoaaGreatDoorScrLay
import Derived.Test.YtiomljaengonoaaGreatDoorScrAwake
namespace Go.Proofs.YtiomljaengonoaaGreatDoor
open Go Go.RowKit Go.Shelf Go.Proofs Go.Maps

theorem only_plain {s : List UInt8} {l : List ActP} (h : actsGo 0 (linesP s) = .ok l) : layP l = some s ∧ l.length ≤ 200 := by
  obtain ⟨h1, h2, h3⟩ := acts_lay 0 _ l (by omega) h
  rw [lines_flat] at h1
  exact ⟨h1, by omega⟩

theorem only_err : ∀ (xs : List (List UInt8)) (k n : Nat), actsGo k xs = .error n → k + 1 ≤ n ∧ n ≤ k + xs.length
  | [], k, n, h => by simp [actsGo] at h
  | x :: xs, k, n, h => by
    simp only [actsGo] at h
    split at h
    · cases h; simp
    · split at h
      · cases h; simp
      · split at h
        · rename_i m hm
          cases h
          have := only_err xs (k + 1) n hm
          simp
          omega
        · cases h

set_option maxHeartbeats 4000000 in
theorem SOnly_any (s : ByteArray) (w : World) (hV : ScrVars w) :
    Calls Tryz.prog 6 #[.string s] w fun e w' => e = .returned (.bool true) ∧ Ext w w' := by
  have HA := fun w' h => awakeS_any w' (hV.ext h)
  have HV := Lib.hid hV
  clear hV
  by_cases hs : s.size ≤ 3000
  · have hs' : ¬ (3000 : Int) < (s.size : Int) := by omega
    cases hr : actsGo 0 (linesP s.data.toList) with
    | error n =>
      have HR : ∀ w', Ext w w' → Calls Tryz.prog 25 #[.string s] w' fun e w'' => ∃ a, e = .returned (.tuple #[.slice none 0 0, .int .i64 n, .iface 131 (.pointer (some ⟨a, 0, none⟩))]) ∧ ErrN w'' 1 (.iface 131 (.pointer (some ⟨a, 0, none⟩))) 13 ∧ Ext w' w'' :=
        fun w' h => (Read_any s (by omega) w' (HV.out.ext h)).mono fun e w'' h => by
          rw [ReadAns, hr] at h
          exact h
      have hn1 : (1 : Int) ≤ (n : Int) := by have := (only_err _ 0 n hr).1; omega
      clear hr
      go_enter Tryz.func6, Tryz.ntmps6
      go_wp2_with (first
        | (go_at_call 20; refine (HA _ (Ext.refl _)).mono ?_; rintro e W1 ⟨rfl, hE1⟩)
        | (go_at_call 25; refine (HR _ hE1).mono ?_; rintro e W2 ⟨a, rfl, hEr, hE2⟩; have HC0 := code_scr hEr (HV.out.ext (hE1.trans hE2)))
        | (go_at_call 17; with_reducible refine HC0.mono ?_; rintro e W3 ⟨rfl, hE3⟩; have HC1 := code_scr (hEr.below hE3.below) (HV.out.ext (hE1.trans (hE2.trans hE3))))
        | (go_at_call 17; with_reducible refine HC1.mono ?_; rintro e W4 ⟨rfl, hE4⟩))
      go_ret
      exact ⟨rfl, hE1.trans (hE2.trans (hE3.trans hE4))⟩
    | ok l =>
      have HR : ∀ w', Ext w w' → Calls Tryz.prog 25 #[.string s] w' fun e w'' => ∃ v, e = .returned (.tuple #[v, .int .i64 0, .nilIface]) ∧ RdA w'' v l ∧ Ext w' w'' :=
        fun w' h => (Read_any s (by omega) w' (HV.out.ext h)).mono fun e w'' h => by
          rw [ReadAns, hr] at h
          exact h
      obtain ⟨hl1, hl2⟩ := only_plain hr
      have HL : ∀ v w', RdA w' v l → Ext w w' → Calls Tryz.prog 26 #[v] w' fun e w'' => e = .returned (.tuple #[.string s, .nilIface]) ∧ Ext w' w'' :=
        fun v w' h he => (Lay_any v l w' h hl2 (HV.out.ext he)).mono fun e w'' h => by
          rw [LayAns, hl1] at h
          exact h
      have hq : (s.toList == s.toList) = true := by simp
      clear hr hl1
      go_enter Tryz.func6, Tryz.ntmps6
      go_wp2_with (first
        | (go_at_call 20; refine (HA _ (Ext.refl _)).mono ?_; rintro e W1 ⟨rfl, hE1⟩)
        | (go_at_call 25; refine (HR _ hE1).mono ?_; rintro e W2 ⟨v, rfl, hR2, hE2⟩; have hN0 := Code_nil W2)
        | (go_at_call 17; with_reducible refine hN0.mono ?_; rintro e W3 ⟨rfl, hE3⟩; have hL3 := HL _ _ (RdA.ext hR2 hE3) (hE1.trans (hE2.trans hE3)))
        | (go_at_call 26; refine hL3.mono ?_; rintro e W4 ⟨rfl, hE4⟩; have hN1 := Code_nil W4)
        | (go_at_call 17; with_reducible refine hN1.mono ?_; rintro e W5 ⟨rfl, hE5⟩))
      go_ret
      exact ⟨rfl, hE1.trans (hE2.trans (hE3.trans (hE4.trans hE5)))⟩
  · have hs' : (3000 : Int) < (s.size : Int) := by omega
    go_enter Tryz.func6, Tryz.ntmps6
    have HA0 := HA w (Ext.refl _)
    go_wp2_with (first
        | (go_at_call 20; with_reducible refine HA0.mono ?_; rintro e W1 ⟨rfl, hE1⟩; have HA1 := HA W1 hE1)
        | (go_at_call 20; with_reducible refine HA1.mono ?_; rintro e W2 ⟨rfl, hE2⟩))
    go_ret
    exact ⟨rfl, hE1.trans hE2⟩
end Go.Proofs.YtiomljaengonoaaGreatDoor
