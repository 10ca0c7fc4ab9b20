/- The document's Word and Dec. -/
import Derived.Test.YtiomljaengonoaaGreatDoorScrAwake
import Derived.Test.YtiomljaengonoaaGreatDoorScrLay
import Derived.Test.YtiomljaengonoaaGreatDoorWord
namespace Go.Proofs.YtiomljaengonoaaGreatDoor
open Go Go.RowKit Go.Shelf Go.Proofs Go.Maps

theorem emp_eq {s : List UInt8} (h : s = []) : (B s).toList.isEmpty = true := by subst h; simp [B]
theorem emp_ne {s : List UInt8} (h : ¬ s = []) : (B s).toList.isEmpty = false := by
  rw [ByteArray.toList_eq, toList_B]
  simpa using h

set_option maxHeartbeats 4000000 in
theorem Word_ref (s : ByteArray) (hs : s.size ≤ 140737488355328) (w : World) :
    Calls Tryz.prog 50 #[.string s] w fun e w' => e = .returned (.bool (wordP s.data.toList)) ∧ w' = w := by
  have HW := Lib.hid (wordP_eq s)
  go_enter Tryz.func50, Tryz.ntmps50
  go_wp2
  go_loop [3] (fun i => ∃ k : Nat, i = .int .i64 k ∧ k ≤ s.size ∧ Hid ((s.data.toList.take k).all plainB = true)) (fun i => s.size - (intOf i).toNat)
  case atStart => exact ⟨0, rfl, Nat.zero_le _, Lib.hid (by simp)⟩
  case round =>
    obtain ⟨k, rfl, hks, hall⟩ := hrel
    by_cases hlt : k < s.size
    · have hlt' : (k : Int) < (s.size : Int) := by omega
      have hb : s.data.toList[k]? = some (s[k]'hlt) := by
        rw [Array.getElem?_toList]
        exact Array.getElem?_eq_getElem hlt
      have hnext := all_take_succ s.data.toList k _ hb
      rw [hall.out, Bool.true_and] at hnext
      have hmem := List.mem_of_getElem? hb
      by_cases hp : plainB (s[k]'hlt) = true
      · have h1 : ¬ (((s[k]'hlt).toNat : Nat) : Int) < 33 := by simp [plainB] at hp; omega
        have h2 : ¬ (126 : Int) < (((s[k]'hlt).toNat : Nat) : Int) := by simp [plainB] at hp; omega
        have Hn := Lib.hid (hnext.trans hp)
        clear hb hnext hp hmem
        go_wp2
        exact ⟨⟨k + 1, by go_num, by omega, Hn⟩, by simp [intOf]; omega⟩
      · have hf : Hid (wordP s.data.toList = false) := Lib.hid (by
          rw [HW.out]
          have : s.data.toList.all plainB = false := List.all_eq_false.2 ⟨_, hmem, hp⟩
          rw [this, Bool.and_false])
        have h12 : (((s[k]'hlt).toNat : Nat) : Int) < 33 ∨ (126 : Int) < (((s[k]'hlt).toNat : Nat) : Int) := by simp [plainB] at hp; omega
        clear hb hnext hp hmem
        by_cases h1 : (((s[k]'hlt).toNat : Nat) : Int) < 33
        · clear h12
          go_wp2
          go_ret
          exact ⟨by rw [hf.out]; rfl, rfl⟩
        · have h2 : (126 : Int) < (((s[k]'hlt).toNat : Nat) : Int) := by omega
          clear h12
          go_wp2
          go_ret
          exact ⟨by rw [hf.out]; rfl, rfl⟩
    · have hlt' : ¬ (k : Int) < (s.size : Int) := by omega
      have hall2 : s.data.toList.all plainB = true := by
        have h := hall.out
        rw [List.take_of_length_le (by rw [Array.length_toList]; exact (by omega : s.size ≤ k))] at h
        exact h
      have hw : Hid (wordP s.data.toList = (decide (1 ≤ s.size) && decide (s.size ≤ 64))) := Lib.hid (by rw [HW.out, hall2, Bool.and_true])
      clear hall2
      by_cases h1 : 1 ≤ s.size
      · have h1' : (1 : Int) ≤ (s.size : Int) := by omega
        by_cases h2 : s.size ≤ 64
        · have h2' : (s.size : Int) ≤ 64 := by omega
          go_wp2
          go_ret
          exact ⟨by rw [hw.out]; simp [h1, h2], rfl⟩
        · have h2' : ¬ (s.size : Int) ≤ 64 := by omega
          go_wp2
          go_ret
          exact ⟨by rw [hw.out]; simp [h1, h2], rfl⟩
      · have h1' : ¬ (1 : Int) ≤ (s.size : Int) := by omega
        go_wp2
        go_ret
        exact ⟨by rw [hw.out]; simp [h1], rfl⟩
end Go.Proofs.YtiomljaengonoaaGreatDoor
