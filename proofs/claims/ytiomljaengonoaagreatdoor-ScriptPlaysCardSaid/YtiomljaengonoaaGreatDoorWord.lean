/- script.word tells words. -/
import Derived.Test.YtiomljaengonoaaGreatDoorScrW
import Derived.Test.YtiomljaengonoaaGreatDoorBase
import Derived.Test.YtiomljaengonoaaGreatDoorShelf
import Derived.Lib.OthersKept
import Derived.Lib.TrimU
import Derived.Laws.RangeAny
import Derived.Deep.LoopGhost
namespace Go.Proofs.YtiomljaengonoaaGreatDoor
open Go Go.RowKit Go.Shelf Go.Proofs

theorem word1_any (r : Int) (w : World) :
    Calls Tryz.prog 105 #[.int .i32 r] w fun e w' => e = .returned (.bool (decide (r < 33) || decide (126 < r))) ∧ w' = w := by
  go_enter Tryz.func105, Tryz.ntmps105
  go_wp2
  all_goals go_ret
  all_goals simp_all
  all_goals omega

theorem bnot_flip {a b : Bool} (h : a = !b) : b = !a := by cases a <;> cases b <;> simp_all

/-- Where the first sign is that is not plain. -/
def IdxPost (s : ByteArray) (w : World) (e : Ending) (w' : World) : Prop := ∃ i : Int, e = .returned (.int .i64 i) ∧ -1 ≤ i ∧ i ≤ s.size ∧ decide (0 ≤ i) = !(s.data.toList.all plainB) ∧ Ext w w'

theorem all_take_succ (l : List UInt8) (k : Nat) (b : UInt8) (h : l[k]? = some b) : (l.take (k + 1)).all plainB = ((l.take k).all plainB && plainB b) := by
  rw [List.take_add_one, h]
  simp

set_option maxHeartbeats 4000000 in
set_option maxRecDepth 1000000 in
theorem word_idx (s : ByteArray) (hs : s.size ≤ 140737488355328) (w : World) :
    Calls Tryz.prog 167 #[.string s, .func (.func 105) #[] #[], .bool true] w (IdxPost s w) := by
  have e1 : ∀ args w, (callFunc 105 args).run Tryz.prog w = .ok (.enter 105 args) w := enters_of Tryz.func105 (by kernel_rfl) rfl
  go_enter Tryz.func167, Tryz.ntmps167
  go_wp2
  go_loopg [] s.size (fun g wx => ∃ pos : Nat, wx.heap[w.heap.size]? = some (.stringIter s pos) ∧ Ext w wx ∧ Hid ((s.data.toList.take pos).all plainB = true) ∧ s.size ≤ pos + g)
  case atStart => exact ⟨0, World.iter_heap w s 0, (Ext.refl w).alloc _, Lib.hid (by simp), by omega⟩
  case round =>
    obtain ⟨pos, hit, hbw, hall, hfu⟩ := hrel
    have hsz : w.heap.size < wr.heap.size := (Array.getElem?_eq_some_iff.1 hit).1
    by_cases hp : pos < s.size
    · obtain ⟨g, rfl⟩ : ∃ g, gk = g + 1 := ⟨gk - 1, by omega⟩
      have hnx : ∀ ty, (Instr.next (.pointer (some ⟨w.heap.size, 0, none⟩)) true ty).run Tryz.prog wr = _ := fun ty => Lib.run_next_any_at wr w.heap.size s pos ty hit hp
      have hwd := Lib.width_pos s pos
      have hr1 := Lib.rune_le s pos
      have hb : s.data.toList[pos]? = some (s[pos]'hp) := by
        rw [Array.getElem?_toList]
        exact Array.getElem?_eq_getElem hp
      have hkey : plainB (s[pos]'hp) = !(decide (((Utf8.decode s pos).1 : Int) < 33) || decide (126 < ((Utf8.decode s pos).1 : Int))) ∧ (plainB (s[pos]'hp) = true → (Utf8.decode s pos).2 = 1) := by
        by_cases ha : (s[pos]'hp).toNat < 128
        · rw [decode_ascii s pos hp ha]
          refine ⟨?_, fun _ => rfl⟩
          rw [plainB, Bool.eq_iff_iff]
          simp
          omega
        · have hh := decode_high s pos hp (by omega)
          have hf : plainB (s[pos]'hp) = false := by simp [plainB]; omega
          rw [hf]
          refine ⟨?_, fun h => by cases h⟩
          have : decide (126 < ((Utf8.decode s pos).1 : Int)) = true := by simp; omega
          rw [this]
          simp
      obtain ⟨R, hR⟩ : ∃ R, (Utf8.decode s pos).1 = R := ⟨_, rfl⟩
      obtain ⟨K, hK⟩ : ∃ K, (Utf8.decode s pos).2 = K := ⟨_, rfl⟩
      rw [hR, hK] at hnx hkey
      rw [hR] at hr1
      rw [hK] at hwd
      have hit2 := Lib.iterAt_heap wr w.heap.size s pos (pos + K) hit
      have hbw2 := Lib.below_iterAt hbw.below (k := w.heap.size) (Nat.le_refl _) s (pos + K)
      obtain ⟨W, hWd⟩ : ∃ W, wr.iterAt w.heap.size s (pos + K) = W := ⟨_, rfl⟩
      rw [hWd] at hnx hit2 hbw2
      have cS := word1_any (R : Int) W
      obtain ⟨hk1, hk2⟩ := hkey
      cases hpl : plainB (s[pos]'hp) with
      | true =>
        have hK1 := hk2 hpl
        rw [hpl] at hk1
        have hk3 : (decide ((R : Int) < 33) || decide (126 < (R : Int))) = false := bnot_flip hk1
        rw [hk3] at cS
        have Hx := Lib.hid (show (s.data.toList.take (pos + 1)).all plainB = true by rw [all_take_succ _ _ _ hb, hall.out, hpl]; rfl)
        clear hk1 hk2 hk3 hpl hb
        subst hK1
        go_wp2_with (go_at_fn 105; refine cS.mono ?_; rintro e W' ⟨rfl, rfl⟩)
        go_roundg g
        case measure => omega
        case rel => exact ⟨pos + 1, hit2, hbw2, Hx, by omega⟩
      | false =>
        rw [hpl] at hk1
        have hk3 : (decide ((R : Int) < 33) || decide (126 < (R : Int))) = true := bnot_flip hk1
        rw [hk3] at cS
        have Hx := Lib.hid (show s.data.toList.all plainB = false by
          rw [List.all_eq_false]
          exact ⟨_, List.mem_of_getElem? hb, by simp [hpl]⟩)
        clear hk1 hk2 hk3 hpl hb
        go_wp2_with (go_at_fn 105; refine cS.mono ?_; rintro e W' ⟨rfl, rfl⟩)
        go_ret
        exact ⟨_, rfl, by omega, by omega, by rw [Hx.out]; simp, hbw2⟩
    · have hnx : ∀ ty, (Instr.next (.pointer (some ⟨w.heap.size, 0, none⟩)) true ty).run Tryz.prog wr = _ := fun ty => Lib.run_next_end_at wr w.heap.size s pos ty hit hp
      have Hx := Lib.hid (show s.data.toList.all plainB = true by
        have h1 := hall.out
        rw [List.take_of_length_le (by rw [Array.length_toList]; exact (by omega : s.size ≤ pos))] at h1
        exact h1)
      go_wp2
      go_ret
      exact ⟨_, rfl, by omega, by omega, by rw [Hx.out]; rfl, hbw⟩

theorem wordP_eq (s : ByteArray) : wordP s.data.toList = (decide (1 ≤ s.size) && decide (s.size ≤ 64) && s.data.toList.all plainB) := by
  rw [wordP, Array.length_toList]
  rfl

def WordPost (s : ByteArray) (w : World) (e : Ending) (w' : World) : Prop := e = .returned (.bool (wordP s.data.toList)) ∧ Ext w w'

set_option maxHeartbeats 4000000 in
/-- script.word, for every text. -/
theorem word_any (s : ByteArray) (hs : s.size ≤ 140737488355328) (w : World) :
    Calls Tryz.prog 79 #[.string s] w (WordPost s w) := by
  have HI := fun w => word_idx s hs w
  have HW := wordP_eq s
  by_cases h1 : 1 ≤ s.size
  · have h1' : (1 : Int) ≤ (s.size : Int) := by omega
    by_cases h64 : s.size ≤ 64
    · have h64' : (s.size : Int) ≤ 64 := by omega
      have Hw : Hid (wordP s.data.toList = s.data.toList.all plainB) := Lib.hid (by rw [HW]; simp [h1, h64])
      clear HW
      go_enter Tryz.func79, Tryz.ntmps79
      go_wp2_with (first | (go_at_call 167; refine (HI _).mono ?_; rintro e W1 ⟨i, rfl, hi1, hi2, hi3, hE⟩; have Hi3 := Lib.hid hi3; clear hi3) | go_in)
      all_goals go_ret
      all_goals refine ⟨?_, hE⟩
      all_goals rw [Hw.out]
      all_goals have h3 := bnot_flip Hi3.out
      all_goals rw [h3]
      all_goals rfl
    · have h64' : ¬ (s.size : Int) ≤ 64 := by omega
      have Hw : Hid (wordP s.data.toList = false) := Lib.hid (by rw [HW]; simp [h64])
      clear HW
      go_enter Tryz.func79, Tryz.ntmps79
      go_wp2
      go_ret
      exact ⟨by rw [Hw.out]; rfl, Ext.refl _⟩
  · have h1' : ¬ (1 : Int) ≤ (s.size : Int) := by omega
    have Hw : Hid (wordP s.data.toList = false) := Lib.hid (by rw [HW]; simp [h1])
    clear HW
    go_enter Tryz.func79, Tryz.ntmps79
    go_wp2
    go_ret
    exact ⟨by rw [Hw.out]; rfl, Ext.refl _⟩
end Go.Proofs.YtiomljaengonoaaGreatDoor
