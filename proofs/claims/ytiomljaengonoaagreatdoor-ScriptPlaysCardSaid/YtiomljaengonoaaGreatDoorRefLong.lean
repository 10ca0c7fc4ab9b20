/- script.Read of a text that is too long; the text of 20001 zero bytes. -/
import Derived.Test.YtiomljaengonoaaGreatDoorScrRead
import Derived.Laws.BytesArg
import Derived.Laws.OwnMore
namespace Go.Proofs.YtiomljaengonoaaGreatDoor
open Go Go.RowKit Go.Shelf Go.Proofs Go.Maps

set_option maxHeartbeats 4000000 in
theorem Read_long (s : ByteArray) (hs : 20000 < s.size) (w : World) :
    Calls Tryz.prog 25 #[.string s] w fun e w' => ∃ a, e = .returned (.tuple #[.slice none 0 0, .int .i64 0, .iface 131 (.pointer (some ⟨a, 0, none⟩))]) ∧ ErrN w' 1 (.iface 131 (.pointer (some ⟨a, 0, none⟩))) 15 ∧ Ext w w' := by
  have hs' : (20000 : Int) < (s.size : Int) := by omega
  go_enter Tryz.func25, Tryz.ntmps25
  go_wp2_with (go_at_call 37; refine (fail_At_c _ _ _ _).mono ?_; rintro e W9 ⟨⟨a9, rfl, hEr⟩, hE9⟩)
  refine bodyPost_ret (v := .tuple #[.slice none 0 0, .int .i64 0, .iface 131 (.pointer (some ⟨a9, 0, none⟩))]) (by simp [results, Tryz.f25, go_sem]) rfl ?_
  exact ⟨_, rfl, hEr, Ext.trans (by exact (by repeat (first | exact Ext.refl _ | assumption | refine Ext.alloc ?_ _ | refine Ext.drew ?_ | refine Ext.drewN ?_ _ | refine Ext.setCell ?_ (by first | omega | (simp; done) | (simp; omega)) _ | refine Ext.trans ?_ (by assumption)))) hE9⟩

theorem byte_infoR : (Tryz.prog.info? 5).map (fun i => (i.zero, i.size, i.bytes)) = some (some (.int .u8 0), 1, 1) := by kernel_rfl

theorem zeros_gen (N : Nat) (hN : N ≤ 100000) (w : World) : ∃ w', (Instr.makeSlice 65 (.int .i64 (N : Int)) (.int .i64 (N : Int))).run Tryz.prog w = .ok (.slice (some ⟨w.heap.size, 0, none⟩) N N) w' ∧ Ext w w' ∧
    (convert 65 9 (.slice (some ⟨w.heap.size, 0, none⟩) N N)).run Tryz.prog w' = .ok (.string (strOfNums (List.replicate N 0))) w' := by
  obtain ⟨i0, hi, hz0, hz1, hz2⟩ := info_parts byte_infoR
  obtain ⟨w', h1, h2, h3⟩ := run_make_full (P := Tryz.prog) w w.heap.size 65 5 i0 (.int .u8 0) 1 Tryz.underlying65 hi hz0 hz1 .i64 .i64 N (by rw [hz2]; omega) (by unfold maxLen; omega) (Nat.le_refl _)
  refine ⟨w', h1, Ext.grown (Ext.refl w) h3 (fun j hj => by cases hj), ?_⟩
  refine run_convert_bytes_arg (P := Tryz.prog) w' 65 5 Tryz.underlying65 Tryz.underlying5 w.heap.size 0 N N (List.replicate N 0) (by simp) (fun i hi2 => ?_) 9 Tryz.underlying9
  rw [Nat.zero_add, h2.cellAt i (by omega)]
  rw [show (Value.int IntKind.u8 0).cells = #[.int .u8 0] from rfl, Nat.mul_one, toList_madeCells_one, List.getElem?_replicate, if_pos hi2]
  simp [List.getD, hi2]

theorem zeros (w : World) : ∃ s w', (Instr.makeSlice 65 (.int .i64 20001) (.int .i64 20001)).run Tryz.prog w = .ok (.slice (some ⟨w.heap.size, 0, none⟩) 20001 20001) w' ∧ Ext w w' ∧
    (convert 65 9 (.slice (some ⟨w.heap.size, 0, none⟩) 20001 20001)).run Tryz.prog w' = .ok (.string s) w' ∧ 20000 < s.size := by
  have h : ∀ (N : Nat) (z : Int), (N : Int) = z → N ≤ 100000 → 20000 < N → ∃ s w', (Instr.makeSlice 65 (.int .i64 z) (.int .i64 z)).run Tryz.prog w = .ok (.slice (some ⟨w.heap.size, 0, none⟩) N N) w' ∧ Ext w w' ∧
      (convert 65 9 (.slice (some ⟨w.heap.size, 0, none⟩) N N)).run Tryz.prog w' = .ok (.string s) w' ∧ 20000 < s.size := by
    rintro N z rfl hN h2
    obtain ⟨w', h3, h4, h5⟩ := zeros_gen N hN w
    exact ⟨_, w', h3, h4, h5, by rw [strOfNums_size, List.length_replicate]; exact h2⟩
  exact h 20001 20001 rfl (by omega) (by omega)
end Go.Proofs.YtiomljaengonoaaGreatDoor
