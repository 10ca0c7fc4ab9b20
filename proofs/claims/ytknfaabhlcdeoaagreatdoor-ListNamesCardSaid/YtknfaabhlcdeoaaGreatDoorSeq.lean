/- strings.SplitSeq at one byte gives the pieces of a text, in order; for every loop body that keeps the iterator's own three cells. -/
import Derived.Lib.Hide
import Derived.Test.YtknfaabhlcdeoaaGreatDoorRangeC
import Derived.Test.YtknfaabhlcdeoaaGreatDoorPathW
import Derived.Test.YtknfaabhlcdeoaaGreatDoorBase
import Derived.Test.YtknfaabhlcdeoaaGreatDoorShelf
import Derived.Sort.LoopGhostIn
import Derived.Lib.Strings
import Derived.Lib.IndexBytes
import Derived.WalkSpells
namespace Go.Proofs.YtknfaabhlcdeoaaGreatDoor
open Go Go.RowKit Go.Shelf Go.Proofs
attribute [local go_sem] Oper.semAt_some

theorem SplitSeq_any (s sep : ByteArray) (w : World) :
    Calls Tryz.prog 125 #[.string s, .string sep] w fun e w' => e = .returned (.func (.func 232) #[] #[.pointer (some ⟨w.heap.size + 1, 0, none⟩), .pointer (some ⟨w.heap.size, 0, none⟩), .pointer (some ⟨w.heap.size + 1 + 1, 0, none⟩)]) ∧
      w' = ((w.alloc (.cells #[.string s] 9)).alloc (.cells #[.string sep] 9)).alloc (.cells #[.int .i64 0] 3) := by
  go_enter Tryz.func125, Tryz.ntmps125
  go_wp2
  go_ret
  exact ⟨rfl, rfl⟩

/-- What the loop's body keeps. -/
def KpS (c : Nat) (W W' : World) : Prop := W'.heap[c]? = W.heap[c]? ∧ W'.heap[c + 1]? = W.heap[c + 1]? ∧ W'.heap[c + 1 + 1]? = W.heap[c + 1 + 1]?
theorem KpS.trans {c : Nat} {A B C : World} (h : KpS c A B) (k : KpS c B C) : KpS c A C := ⟨k.1.trans h.1, k.2.1.trans h.2.1, k.2.2.trans h.2.2⟩

theorem cell_own_set {w : World} {b : Nat} {t : TypeId} {v : Value} (h : w.heap[b]? = some (.cells #[v] t (0, 0))) (u : Value) : (w.setCell ⟨b, 0, none⟩ u).heap[b]? = some (.cells #[u] t (0, 0)) := by
  simp [World.setCell, Array.getElem?_modify, h]
theorem cell_of_own {w : World} {b : Nat} {t : TypeId} {v : Value} (h : w.heap[b]? = some (.cells #[v] t (0, 0))) : w.cell? ⟨b, 0, none⟩ = some v := by simp [World.cell?, h]
theorem frozen_of_own {w : World} {b : Nat} {t : TypeId} {v : Value} (h : w.heap[b]? = some (.cells #[v] t (0, 0))) : w.frozen? ⟨b, 0, none⟩ = false := by simp [World.frozen?, h]

theorem pieces_size {b : UInt8} {s x : ByteArray} (h : x ∈ pieces b s) : x.size ≤ s.size := by
  obtain ⟨l, hl, rfl⟩ := List.mem_map.1 h
  have h1 := segs_len b _ _ hl
  rw [size_B]
  rw [Array.length_toList] at h1
  exact h1

theorem pieces_none {b : UInt8} {s : ByteArray} (h : Lib.indexByte s.data.toList b = -1) : pieces b s = [s] := by
  rw [pieces, segs_index_none h]; rfl
theorem pieces_some {b : UInt8} {s : ByteArray} {i : Nat} (h : Lib.indexByte s.data.toList b = (i : Int)) : i < s.size ∧ pieces b s = s.extract 0 i :: pieces b (s.extract (i + 1) s.size) := by
  obtain ⟨h1, h2⟩ := segs_index_some h
  refine ⟨by rw [Array.length_toList] at h1; exact h1, ?_⟩
  rw [pieces, h2, List.map_cons, pieces]
  congr 1
  · rw [← B_toList (s.extract 0 i), Lib.extract_data]; exact congrArg B (by simp)
  · rw [Lib.extract_to_end]

set_option maxRecDepth 100000 in
set_option maxHeartbeats 4000000 in
theorem splitSeq_stops (n : Nat) (hn : 1 ≤ n) (c : Nat) (s : ByteArray) (b : UInt8) (hs : s.size ≤ 140737488355328) (w : World)
    (h0 : w.heap[c]? = some (.cells #[.string s] 9 (0, 0))) (h1 : w.heap[c + 1]? = some (.cells #[.string ⟨#[b]⟩] 9 (0, 0))) (h2 : w.heap[c + 1 + 1]? = some (.cells #[.int .i64 0] 3 (0, 0))) :
    SeqStopsC Fence.wide n Tryz.prog 232 #[.pointer (some ⟨c + 1, 0, none⟩), .pointer (some ⟨c, 0, none⟩), .pointer (some ⟨c + 1 + 1, 0, none⟩)] (fun x : ByteArray => #[.string x]) (KpS c)
      (fun xs => xs = pieces b s) (fun pre => pre <+: pieces b s) (fun pre => pre <+: pieces b s) c w := fun l J Jx W hW _ _ hJc hY hJ0 => by
  have e0 : W.heap[c]? = some (.cells #[.string s] 9 (0, 0)) := (hW.block c (Array.getElem?_eq_some_iff.1 h0).1).trans h0
  have e1 : W.heap[c + 1]? = some (.cells #[.string ⟨#[b]⟩] 9 (0, 0)) := (hW.block _ (Array.getElem?_eq_some_iff.1 h1).1).trans h1
  have e2 : W.heap[c + 1 + 1]? = some (.cells #[.int .i64 0] 3 (0, 0)) := (hW.block _ (Array.getElem?_eq_some_iff.1 h2).1).trans h2
  have hsep := cell_of_own e1
  clear h0 h1 h2 hW
  refine callsIn_of_wp Tryz.func232 rfl trivial ?_ rfl
  simp only [Tryz.ntmps232, List.size_toArray, List.length_cons, List.length_nil, Nat.reduceAdd, Nat.reduceSub, Array.replicate_succ, Array.replicate_zero, List.push_toArray, List.append_toArray, List.nil_append, List.cons_append]
  gi_wp2
  gi_loopg [7, 8] s.size (fun g _ _ wr => ∃ (pre : List ByteArray) (cur : ByteArray), cur.size ≤ g ∧ cur.size ≤ 140737488355328 ∧ pieces b s = pre ++ pieces b cur ∧ J pre wr ∧ wr.heap[c]? = some (.cells #[.string cur] 9 (0, 0)) ∧ wr.heap[c + 1]? = some (.cells #[.string ⟨#[b]⟩] 9 (0, 0)) ∧ wr.heap[c + 1 + 1]? = some (.cells #[.int .i64 0] 3 (0, 0)))
  case atStart => exact ⟨[], s, Nat.le_refl _, hs, rfl, hJ0, e0, e1, e2⟩
  case round =>
    obtain ⟨pre, cur, hg, hcm, hp, hJp, f0, f1, f2⟩ := hrel
    have k0 := cell_of_own f0
    have k0f := frozen_of_own f0
    have k1 := cell_of_own f1
    have k2 := cell_of_own f2
    obtain ⟨ix, hix⟩ : ∃ ix, Lib.indexByte cur.data.toList b = ix := ⟨_, rfl⟩
    have HI := (callsIn_wide (n := n - 1)).2 (Tryz.strings_Index_one cur b wr)
    rw [hix] at HI
    by_cases hneg : ix < 0
    · have hm : ix = -1 := by have := Lib.indexByte_ge cur.data.toList b; omega
      subst hm
      have hpc := pieces_none hix
      have hlen : pre ++ [cur] <+: pieces b s := by rw [hp, hpc]; exact List.prefix_refl _
      obtain ⟨fn, tmps, assign, body, hy, hR⟩ := hY pre cur wr hJp hlen
      rw [hpc] at hp
      have Hp := Lib.hid hp
      clear hix hpc hlen hp f0 f1 f2 hg hY
      gi_wp2_with (refine ⟨trivial, ?_⟩; gi_at_call 233; refine HI.mono ?_; rintro e w' ⟨rfl, rfl⟩)
      refine hR.mono ?_
      rintro e W3 (⟨rfl, hJ3, hk3⟩ | ⟨rfl, hJx3⟩)
      · gi_wp2
        go_end0
        exact ⟨⟨_, rfl⟩, .inl ⟨_, Hp.out.symm, hJ3⟩⟩
      · gi_wp2
        go_end0
        exact ⟨⟨_, rfl⟩, .inr ⟨_, by rw [Hp.out]; exact List.prefix_refl _, hJx3⟩⟩
    · obtain ⟨i, rfl⟩ := Int.eq_ofNat_of_zero_le (show 0 ≤ ix by omega)
      obtain ⟨hi, hpc⟩ := pieces_some hix
      have hlen : pre ++ [cur.extract 0 i] <+: pieces b s := ⟨pieces b (cur.extract (i + 1) cur.size), by rw [hp, hpc]; simp⟩
      obtain ⟨fn, tmps, assign, body, hy, hR⟩ := hY pre (cur.extract 0 i) wr hJp hlen
      rw [hpc] at hp
      have Hp := Lib.hid hp
      have Hg := Lib.hid hg
      have Hf := Lib.hid (And.intro f0 (And.intro f1 f2))
      clear hix hpc hlen hp f0 f1 f2 hg hY
      gi_wp2_with (refine ⟨trivial, ?_⟩; gi_at_call 233; refine HI.mono ?_; rintro e w' ⟨rfl, rfl⟩)
      refine hR.mono ?_
      rintro e W3 (⟨rfl, hJ3, hk3⟩ | ⟨rfl, hJx3⟩)
      · have f0 := hk3.1.trans Hf.out.1
        have f1 := hk3.2.1.trans Hf.out.2.1
        have f2 := hk3.2.2.trans Hf.out.2.2
        have k0' := cell_of_own f0
        have k0f' := frozen_of_own f0
        have k1' := cell_of_own f1
        have hJ4 := hJc _ _ (.string (cur.extract (i + 1) cur.size)) hJ3
        have Hf2 := Lib.hid (And.intro (cell_own_set f0 (.string (cur.extract (i + 1) cur.size))) (And.intro ((Below.heap_setCell W3 ⟨c, 0, none⟩ (.string (cur.extract (i + 1) cur.size)) (c + 1) (by simp)).trans f1) ((Below.heap_setCell W3 ⟨c, 0, none⟩ (.string (cur.extract (i + 1) cur.size)) (c + 1 + 1) (by simp; omega)).trans f2)))
        clear f0 f1 f2 k0 k0f k1 k2 hk3 Hf hJp hJ3
        gi_wp2
        go_roundg (cur.size - (i + 1))
        case measure => have := Hg.out; omega
        case rel =>
          refine ⟨pre ++ [cur.extract 0 i], cur.extract (i + 1) cur.size, ?_, ?_, ?_, hJ4, Hf2.out⟩
          · simp
          · simp; omega
          · rw [Hp.out]; simp
      · gi_wp2
        refine bodyPost_ret (results_none rfl _ _ _) rfl ?_
        exact ⟨⟨_, rfl⟩, .inr ⟨_, ⟨pieces b (cur.extract (i + 1) cur.size), by rw [Hp.out]; simp⟩, hJx3⟩⟩
end Go.Proofs.YtknfaabhlcdeoaaGreatDoor
