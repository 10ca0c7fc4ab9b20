/- strings.Lines gives a text's lines in order; slices.Collect gathers them. -/
import Derived.Test.YtiomljaengonoaaGreatDoorSeq
import Derived.Test.YtiomljaengonoaaGreatDoorScrW
import Derived.Test.YtiomljaengonoaaGreatDoorRd
import Derived.Test.YtiomljaengonoaaGreatDoorBut
import Derived.RangeFuncBox
import Derived.BigRegionIn
import Derived.Maps.AppendAt
namespace Go.Proofs.YtiomljaengonoaaGreatDoor
open Go Go.RowKit Go.Shelf Go.Proofs
attribute [local go_sem] Oper.semAt_some

theorem Lines_any (s : ByteArray) (w : World) :
    Calls Tryz.prog 44 #[.string s] w fun e w' => e = .returned (.func (.func 75) #[] #[.pointer (some ⟨w.heap.size, 0, none⟩)]) ∧ w' = w.alloc (.cells #[.string s] 9) := by
  go_enter Tryz.func44, Tryz.ntmps44
  go_wp2
  go_ret
  exact ⟨rfl, rfl⟩

def linesB (s : ByteArray) : List ByteArray := (linesP s.data.toList).map B

theorem lines_mem : ∀ (l x : List UInt8), x ∈ linesP l → x.length ≤ l.length
  | [], x, h => by simp [linesP] at h
  | c :: l, x, h => by
    simp only [linesP] at h
    split at h
    · rcases List.mem_cons.1 h with rfl | h
      · simp
      · have := lines_mem l x h
        simp; omega
    · rcases e : linesP l with _ | ⟨y, ys⟩
      · rw [e] at h
        have : x = [c] := by simpa using h
        simp [this]
      · rw [e] at h
        have hy := lines_mem l y (by rw [e]; simp)
        simp only [List.mem_cons] at h
        rcases h with rfl | h
        · simp; omega
        · have := lines_mem l x (by rw [e]; simp [h])
          simp; omega

theorem linesB_size {s x : ByteArray} (h : x ∈ linesB s) : x.size ≤ s.size := by
  obtain ⟨l, hl, rfl⟩ := List.mem_map.1 h
  have h1 := lines_mem _ _ hl
  rw [size_B]
  rw [Array.length_toList] at h1
  exact h1

theorem linesB_none {s : ByteArray} (h : Lib.indexByte s.data.toList 10 = -1) (hne : 0 < s.size) : linesB s = [s] := by
  rw [linesB, lines_free (fun e => by have h1 : s.data.toList.length = s.size := Array.length_toList; rw [e] at h1; simp at h1; omega) (Lib.indexByte_none h)]
  rfl
theorem linesB_some {s : ByteArray} {i : Nat} (h : Lib.indexByte s.data.toList 10 = (i : Int)) : i < s.size ∧ linesB s = s.extract 0 (i + 1) :: linesB (s.extract (i + 1) s.size) := by
  obtain ⟨h1, h2⟩ := Lib.indexByte_some h
  have hlt := (List.getElem?_eq_some_iff.1 h1).1
  rw [Array.length_toList] at hlt
  refine ⟨hlt, ?_⟩
  rw [linesB, lines_cons_some h1 h2, List.map_cons, linesB]
  congr 1
  · rw [← B_toList (s.extract 0 (i + 1)), Lib.extract_data]; exact congrArg B (by simp)
  · rw [Lib.extract_to_end]

theorem grown_drew (w : World) : w.grownBy w.drew none := ⟨rfl, rfl, rfl, Nat.le_refl _, fun _ _ _ => rfl⟩

/-- What the loop's body keeps: the iterator's cell. -/
def KpL (c : Nat) (W W' : World) : Prop := W'.heap[c]? = W.heap[c]?

set_option maxRecDepth 100000 in
set_option maxHeartbeats 4000000 in
theorem lines_stops (n : Nat) (hn : 1 ≤ n) (c : Nat) (s : ByteArray) (hs : s.size ≤ 140737488355328) (w : World)
    (h0 : w.heap[c]? = some (.cells #[.string s] 9 (0, 0))) :
    SeqStopsC Fence.wide n Tryz.prog 75 #[.pointer (some ⟨c, 0, none⟩)] (fun x : ByteArray => #[.string x]) (KpL c)
      (fun xs => xs = linesB s) (fun pre => pre <+: linesB s) (fun pre => pre <+: linesB s) c w := fun l J Jx W hW hAb _ hJc hY hJ0 => by
  have e0 : W.heap[c]? = some (.cells #[.string s] 9 (0, 0)) := (hW.block c (Array.getElem?_eq_some_iff.1 h0).1).trans h0
  clear h0 hW
  refine callsIn_of_wp Tryz.func75 rfl trivial ?_ rfl
  simp only [Tryz.ntmps75, List.size_toArray, List.length_cons, List.length_nil, Nat.reduceAdd, Nat.reduceSub, Array.replicate_succ, Array.replicate_zero, List.push_toArray, List.append_toArray, List.nil_append, List.cons_append]
  gi_wp2
  gi_loopg [3, 4] s.size (fun g _ _ wr => ∃ (pre : List ByteArray) (cur : ByteArray), cur.size ≤ g ∧ cur.size ≤ 140737488355328 ∧ linesB s = pre ++ linesB cur ∧ J pre wr ∧ wr.heap[c]? = some (.cells #[.string cur] 9 (0, 0)))
  case atStart => exact ⟨[], s, Nat.le_refl _, hs, rfl, hJ0, e0⟩
  case round =>
    obtain ⟨pre, cur, hg, hcm, hp, hJp, f0⟩ := hrel
    have k0 := cell_of_own f0
    have k0f := frozen_of_own f0
    by_cases h0 : cur.size = 0
    · have hn : linesB cur = [] := by
        have h1 : cur.data.toList.length = cur.size := Array.length_toList
        rw [linesB, List.eq_nil_of_length_eq_zero (h1.trans h0)]
        rfl
      have hp' : pre = linesB s := by rw [hp, hn, List.append_nil]
      have Hp := Lib.hid hp'
      clear hp hp' hn hg
      gi_wp2
      go_end0
      exact ⟨⟨_, rfl⟩, .inl ⟨_, Hp.out, hJp⟩⟩
    have h0' : 0 < cur.size := by omega
    have HI := fun w => (callsIn_wide (n := n - 1)).2 (Tryz.strings_IndexByte cur 10 w)
    simp only [show (Int.toNat 10).toUInt8 = (10 : UInt8) from rfl] at HI
    obtain ⟨ix, hix⟩ : ∃ ix, Lib.indexByte cur.data.toList 10 = ix := ⟨_, rfl⟩
    have hge := Lib.indexByte_ge cur.data.toList 10
    rw [hix] at hge
    by_cases hneg : ix < 0
    · have hm : ix = -1 := by omega
      subst hm
      have hpc := linesB_none hix h0'
      have hz : linesB (⟨#[]⟩ : ByteArray) = [] := rfl
      have hlen : pre ++ [cur] <+: linesB s := by rw [hp, hpc]; exact List.prefix_refl _
      have f1 := cell_own_set f0 (.string ⟨#[]⟩)
      have hJ1 := hJc _ _ (.string ⟨#[]⟩) hJp
      obtain ⟨fn, tmps, assign, body, hy, hR⟩ := hY pre cur _ hJ1 hlen
      rw [hpc] at hp
      have Hp := Lib.hid hp
      have Hf := Lib.hid f1
      have Hg := Lib.hid hg
      rw [hix] at HI
      clear hix hpc hlen hp f0 f1 hg hY hJ1 hge
      gi_wp2_with (refine ⟨trivial, ?_⟩; gi_at_call 76; refine (HI _).mono ?_; rintro e w' ⟨rfl, rfl⟩)
      refine hR.mono ?_
      rintro e W3 (⟨rfl, hJ3, hk3⟩ | ⟨rfl, hJx3⟩)
      · have f3 := hk3.trans Hf.out
        have Hf3 := Lib.hid f3
        clear f3 hk3
        gi_wp2
        go_roundg 0
        case measure => have := Hg.out; omega
        case rel => exact ⟨pre ++ [cur], ⟨#[]⟩, Nat.le_refl _, by decide, by rw [Hp.out, hz, List.append_nil], hJ3, Hf3.out⟩
      · gi_wp2
        refine bodyPost_ret (results_none rfl _ _ _) rfl ?_
        exact ⟨⟨_, rfl⟩, .inr ⟨_, by rw [Hp.out]; exact List.prefix_refl _, hJx3⟩⟩
    · obtain ⟨i, rfl⟩ := Int.eq_ofNat_of_zero_le (show 0 ≤ ix by omega)
      obtain ⟨hi, hpc⟩ := linesB_some hix
      have hlen : pre ++ [cur.extract 0 (i + 1)] <+: linesB s := ⟨linesB (cur.extract (i + 1) cur.size), by rw [hp, hpc]; simp⟩
      have f1 := cell_own_set f0 (.string (cur.extract (i + 1) cur.size))
      have hJ1 := hAb _ _ _ none (hJc _ _ (.string (cur.extract (i + 1) cur.size)) hJp) (grown_drew _) (fun r e => by cases e)
      obtain ⟨fn, tmps, assign, body, hy, hR⟩ := hY pre (cur.extract 0 (i + 1)) _ hJ1 hlen
      rw [hpc] at hp
      have Hp := Lib.hid hp
      have Hf := Lib.hid f1
      have Hg := Lib.hid hg
      rw [hix] at HI
      have hi0 : ¬ (i : Int) < 0 := by omega
      have hi1 : (i : Int) + 1 ≤ (cur.size : Int) := by omega
      clear hix hpc hlen hp f0 f1 hg hY hJ1 hge
      gi_wp2_with (refine ⟨trivial, ?_⟩; gi_at_call 76; refine (HI _).mono ?_; rintro e w' ⟨rfl, rfl⟩)
      gi_region
      gi_wp2
      refine hR.mono ?_
      rintro e W3 (⟨rfl, hJ3, hk3⟩ | ⟨rfl, hJx3⟩)
      · have f3 := hk3.trans Hf.out
        have Hf3 := Lib.hid f3
        clear f3 hk3
        gi_wp2
        go_roundg (cur.size - (i + 1))
        case measure => have := Hg.out; omega
        case rel =>
          refine ⟨pre ++ [cur.extract 0 (i + 1)], cur.extract (i + 1) cur.size, ?_, ?_, ?_, hJ3, Hf3.out⟩
          · simp
          · simp; omega
          · rw [Hp.out]; simp
      · gi_wp2
        refine bodyPost_ret (results_none rfl _ _ _) rfl ?_
        exact ⟨⟨_, rfl⟩, .inr ⟨_, ⟨linesB (cur.extract (i + 1) cur.size), by rw [Hp.out]; simp⟩, hJx3⟩⟩
end Go.Proofs.YtiomljaengonoaaGreatDoor
