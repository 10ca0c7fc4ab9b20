/- The document's Needs: what an act of this name needs. -/
import Derived.Test.YtiomljaengonoaaGreatDoorScrAwake
namespace Go.Proofs.YtiomljaengonoaaGreatDoor
open Go Go.RowKit Go.Shelf Go.Proofs Go.Maps

def refT : List (List UInt8 × List UInt8) := [([99, 114, 101, 97, 116, 101], [112]), ([109, 107, 100, 105, 114], [112]), ([117, 110, 108, 105, 110, 107], [112]), ([114, 109, 100, 105, 114], [112]), ([114, 101, 110, 97, 109, 101], [112, 113]), ([119, 114, 105, 116, 101], [112, 110, 113]), ([99, 117, 116], [112, 110]), ([114, 101, 97, 100], [112]), ([108, 105, 115, 116], [112]), ([115, 121, 110, 99], []), ([99, 111, 109, 109, 105, 116], []), ([115, 110, 97, 112], []), ([104, 111, 108, 100], [112]), ([112, 97, 114, 116], [110, 109]), ([99, 108, 111, 115, 101], [110]), ([115, 116, 101, 112], []), ([116, 114, 101, 101], [])]
theorem refT_needs (nm : List UInt8) : (refT.find? fun x => decide (x.1 = nm)).map (·.2) = needsOf nm := by
  by_cases h : nm ∈ needsT.map (·.1)
  · have : ∀ y ∈ needsT.map (·.1), (refT.find? fun x => decide (x.1 = y)).map (·.2) = needsOf y := by decide +kernel
    exact this nm h
  · have h1 : needsOf nm = none := by
      cases hn : needsOf nm with
      | none => rfl
      | some w => exact absurd (needs_name hn) h
    have h2 : nm ∉ refT.map (·.1) := fun e => h (by
      have : ∀ y ∈ refT.map (·.1), y ∈ needsT.map (·.1) := by decide +kernel
      exact this nm e)
    rw [h1]
    cases hf : refT.find? fun x => decide (x.1 = nm) with
    | none => rfl
    | some x =>
      have hm := List.mem_of_find?_eq_some hf
      have he : x.1 = nm := by simpa using List.find?_some hf
      exact absurd (List.mem_map.2 ⟨x, hm, he⟩) h2

def NeedsPost (nm : List UInt8) (w : World) (e : Ending) (w' : World) : Prop := e = .returned (.tuple #[needV nm, .bool (needsOf nm).isSome]) ∧ Ext w w'

def nameCells : Array Value := #[.string ⟨#[99, 114, 101, 97, 116, 101]⟩, .string ⟨#[109, 107, 100, 105, 114]⟩, .string ⟨#[117, 110, 108, 105, 110, 107]⟩, .string ⟨#[114, 109, 100, 105, 114]⟩, .string ⟨#[114, 101, 110, 97, 109, 101]⟩, .string ⟨#[119, 114, 105, 116, 101]⟩, .string ⟨#[99, 117, 116]⟩, .string ⟨#[114, 101, 97, 100]⟩, .string ⟨#[108, 105, 115, 116]⟩, .string ⟨#[115, 121, 110, 99]⟩, .string ⟨#[99, 111, 109, 109, 105, 116]⟩, .string ⟨#[115, 110, 97, 112]⟩, .string ⟨#[104, 111, 108, 100]⟩, .string ⟨#[112, 97, 114, 116]⟩, .string ⟨#[99, 108, 111, 115, 101]⟩, .string ⟨#[115, 116, 101, 112]⟩, .string ⟨#[116, 114, 101, 101]⟩]
def needCells : Array Value := #[.string ⟨#[112]⟩, .string ⟨#[112]⟩, .string ⟨#[112]⟩, .string ⟨#[112]⟩, .string ⟨#[112, 113]⟩, .string ⟨#[112, 110, 113]⟩, .string ⟨#[112, 110]⟩, .string ⟨#[112]⟩, .string ⟨#[112]⟩, .string ⟨#[]⟩, .string ⟨#[]⟩, .string ⟨#[]⟩, .string ⟨#[112]⟩, .string ⟨#[110, 109]⟩, .string ⟨#[110]⟩, .string ⟨#[]⟩, .string ⟨#[]⟩]

theorem refT_len : refT.length = 17 := rfl
theorem name_at : ∀ (k : Nat) (h : k < refT.length), nameCells[k]? = some (.string (B (refT[k]).1))
  | 0, _ => rfl
  | 1, _ => rfl
  | 2, _ => rfl
  | 3, _ => rfl
  | 4, _ => rfl
  | 5, _ => rfl
  | 6, _ => rfl
  | 7, _ => rfl
  | 8, _ => rfl
  | 9, _ => rfl
  | 10, _ => rfl
  | 11, _ => rfl
  | 12, _ => rfl
  | 13, _ => rfl
  | 14, _ => rfl
  | 15, _ => rfl
  | 16, _ => rfl
  | k + 17, h => by rw [refT_len] at h; omega
theorem need_at : ∀ (k : Nat) (h : k < refT.length), needCells[k]? = some (.string (B (refT[k]).2))
  | 0, _ => rfl
  | 1, _ => rfl
  | 2, _ => rfl
  | 3, _ => rfl
  | 4, _ => rfl
  | 5, _ => rfl
  | 6, _ => rfl
  | 7, _ => rfl
  | 8, _ => rfl
  | 9, _ => rfl
  | 10, _ => rfl
  | 11, _ => rfl
  | 12, _ => rfl
  | 13, _ => rfl
  | 14, _ => rfl
  | 15, _ => rfl
  | 16, _ => rfl
  | k + 17, h => by rw [refT_len] at h; omega

theorem find_hit {nm : List UInt8} {k : Nat} (hk : k < refT.length) (h0 : (refT.take k).find? (fun x => decide (x.1 = nm)) = none) (h1 : (refT[k]).1 = nm) : needsOf nm = some (refT[k]).2 := by
  rw [← refT_needs]
  have e : refT = refT.take k ++ refT[k] :: refT.drop (k + 1) := by rw [← List.drop_eq_getElem_cons hk, List.take_append_drop]
  have : refT.find? (fun x => decide (x.1 = nm)) = some refT[k] := by
    conv => lhs; rw [e]
    rw [List.find?_append, h0, List.find?_cons, decide_eq_true h1]
    rfl
  rw [this]
  rfl
theorem find_miss {nm : List UInt8} {k : Nat} (hk : k < refT.length) (h0 : (refT.take k).find? (fun x => decide (x.1 = nm)) = none) (h1 : (refT[k]).1 ≠ nm) : (refT.take (k + 1)).find? (fun x => decide (x.1 = nm)) = none := by
  rw [List.take_add_one, List.getElem?_eq_getElem hk, List.find?_append, h0]
  simp [h1]

set_option maxRecDepth 100000 in
set_option maxHeartbeats 8000000 in
theorem Needs_ref (nm : List UInt8) (w : World) :
    Calls Tryz.prog 24 #[.string (B nm)] w (NeedsPost nm w) := by
  obtain ⟨s, hs⟩ : ∃ s, B nm = s := ⟨_, rfl⟩
  have Hs := Lib.hid hs
  rw [hs]
  clear hs
  go_enter Tryz.func24, Tryz.ntmps24
  go_upto_region 3 with (fail)
  have hA := Blk.new w 9 nameCells
  have hB := Blk.new (w.alloc (.cells nameCells 9)) 9 needCells
  have hA2 := hA.ext ((Ext.refl _).alloc (.cells needCells 9))
  have hE : Ext w ((w.alloc (.cells nameCells 9)).alloc (.cells needCells 9)) := (by repeat (first | exact Ext.refl _ | assumption | refine Ext.alloc ?_ _ | refine Ext.drew ?_ | refine Ext.drewN ?_ _ | refine Ext.setCell ?_ (by first | omega | (simp; done) | (simp; omega)) _ | refine Ext.trans ?_ (by assumption)))
  rw [World.size_alloc] at hB
  change Code.wp _ _ _ _ ((w.alloc (.cells nameCells 9)).alloc (.cells needCells 9))
  generalize (w.alloc (.cells nameCells 9)).alloc (.cells needCells 9) = W at hA2 hB hE ⊢
  obtain ⟨N, hN⟩ : ∃ N : Nat, N = 17 := ⟨_, rfl⟩
  have HN := Lib.hid hN
  go_wp2
  go_loop [6] (fun i => ∃ k : Nat, i = .int .i64 k ∧ k ≤ 17 ∧ Hid ((refT.take k).find? (fun x => decide (x.1 = nm)) = none)) (fun i => 17 - (intOf i).toNat)
  case atStart => exact ⟨0, rfl, by omega, Lib.hid rfl⟩
  case round =>
    obtain ⟨k, rfl, hk17, hnone⟩ := hrel
    by_cases hlt : k < 17
    · have hkl : k < refT.length := hlt
      have n1 := hA2.cell k (name_at k hkl)
      have n2 := hB.cell k (need_at k hkl)
      by_cases he : (refT[k]).1 = nm
      · have hq : ((B (refT[k]).1).toList == s.toList) = true := by rw [he, Hs.out]; simp
        have hr : Hid (needsOf nm = some (refT[k]).2) := Lib.hid (find_hit hkl hnone.out he)
        generalize refT[k] = x at *
        clear he hnone hkl
        go_wp2
        go_ret2
        exact ⟨by rw [needV, hr.out]; rfl, hE⟩
      · have hq : ((B (refT[k]).1).toList == s.toList) = false := by
          rw [← Hs.out, ByteArray.toList_eq, ByteArray.toList_eq, toList_B, toList_B]
          simpa using he
        have hn2 := Lib.hid (find_miss hkl hnone.out he)
        generalize refT[k] = x at *
        clear he hnone hkl
        go_wp2
        exact ⟨⟨k + 1, by go_num, by omega, hn2⟩, by simp [intOf]; omega⟩
    · have hr : Hid (needsOf nm = none) := Lib.hid (by
        have h := hnone.out
        rw [List.take_of_length_le (by rw [refT_len]; omega)] at h
        rw [← refT_needs, h]
        rfl)
      go_wp2
      go_ret2
      exact ⟨by rw [needV, hr.out]; rfl, hE⟩
end Go.Proofs.YtiomljaengonoaaGreatDoor
