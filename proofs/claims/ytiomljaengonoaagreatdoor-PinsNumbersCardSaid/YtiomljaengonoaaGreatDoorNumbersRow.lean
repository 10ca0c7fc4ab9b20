/- THE ROW OF 'shalelaw22.PinsNumbers', PROVED, AND ITS TIED CARD: for every slice of bools the law returns true, and the slice reads as it did, where the variables that the row lists start as the program's text lays them. -/
import Derived.Test.YtiomljaengonoaaGreatDoorRowKit
import Derived.Test.YtiomljaengonoaaGreatDoorNumbers
import Derived.Test.YtiomljaengonoaaGreatDoorCards
import Derived.Test.YtiomljaengonoaaGreatDoorTie
import Derived.SevenTiedAt
import Derived.Deep.Grids
namespace Go.Proofs.YtiomljaengonoaaGreatDoor
open Go.ChangeShapes Go.WideShapes Go.RowKit Go
open Go.ChangeMaps (open_string shut_string)

def numbersData : List (String × DataW Unit) := [("unicode/utf8.acceptRanges", Rows.laid_unicode_utf8_acceptRanges), ("unicode/utf8.first", Rows.laid_unicode_utf8_first)]
noncomputable def numbersWorld (os : Os) : World := (handleWorld os).layVars Tryz.prog numbersData
theorem numbersWorld_os (os : Os) : (numbersWorld os).os = os := World.layVars_os _ _ _
theorem numbers_data (os : Os) : laidMet Tryz.prog numbersData (numbersWorld os) := laidMet_over (by kernel_rfl) (by kernel_rfl)
theorem numbers_met (os : Os) (args : Array Value) : laidMetH Tryz.prog Rows.pinsNumbersRow.laid ((numbersWorld os).forCall (fun _ _ => 0) ⟨#[], args, []⟩).memory :=
  laidMetH_of_parts ((numbers_data os).of_heap (by simp [World.memory, World.forCall, Input.heap])) (by kernel_rfl)

theorem Tryz.laidOut' : laidOutB Tryz.prog = true := by kernel_rfl

theorem cells_one : Tryz.prog.cellsOf 4 = 1 := by kernel_rfl

theorem bools_in {H : Type} {enc : TypeId × Value → H} {W : World} {hd : Bool} {fuel : Nat} {A : Option Addr} {n c : Nat} {x : DataW H × List MemPlace} (h : DataW.trod enc Tryz.prog W 0 (fun _ => true) hd fuel 37 [.slice A n c] = some x) : ∃ xs, BoolsIn W (.slice A n c) xs := by
  rcases Go.Deep.open_bools Tryz.underlying37 Tryz.underlying4 cells_one h with ⟨e, _⟩ | ⟨a, len, cap, B, e, hb, hl, hm, _, hx⟩
  · cases e
    exact ⟨[], none, 0, rfl, Nat.le_refl _, by omega, fun h => absurd rfl h⟩
  · cases e
    refine ⟨(List.range n).map B, some a, c, by simp, by simpa using hl, by unfold maxLen at hm; exact hm, fun hne => ?_⟩
    have hn : 0 < n := by
      rcases n with _ | n
      · simp at hne
      · omega
    have h0 := hx 0 (by omega)
    obtain ⟨blk, off, spot⟩ := a
    have hsp : spot = none := by
      rcases spot with _ | sp
      · rfl
      · simp [World.cell?, Addr.add] at h0
        split at h0 <;> simp at h0
    subst hsp
    refine ⟨blk, off, rfl, fun j hj => ?_⟩
    have hj' : j < n := by simpa using hj
    have := hx j (by omega)
    rw [Addr.add_lit] at this
    rw [this]
    simp

set_option maxRecDepth 100000 in
theorem numbers_lifted (os : Os) (started : os.Started) (H : Type) (enc : TypeId × Value → H) :
    ReturnsInHanded {} Tryz.checked os 4 .any (fun w args => (Rows.pinsNumbersSpec.pre enc Tryz.prog Tryz.f4 [] false w args ∧ laidMetH Tryz.prog Rows.pinsNumbersRow.laid w) ∧ sizedMet enc Tryz.prog Tryz.f4 (OpenSpec.ofChange Rows.pinsNumbersSpec) false w args)
      (Rows.pinsNumbersSpec.post enc Tryz.prog Tryz.f4 false true false false) := by
  refine returnsInHanded_of_change_and (C := Tryz.checked) (X := fun w _ => laidMetH Tryz.prog Rows.pinsNumbersRow.laid w) (fun _ _ _ hh h => h.of_heap hh) Tryz.ownRow started (by kernel_rfl) Tryz.func4
    (ChangeSpec.witness_shaped (enc := enc) (C := Tryz.checked) (os := os) (X := fun w _ => laidMetH Tryz.prog Rows.pinsNumbersRow.laid w) false (numbersWorld os) #[.slice none 0 0] 8 (numbersWorld_os os)
      (World.shaped_of_ZipB (by kernel_rfl) (by kernel_rfl)) (by kernel_rfl) (by kernel_rfl) (by kernel_rfl) (numbers_met os _)) ?_
  intro W base args ds gs before hval0 hW _ _ hL _
  have hval : ∀ (j : Nat) t v, Tryz.f4.params[j]? = some t → args[j]? = some v → Value.okWide Tryz.prog W .any base t v := hval0
  have hW' := hW
  obtain ⟨p, q, hA0, hV, rfl, _, _⟩ := hW
  have hA : DataW.TrodAll enc Tryz.prog W 0 (fun _ => true) true Tryz.f4.params.toList args.toList ds p := hA0
  rw [Tryz.params4] at hA hval
  obtain ⟨v0, d0, rfl, rfl, h0⟩ := trodAll_one hA
  obtain ⟨rfl, rfl⟩ := trodVars_none hV
  obtain ⟨a0, len, cap, rfl⟩ := okWide_slice Tryz.underlying37 (hval 0 37 v0 rfl rfl)
  have h0k := h0
  obtain ⟨fuel, hf⟩ := h0
  clear hA0 hval0
  simp only [List.append_nil] at hW'
  have hlt : ∀ x ∈ p, x.block < W.heap.size := fun x hx => by simpa using hW'.lt x hx
  have hL' : laidMet Tryz.prog numbersData W ∧ handlesMet Tryz.prog laidHandle W := hL
  obtain ⟨xs, hxs⟩ := bools_in hf
  refine (Numbers_any _ xs W (laid_of_handles hL'.2) hxs).mono fun e W' ⟨he, hb⟩ => ?_
  subst he
  exact ⟨_, rfl, _, _, _, [], _, [], hW', trodAll_mk1 (shut_bool Tryz.underlying4 _), trodAll_mk1 (Below.trod Tryz.laidOut' (by kernel_rfl) (of_decide_eq_true (by kernel_rfl)) h0k hb.below hlt), rfl, hb.below.frame _, fun h => by cases h⟩

theorem numbers_said : Rows.PinsNumbersSaid :=
  OpenClaim.holds_of_wide 4 Tryz.f4 rfl rfl rfl rfl rfl rfl rfl ⟨rfl, rfl, rfl, rfl, rfl⟩ rfl rfl rfl rfl rfl (by kernel_rfl) Tryz.func4 (by kernel_rfl)
    (of_decide_eq_true (by kernel_rfl)) (by unfold Func.isWrapper; first | (rw [if_pos (by decide +kernel)]; kernel_rfl) | (rw [if_neg (by decide +kernel)]; exact ⟨rfl, rfl⟩))
    (fun os started H enc _ => numbers_lifted os started H enc)

theorem numbers_holds : Rows.PinsNumbersCardSaid :=
  Claim7.holds_tied_plain_at .later [] [.data, .handle, .pinned] true Rows.pinsNumbersCard.stood.harness true numbers_said (fun _ h => by cases h) (by kernel_rfl) (fun _ h => by cases h) pinsNumbers_row_tie rfl ⟨rfl, rfl⟩ (by kernel_rfl) rfl
    (fun f fn hf hfn => by
      obtain rfl : f = 4 := Option.some.inj ((show Tryz.prog.funcNamed "shale/shalelaw22.PinsNumbers" = some 4 by kernel_rfl).symm.trans hf) |>.symm
      obtain rfl : fn = Tryz.f4 := (Option.some.inj (Tryz.func4.symm.trans hfn)).symm
      exact ⟨by kernel_rfl, fun j t ht => by
        rw [Tryz.params4] at ht
        have hm : t ∈ [37] := by simpa using Array.mem_of_getElem? ht
        have hall : ([37].all fun u => !Tryz.prog.wantsStandIn u) = true := by kernel_rfl
        exact (show Tryz.prog.wantsStandIn t = false by simpa using List.all_eq_true.1 hall t hm)⟩)
    (by kernel_rfl)
#print axioms numbers_holds
end Go.Proofs.YtiomljaengonoaaGreatDoor
