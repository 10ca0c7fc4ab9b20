/- THE ROW OF 'shalelaw22.PinsPlays', PROVED, AND ITS TIED CARD: for every stack and every row of calls the law returns true, and the input reads as it did, where the variables that the row lists start as the program's text lays them. -/
import Derived.Test.YthadldnojdjlnaaGreatDoorJP1
import Derived.Test.YthadldnojdjlnaaGreatDoorPlaysLJ
import Derived.Test.YthadldnojdjlnaaGreatDoorCards
import Derived.Test.YthadldnojdjlnaaGreatDoorTie
import Derived.SevenTiedAt
import Derived.Carry
namespace Go.Proofs.YthadldnojdjlnaaGreatDoor
open Go.ChangeShapes Go.WideShapes Go.RowKit Go
open Go.ChangeMaps (open_string shut_string)

theorem pinsPlays_met (os : Os) (args : Array Value) : laidMetH Tryz.prog Rows.pinsPlaysRow.laid ((listWorld os).forCall (fun _ _ => 0) ⟨#[], args, []⟩).memory :=
  laidMetH_of_parts ((list_data os).of_heap (by simp [World.memory, World.forCall, Input.heap])) (by kernel_rfl)

theorem Tryz.laidOut_pinsPlays : laidOutB Tryz.prog = true := by kernel_rfl

set_option maxRecDepth 100000 in
theorem pinsPlays_lifted (os : Os) (started : os.Started) (H : Type) (enc : TypeId × Value → H) :
    ReturnsInHanded {} Tryz.checked os 3 .any (fun w args => (Rows.pinsPlaysSpec.pre enc Tryz.prog Tryz.f3 [] false w args ∧ laidMetH Tryz.prog Rows.pinsPlaysRow.laid w) ∧ sizedMet enc Tryz.prog Tryz.f3 (OpenSpec.ofChange Rows.pinsPlaysSpec) false w args)
      (Rows.pinsPlaysSpec.post enc Tryz.prog Tryz.f3 false true false false) := by
  refine handed_and_shaped (C := Tryz.checked) (X := fun w _ => laidMetH Tryz.prog Rows.pinsPlaysRow.laid w) (fun _ _ _ hh h => h.of_heap hh) Tryz.ownRow started (by kernel_rfl) Tryz.func3
    (ChangeSpec.witness_shaped (enc := enc) (C := Tryz.checked) (os := os) (X := fun w _ => laidMetH Tryz.prog Rows.pinsPlaysRow.laid w) false (listWorld os) #[.slice none 0 0, .slice none 0 0] 8 (listWorld_os os)
      (World.shaped_of_ZipB (by kernel_rfl) (by kernel_rfl)) (by kernel_rfl) (by kernel_rfl) (by kernel_rfl) (pinsPlays_met os _)) ?_
  intro W base args ds gs before hval0 hW hsz hsh hL
  have hval : ∀ (j : Nat) t v, Tryz.f3.params[j]? = some t → args[j]? = some v → Value.okWide Tryz.prog W .any base t v := hval0
  have hW' := hW
  obtain ⟨p, q, hA0, hV, rfl, _, _⟩ := hW
  have hA : DataW.TrodAll enc Tryz.prog W 0 (fun _ => true) true Tryz.f3.params.toList args.toList ds p := hA0
  rw [Tryz.params3] at hA hval hsz
  obtain ⟨v0, v1, d0, d1, p0, p1, rfl, rfl, rfl, h0, h1⟩ := trodAll_two hA
  obtain ⟨rfl, rfl⟩ := trodVars_none hV
  obtain ⟨A0, len0, cap0, rfl⟩ := okWide_slice Tryz.underlying22 (hval 0 22 v0 rfl rfl)
  have h0k := h0
  obtain ⟨fu0, hf0⟩ := h0
  obtain ⟨l0, hl0⟩ := stack_in hf0 (fitD_of hsz (j := 0) rfl rfl)
  obtain ⟨A1, len1, cap1, rfl⟩ := okWide_slice Tryz.underlying23 (hval 1 23 v1 rfl rfl)
  have h1k := h1
  obtain ⟨fu1, hf1⟩ := h1
  obtain ⟨l1, hl1⟩ := acts22_in hf1 (fitD_of hsz (j := 1) rfl rfl)
  simp only [List.append_nil] at hW'
  have hlt : ∀ x ∈ p0 ++ p1, x.block < W.heap.size := fun x hx => by simpa using hW'.lt x hx
  have hL' : laidMet Tryz.prog listData W ∧ handlesMet Tryz.prog laidHandle W := hL
  have hV := laid_of_handles hL'.2
  refine (PinsPlays_any _ _ l0 l1 W hV hl0 hl1).mono fun e W' ⟨he, hb⟩ => ?_
  subst he
  exact ⟨_, rfl, _, _, _, [], _, [], hW', trodAll_mk1 (shut_bool Tryz.underlying4 _), trodAll_mk2 (Below.trod Tryz.laidOut_pinsPlays (by kernel_rfl) (of_decide_eq_true (by kernel_rfl)) h0k hb.below (fun x hx => hlt x (by simp [hx]))) (Below.trod Tryz.laidOut_pinsPlays (by kernel_rfl) (of_decide_eq_true (by kernel_rfl)) h1k hb.below (fun x hx => hlt x (by simp [hx]))), rfl, hb.below.frame _, fun h => by cases h⟩

theorem pinsPlays_said : Rows.PinsPlaysSaid :=
  OpenClaim.holds_of_wide 3 Tryz.f3 rfl rfl rfl rfl rfl rfl rfl ⟨rfl, rfl, rfl, rfl, rfl⟩ rfl rfl rfl rfl rfl (by kernel_rfl) Tryz.func3 (by kernel_rfl)
    (of_decide_eq_true (by kernel_rfl)) (by unfold Func.isWrapper; first | (rw [if_pos (by decide +kernel)]; kernel_rfl) | (rw [if_neg (by decide +kernel)]; exact ⟨rfl, rfl⟩))
    (fun os started H enc _ => pinsPlays_lifted os started H enc)

theorem pinsPlays_holds : Rows.PinsPlaysCardSaid :=
  Claim7.holds_tied_plain_at .later [] [.data, .handle, .pinned] true Rows.pinsPlaysCard.stood.harness true pinsPlays_said (fun _ h => by cases h) (by kernel_rfl) (fun _ h => by cases h) pinsPlays_row_tie rfl ⟨rfl, rfl⟩ (by kernel_rfl) rfl
    (fun f fn hf hfn => by
      obtain rfl : f = 3 := Option.some.inj ((show Tryz.prog.funcNamed "shale/shalelaw22.PinsPlays" = some 3 by kernel_rfl).symm.trans hf) |>.symm
      obtain rfl : fn = Tryz.f3 := (Option.some.inj (Tryz.func3.symm.trans hfn)).symm
      exact ⟨by kernel_rfl, fun j t ht => by
        rw [Tryz.params3] at ht
        have hm : t ∈ [22, 23] := by simpa using Array.mem_of_getElem? ht
        have hall : ([22, 23].all fun u => !Tryz.prog.wantsStandIn u) = true := by kernel_rfl
        exact (show Tryz.prog.wantsStandIn t = false by simpa using List.all_eq_true.1 hall t hm)⟩)
    (by kernel_rfl)
#print axioms pinsPlays_holds
end Go.Proofs.YthadldnojdjlnaaGreatDoor
