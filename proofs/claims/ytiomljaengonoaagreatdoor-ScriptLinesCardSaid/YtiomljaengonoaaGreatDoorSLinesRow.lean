/- THE ROW OF 'shalelaw25.ScriptLines', PROVED, AND ITS TIED CARD: for every two slices of acts the law returns true, and the input reads as it did, where the variables that the row lists start as the program's text lays them. -/
import Derived.Test.YtiomljaengonoaaGreatDoorScrArg
import Derived.Test.YtiomljaengonoaaGreatDoorSLines
import Derived.Test.YtiomljaengonoaaGreatDoorCards
import Derived.Test.YtiomljaengonoaaGreatDoorTie
import Derived.SevenTiedAt
namespace Go.Proofs.YtiomljaengonoaaGreatDoor
open Go.ChangeShapes Go.WideShapes Go.RowKit Go
open Go.ChangeMaps (open_string shut_string)

theorem scriptLines_met (os : Os) (args : Array Value) : laidMetH Tryz.prog Rows.scriptLinesRow.laid ((scriptWorld os).forCall (fun _ _ => 0) ⟨#[], args, []⟩).memory :=
  laidMetH_of_parts ((script_data os).of_heap (by simp [World.memory, World.forCall, Input.heap])) (by kernel_rfl)

theorem Tryz.laidOut_scriptLines : laidOutB Tryz.prog = true := by kernel_rfl

set_option maxRecDepth 100000 in
theorem scriptLines_lifted (os : Os) (started : os.Started) (H : Type) (enc : TypeId × Value → H) :
    ReturnsInHanded {} Tryz.checked os 7 .any (fun w args => (Rows.scriptLinesSpec.pre enc Tryz.prog Tryz.f7 [] false w args ∧ laidMetH Tryz.prog Rows.scriptLinesRow.laid w) ∧ sizedMet enc Tryz.prog Tryz.f7 (OpenSpec.ofChange Rows.scriptLinesSpec) false w args)
      (Rows.scriptLinesSpec.post enc Tryz.prog Tryz.f7 false true false false) := by
  refine handed_and_shaped (C := Tryz.checked) (X := fun w _ => laidMetH Tryz.prog Rows.scriptLinesRow.laid w) (fun _ _ _ hh h => h.of_heap hh) Tryz.ownRow started (by kernel_rfl) Tryz.func7
    (ChangeSpec.witness_shaped (enc := enc) (C := Tryz.checked) (os := os) (X := fun w _ => laidMetH Tryz.prog Rows.scriptLinesRow.laid w) false (scriptWorld os) #[.slice none 0 0, .slice none 0 0] 8 (scriptWorld_os os)
      (World.shaped_of_ZipB (by kernel_rfl) (by kernel_rfl)) (by kernel_rfl) (by kernel_rfl) (by kernel_rfl) (scriptLines_met os _)) ?_
  intro W base args ds gs before hval0 hW hsz hsh hL
  have hval : ∀ (j : Nat) t v, Tryz.f7.params[j]? = some t → args[j]? = some v → Value.okWide Tryz.prog W .any base t v := hval0
  have hW' := hW
  obtain ⟨p, q, hA0, hV, rfl, _, _⟩ := hW
  have hA : DataW.TrodAll enc Tryz.prog W 0 (fun _ => true) true Tryz.f7.params.toList args.toList ds p := hA0
  rw [Tryz.params7] at hA hval hsz
  obtain ⟨v0, v1, d0, d1, p0, p1, rfl, rfl, rfl, h0, h1⟩ := trodAll_two hA
  obtain ⟨rfl, rfl⟩ := trodVars_none hV
  obtain ⟨A0, len0, cap0, rfl⟩ := okWide_slice Tryz.underlying46 (hval 0 46 v0 rfl rfl)
  have h0k := h0
  obtain ⟨fu0, hf0⟩ := h0
  obtain ⟨l0, hl0⟩ := acts_in hf0 (j := 0) hsz rfl rfl
  obtain ⟨A1, len1, cap1, rfl⟩ := okWide_slice Tryz.underlying46 (hval 1 46 v1 rfl rfl)
  have h1k := h1
  obtain ⟨fu1, hf1⟩ := h1
  obtain ⟨l1, hl1⟩ := acts_in hf1 (j := 1) hsz rfl rfl
  simp only [List.append_nil] at hW'
  have hlt : ∀ x ∈ p0 ++ p1, x.block < W.heap.size := fun x hx => by simpa using hW'.lt x hx
  have hL' : laidMet Tryz.prog scriptData W ∧ handlesMet Tryz.prog laidHandle W := hL
  have hV := scr_vars hL'.1 hL'.2 hsh
  refine (SLines_any _ l0 _ l1 W hl0 hl1 hV).mono fun e W' ⟨he, hb⟩ => ?_
  subst he
  exact ⟨_, rfl, _, _, _, [], _, [], hW', trodAll_mk1 (shut_bool Tryz.underlying4 _), trodAll_mk2 (Below.trod Tryz.laidOut_scriptLines (by kernel_rfl) (of_decide_eq_true (by kernel_rfl)) h0k hb.below (fun x hx => hlt x (List.mem_append_left _ hx))) (Below.trod Tryz.laidOut_scriptLines (by kernel_rfl) (of_decide_eq_true (by kernel_rfl)) h1k hb.below (fun x hx => hlt x (List.mem_append_right _ hx))), rfl, hb.below.frame _, fun h => by cases h⟩

theorem scriptLines_said : Rows.ScriptLinesSaid :=
  OpenClaim.holds_of_wide 7 Tryz.f7 rfl rfl rfl rfl rfl rfl rfl ⟨rfl, rfl, rfl, rfl, rfl⟩ rfl rfl rfl rfl rfl (by kernel_rfl) Tryz.func7 (by kernel_rfl)
    (of_decide_eq_true (by kernel_rfl)) (by unfold Func.isWrapper; first | (rw [if_pos (by decide +kernel)]; kernel_rfl) | (rw [if_neg (by decide +kernel)]; exact ⟨rfl, rfl⟩))
    (fun os started H enc _ => scriptLines_lifted os started H enc)

theorem scriptLines_holds : Rows.ScriptLinesCardSaid :=
  Claim7.holds_tied_plain_at .later [] [.data, .data, .data, .data, .handle, .sentinel, .sentinel, .pinned] true Rows.scriptLinesCard.stood.harness true scriptLines_said (fun _ h => by cases h) (by kernel_rfl) (fun _ h => by cases h) scriptLines_row_tie rfl ⟨rfl, rfl⟩ (by kernel_rfl) rfl
    (fun f fn hf hfn => by
      obtain rfl : f = 7 := Option.some.inj ((show Tryz.prog.funcNamed "shale/shalelaw25.ScriptLines" = some 7 by kernel_rfl).symm.trans hf) |>.symm
      obtain rfl : fn = Tryz.f7 := (Option.some.inj (Tryz.func7.symm.trans hfn)).symm
      exact ⟨by kernel_rfl, fun j t ht => by
        rw [Tryz.params7] at ht
        have hm : t ∈ [46, 46] := by simpa using Array.mem_of_getElem? ht
        have hall : ([46, 46].all fun u => !Tryz.prog.wantsStandIn u) = true := by kernel_rfl
        exact (show Tryz.prog.wantsStandIn t = false by simpa using List.all_eq_true.1 hall t hm)⟩)
    (by kernel_rfl)
#print axioms scriptLines_holds
end Go.Proofs.YtiomljaengonoaaGreatDoor
