/- THE ROW OF 'shalelaw25.ScriptRights', PROVED, AND ITS TIED CARD: for every act and number the law returns true, and the input reads as it did, where the variables that the row lists start as the program's text lays them. -/
import Derived.Test.YtiomljaengonoaaGreatDoorScrArg
import Derived.Test.YtiomljaengonoaaGreatDoorRights
import Derived.Test.YtiomljaengonoaaGreatDoorCards
import Derived.Test.YtiomljaengonoaaGreatDoorTie
import Derived.SevenTiedAt
namespace Go.Proofs.YtiomljaengonoaaGreatDoor
open Go.ChangeShapes Go.WideShapes Go.RowKit Go
open Go.ChangeMaps (open_string shut_string)

theorem scriptRights_met (os : Os) (args : Array Value) : laidMetH Tryz.prog Rows.scriptRightsRow.laid ((scriptWorld os).forCall (fun _ _ => 0) ⟨#[], args, []⟩).memory :=
  laidMetH_of_parts ((script_data os).of_heap (by simp [World.memory, World.forCall, Input.heap])) (by kernel_rfl)

theorem Tryz.laidOut_scriptRights : laidOutB Tryz.prog = true := by kernel_rfl

set_option maxRecDepth 100000 in
theorem scriptRights_lifted (os : Os) (started : os.Started) (H : Type) (enc : TypeId × Value → H) :
    ReturnsInHanded {} Tryz.checked os 5 .any (fun w args => (Rows.scriptRightsSpec.pre enc Tryz.prog Tryz.f5 [] false w args ∧ laidMetH Tryz.prog Rows.scriptRightsRow.laid w) ∧ sizedMet enc Tryz.prog Tryz.f5 (OpenSpec.ofChange Rows.scriptRightsSpec) false w args)
      (Rows.scriptRightsSpec.post enc Tryz.prog Tryz.f5 false true false false) := by
  refine handed_and_shaped (C := Tryz.checked) (X := fun w _ => laidMetH Tryz.prog Rows.scriptRightsRow.laid w) (fun _ _ _ hh h => h.of_heap hh) Tryz.ownRow started (by kernel_rfl) Tryz.func5
    (ChangeSpec.witness_shaped (enc := enc) (C := Tryz.checked) (os := os) (X := fun w _ => laidMetH Tryz.prog Rows.scriptRightsRow.laid w) false (scriptWorld os) #[.agg #[.string ⟨#[]⟩, .string ⟨#[]⟩, .string ⟨#[]⟩, .int .i64 0, .int .i64 0], .int .i64 0] 8 (scriptWorld_os os)
      (World.shaped_of_ZipB (by kernel_rfl) (by kernel_rfl)) (by kernel_rfl) (by kernel_rfl) (by kernel_rfl) (scriptRights_met os _)) ?_
  intro W base args ds gs before hval0 hW hsz hsh hL
  have hval : ∀ (j : Nat) t v, Tryz.f5.params[j]? = some t → args[j]? = some v → Value.okWide Tryz.prog W .any base t v := hval0
  have hW' := hW
  obtain ⟨p, q, hA0, hV, rfl, _, _⟩ := hW
  have hA : DataW.TrodAll enc Tryz.prog W 0 (fun _ => true) true Tryz.f5.params.toList args.toList ds p := hA0
  rw [Tryz.params5] at hA hval hsz
  obtain ⟨v0, v1, d0, d1, p0, p1, rfl, rfl, rfl, h0, h1⟩ := trodAll_two hA
  obtain ⟨rfl, rfl⟩ := trodVars_none hV
  obtain ⟨cs0, rfl, _⟩ := okWide_struct Tryz.underlying44 (hval 0 44 v0 rfl rfl)
  have h0k := h0
  obtain ⟨fu0, hf0⟩ := h0
  obtain ⟨a0, ea0, hi0⟩ := act_trod hf0
  have ea0' : cs0 = #[.string (B a0.name), .string (B a0.p), .string (B a0.q), .int .i64 a0.n, .int .i64 a0.m] := by
    have := congrArg List.toArray ea0
    simpa [Value.cells, ActP.cells] using this
  subst ea0'
  obtain ⟨n1, rfl, rfl, rfl, wn1⟩ := open_int Tryz.underlying3 (hval 1 3 v1 rfl rfl) h1
  obtain ⟨nlo1, nhi1⟩ := wf_range wn1
  simp only [List.append_nil] at hW'
  have hlt : ∀ x ∈ p0, x.block < W.heap.size := fun x hx => by simpa using hW'.lt x hx
  have hL' : laidMet Tryz.prog scriptData W ∧ handlesMet Tryz.prog laidHandle W := hL
  have hV := scr_vars hL'.1 hL'.2 hsh
  refine (Rights_any a0 hi0 n1 nlo1 nhi1 W hV).mono fun e W' ⟨he, hb⟩ => ?_
  subst he
  exact ⟨_, rfl, _, _, _, [], _, [], hW', trodAll_mk1 (shut_bool Tryz.underlying4 _), trodAll_mk2 (Below.trod Tryz.laidOut_scriptRights (by kernel_rfl) (of_decide_eq_true (by kernel_rfl)) h0k hb.below (fun x hx => hlt x (hx))) (shut_int Tryz.underlying3 wn1), rfl, hb.below.frame _, fun h => by cases h⟩

theorem scriptRights_said : Rows.ScriptRightsSaid :=
  OpenClaim.holds_of_wide 5 Tryz.f5 rfl rfl rfl rfl rfl rfl rfl ⟨rfl, rfl, rfl, rfl, rfl⟩ rfl rfl rfl rfl rfl (by kernel_rfl) Tryz.func5 (by kernel_rfl)
    (of_decide_eq_true (by kernel_rfl)) (by unfold Func.isWrapper; first | (rw [if_pos (by decide +kernel)]; kernel_rfl) | (rw [if_neg (by decide +kernel)]; exact ⟨rfl, rfl⟩))
    (fun os started H enc _ => scriptRights_lifted os started H enc)

theorem scriptRights_holds : Rows.ScriptRightsCardSaid :=
  Claim7.holds_tied_plain_at .later [] [.data, .data, .data, .data, .handle, .sentinel, .sentinel, .pinned] true Rows.scriptRightsCard.stood.harness true scriptRights_said (fun _ h => by cases h) (by kernel_rfl) (fun _ h => by cases h) scriptRights_row_tie rfl ⟨rfl, rfl⟩ (by kernel_rfl) rfl
    (fun f fn hf hfn => by
      obtain rfl : f = 5 := Option.some.inj ((show Tryz.prog.funcNamed "shale/shalelaw25.ScriptRights" = some 5 by kernel_rfl).symm.trans hf) |>.symm
      obtain rfl : fn = Tryz.f5 := (Option.some.inj (Tryz.func5.symm.trans hfn)).symm
      exact ⟨by kernel_rfl, fun j t ht => by
        rw [Tryz.params5] at ht
        have hm : t ∈ [44, 3] := by simpa using Array.mem_of_getElem? ht
        have hall : ([44, 3].all fun u => !Tryz.prog.wantsStandIn u) = true := by kernel_rfl
        exact (show Tryz.prog.wantsStandIn t = false by simpa using List.all_eq_true.1 hall t hm)⟩)
    (by kernel_rfl)
#print axioms scriptRights_holds
end Go.Proofs.YtiomljaengonoaaGreatDoor
