/- THE ROW OF 'shalelaw22.PinsRefs', PROVED, AND ITS TIED CARD: for every row of bytes and every number the law returns true, and the input reads as it did, where the variables that the row lists start as the program's text lays them. -/
import Derived.Test.YtknfaabhlcdeoaaGreatDoorListArg
import Derived.Test.YtknfaabhlcdeoaaGreatDoorRefsLaw
import Derived.Test.YtknfaabhlcdeoaaGreatDoorBytesArg
import Derived.Test.YtknfaabhlcdeoaaGreatDoorCards
import Derived.Test.YtknfaabhlcdeoaaGreatDoorTie
import Derived.SevenTiedAt
import Derived.Carry
namespace Go.Proofs.YtknfaabhlcdeoaaGreatDoor
open Go.ChangeShapes Go.WideShapes Go.RowKit Go
open Go.ChangeMaps (open_string shut_string)

theorem pinsRefs_met (os : Os) (args : Array Value) : laidMetH Tryz.prog Rows.pinsRefsRow.laid ((listWorld os).forCall (fun _ _ => 0) ⟨#[], args, []⟩).memory :=
  laidMetH_of_parts ((list_data os).of_heap (by simp [World.memory, World.forCall, Input.heap])) (by kernel_rfl)

theorem Tryz.laidOut_pinsRefs : laidOutB Tryz.prog = true := by kernel_rfl

set_option maxRecDepth 100000 in
theorem pinsRefs_lifted (os : Os) (started : os.Started) (H : Type) (enc : TypeId × Value → H) :
    ReturnsInHanded {} Tryz.checked os 5 .any (fun w args => (Rows.pinsRefsSpec.pre enc Tryz.prog Tryz.f5 [] false w args ∧ laidMetH Tryz.prog Rows.pinsRefsRow.laid w) ∧ sizedMet enc Tryz.prog Tryz.f5 (OpenSpec.ofChange Rows.pinsRefsSpec) false w args)
      (Rows.pinsRefsSpec.post enc Tryz.prog Tryz.f5 false true false false) := by
  refine handed_and_shaped (C := Tryz.checked) (X := fun w _ => laidMetH Tryz.prog Rows.pinsRefsRow.laid w) (fun _ _ _ hh h => h.of_heap hh) Tryz.ownRow started (by kernel_rfl) Tryz.func5
    (ChangeSpec.witness_shaped (enc := enc) (C := Tryz.checked) (os := os) (X := fun w _ => laidMetH Tryz.prog Rows.pinsRefsRow.laid w) false (listWorld os) #[.slice none 0 0, .int .u8 0] 8 (listWorld_os os)
      (World.shaped_of_ZipB (by kernel_rfl) (by kernel_rfl)) (by kernel_rfl) (by kernel_rfl) (by kernel_rfl) (pinsRefs_met os _)) ?_
  intro W base args ds gs before hval0 hW hsz hsh hL
  have hval : ∀ (j : Nat) t v, Tryz.f5.params[j]? = some t → args[j]? = some v → Value.okWide Tryz.prog W .any base t v := hval0
  have hW' := hW
  obtain ⟨p, q, hA0, hV, rfl, _, _⟩ := hW
  have hA : DataW.TrodAll enc Tryz.prog W 0 (fun _ => true) true Tryz.f5.params.toList args.toList ds p := hA0
  rw [Tryz.params5] at hA hval hsz
  obtain ⟨v0, v1, d0, d1, p0, p1, rfl, rfl, rfl, h0, h1⟩ := trodAll_two hA
  obtain ⟨rfl, rfl⟩ := trodVars_none hV
  obtain ⟨A0, len0, cap0, rfl⟩ := okWide_slice Tryz.underlying41 (hval 0 41 v0 rfl rfl)
  have h0k := h0
  obtain ⟨fu0, hf0⟩ := h0
  obtain ⟨l0, hl0⟩ := bytes_in hf0 (fitD_of hsz (j := 0) rfl rfl)
  obtain ⟨n1, rfl, rfl, rfl, wn1⟩ := open_int Tryz.underlying5 (hval 1 5 v1 rfl rfl) h1
  have hn1 : 0 ≤ n1 ∧ n1 ≤ 255 := by simpa [Lit.wf, IntKind.min, IntKind.max, IntKind.signed, IntKind.bits] using wn1
  simp only [List.append_nil] at hW'
  have hlt : ∀ x ∈ p0, x.block < W.heap.size := fun x hx => by simpa using hW'.lt x hx
  have hL' : laidMet Tryz.prog listData W ∧ handlesMet Tryz.prog laidHandle W := hL
  have hV := laid_of_handles hL'.2
  refine (PRefs_any _ l0 n1 W hV hl0 hn1.1 hn1.2).mono fun e W' ⟨he, hb⟩ => ?_
  subst he
  exact ⟨_, rfl, _, _, _, [], _, [], hW', trodAll_mk1 (shut_bool Tryz.underlying4 _), trodAll_mk2 (Below.trod Tryz.laidOut_pinsRefs (by kernel_rfl) (of_decide_eq_true (by kernel_rfl)) h0k hb.below (fun x hx => hlt x (by simp [hx]))) (shut_int Tryz.underlying5 wn1), rfl, hb.below.frame _, fun h => by cases h⟩

theorem pinsRefs_said : Rows.PinsRefsSaid :=
  OpenClaim.holds_of_wide 5 Tryz.f5 rfl rfl rfl rfl rfl rfl rfl ⟨rfl, rfl, rfl, rfl, rfl⟩ rfl rfl rfl rfl rfl (by kernel_rfl) Tryz.func5 (by kernel_rfl)
    (of_decide_eq_true (by kernel_rfl)) (by unfold Func.isWrapper; first | (rw [if_pos (by decide +kernel)]; kernel_rfl) | (rw [if_neg (by decide +kernel)]; exact ⟨rfl, rfl⟩))
    (fun os started H enc _ => pinsRefs_lifted os started H enc)

theorem pinsRefs_holds : Rows.PinsRefsCardSaid :=
  Claim7.holds_tied_plain_at .later [] [.data, .handle, .pinned] true Rows.pinsRefsCard.stood.harness true pinsRefs_said (fun _ h => by cases h) (by kernel_rfl) (fun _ h => by cases h) pinsRefs_row_tie rfl ⟨rfl, rfl⟩ (by kernel_rfl) rfl
    (fun f fn hf hfn => by
      obtain rfl : f = 5 := Option.some.inj ((show Tryz.prog.funcNamed "shale/shalelaw22.PinsRefs" = some 5 by kernel_rfl).symm.trans hf) |>.symm
      obtain rfl : fn = Tryz.f5 := (Option.some.inj (Tryz.func5.symm.trans hfn)).symm
      exact ⟨by kernel_rfl, fun j t ht => by
        rw [Tryz.params5] at ht
        have hm : t ∈ [41, 5] := by simpa using Array.mem_of_getElem? ht
        have hall : ([41, 5].all fun u => !Tryz.prog.wantsStandIn u) = true := by kernel_rfl
        exact (show Tryz.prog.wantsStandIn t = false by simpa using List.all_eq_true.1 hall t hm)⟩)
    (by kernel_rfl)
#print axioms pinsRefs_holds
end Go.Proofs.YtknfaabhlcdeoaaGreatDoor
