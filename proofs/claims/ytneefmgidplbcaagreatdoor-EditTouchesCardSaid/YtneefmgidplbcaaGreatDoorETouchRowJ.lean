/- THE ROW OF 'shalelaw14.EditTouches', PROVED, AND ITS TIED CARD: for every stack, every layer and every op the law returns true, and the input reads as it did, where the variables that the row lists start as the program's text lays them. -/
import Derived.Test.YtneefmgidplbcaaGreatDoorJE6
import Derived.Test.YtneefmgidplbcaaGreatDoorETouchJ
import Derived.Test.YtneefmgidplbcaaGreatDoorCards
import Derived.Test.YtneefmgidplbcaaGreatDoorTie
import Derived.SevenTiedAt
import Derived.Carry
namespace Go.Proofs.YtneefmgidplbcaaGreatDoor
open Go.ChangeShapes Go.WideShapes Go.RowKit Go
open Go.ChangeMaps (open_string shut_string)

theorem editTouches_met (os : Os) (args : Array Value) : laidMetH Tryz.prog Rows.editTouchesRow.laid ((listWorld os).forCall (fun _ _ => 0) ⟨#[], args, []⟩).memory :=
  laidMetH_of_parts ((list_data os).of_heap (by simp [World.memory, World.forCall, Input.heap])) (by kernel_rfl)

theorem Tryz.laidOut_editTouches : laidOutB Tryz.prog = true := by kernel_rfl

set_option maxRecDepth 100000 in
theorem editTouches_lifted (os : Os) (started : os.Started) (H : Type) (enc : TypeId × Value → H) :
    ReturnsInHanded {} Tryz.checked os 5 .any (fun w args => (Rows.editTouchesSpec.pre enc Tryz.prog Tryz.f5 [] false w args ∧ laidMetH Tryz.prog Rows.editTouchesRow.laid w) ∧ sizedMet enc Tryz.prog Tryz.f5 (OpenSpec.ofChange Rows.editTouchesSpec) false w args)
      (Rows.editTouchesSpec.post enc Tryz.prog Tryz.f5 false true false false) := by
  refine handed_and_shaped (C := Tryz.checked) (X := fun w _ => laidMetH Tryz.prog Rows.editTouchesRow.laid w) (fun _ _ _ hh h => h.of_heap hh) Tryz.ownRow started (by kernel_rfl) Tryz.func5
    (ChangeSpec.witness_shaped (enc := enc) (C := Tryz.checked) (os := os) (X := fun w _ => laidMetH Tryz.prog Rows.editTouchesRow.laid w) false (listWorld os) #[.slice none 0 0, .slice none 0 0, .agg #[.int .i64 0, .string ⟨#[]⟩, .string ⟨#[]⟩, .int .i64 0, .string ⟨#[]⟩]] 8 (listWorld_os os)
      (World.shaped_of_ZipB (by kernel_rfl) (by kernel_rfl)) (by kernel_rfl) (by kernel_rfl) (by kernel_rfl) (editTouches_met os _)) ?_
  intro W base args ds gs before hval0 hW hsz hsh hL
  have hval : ∀ (j : Nat) t v, Tryz.f5.params[j]? = some t → args[j]? = some v → Value.okWide Tryz.prog W .any base t v := hval0
  have hW' := hW
  obtain ⟨p, q, hA0, hV, rfl, _, _⟩ := hW
  have hA : DataW.TrodAll enc Tryz.prog W 0 (fun _ => true) true Tryz.f5.params.toList args.toList ds p := hA0
  rw [Tryz.params5] at hA hval hsz
  obtain ⟨v0, v1, v2, d0, d1, d2, p0, p1, p2, rfl, rfl, rfl, h0, h1, h2⟩ := trodAll_three hA
  obtain ⟨rfl, rfl⟩ := trodVars_none hV
  obtain ⟨A0, len0, cap0, rfl⟩ := okWide_slice Tryz.underlying22 (hval 0 22 v0 rfl rfl)
  have h0k := h0
  obtain ⟨fu0, hf0⟩ := h0
  obtain ⟨l0, hl0⟩ := stack_in hf0 (fitD_of hsz (j := 0) rfl rfl)
  obtain ⟨A1, len1, cap1, rfl⟩ := okWide_slice Tryz.underlying54 (hval 1 54 v1 rfl rfl)
  have h1k := h1
  obtain ⟨fu1, hf1⟩ := h1
  obtain ⟨l1, hl1⟩ := ents_in hf1 (fitD_of hsz (j := 1) rfl rfl)
  obtain ⟨cs2, rfl, hcs2⟩ := okWide_struct Tryz.underlying57 (hval 2 57 v2 rfl rfl)
  have h2k := h2
  obtain ⟨fu2, hf2⟩ := h2
  obtain ⟨x2, hx2⟩ := op_trod (cs := cs2.toList) (by simpa [Value.cells] using hf2) (fitD_of hsz (j := 2) rfl rfl)
  obtain ⟨hxc2, hxf2⟩ := hx2
  have hxa2 : cs2 = #[.int .i64 x2.act, .string x2.p, .string x2.q, .int .i64 x2.n, .string x2.s] := by
    cases cs2
    simpa using hxc2
  subst hxa2
  simp only [List.append_nil] at hW'
  have hlt : ∀ x ∈ p0 ++ p1 ++ p2, x.block < W.heap.size := fun x hx => by simpa using hW'.lt x hx
  have hL' : laidMet Tryz.prog listData W ∧ handlesMet Tryz.prog laidHandle W := hL
  have hV := laid_of_handles hL'.2
  refine (EditTouches_any _ _ l0 l1 x2 W hV hl0 hl1 hxf2).mono fun e W' ⟨he, hb⟩ => ?_
  subst he
  exact ⟨_, rfl, _, _, _, [], _, [], hW', trodAll_mk1 (shut_bool Tryz.underlying4 _), trodAll_mk3 (Below.trod Tryz.laidOut_editTouches (by kernel_rfl) (of_decide_eq_true (by kernel_rfl)) h0k hb.below (fun x hx => hlt x (by simp [hx]))) (Below.trod Tryz.laidOut_editTouches (by kernel_rfl) (of_decide_eq_true (by kernel_rfl)) h1k hb.below (fun x hx => hlt x (by simp [hx]))) (Below.trod Tryz.laidOut_editTouches (by kernel_rfl) (of_decide_eq_true (by kernel_rfl)) h2k hb.below (fun x hx => hlt x (by simp [hx]))), rfl, hb.below.frame _, fun h => by cases h⟩

theorem editTouches_said : Rows.EditTouchesSaid :=
  OpenClaim.holds_of_wide 5 Tryz.f5 rfl rfl rfl rfl rfl rfl rfl ⟨rfl, rfl, rfl, rfl, rfl⟩ rfl rfl rfl rfl rfl (by kernel_rfl) Tryz.func5 (by kernel_rfl)
    (of_decide_eq_true (by kernel_rfl)) (by unfold Func.isWrapper; first | (rw [if_pos (by decide +kernel)]; kernel_rfl) | (rw [if_neg (by decide +kernel)]; exact ⟨rfl, rfl⟩))
    (fun os started H enc _ => editTouches_lifted os started H enc)

theorem editTouches_holds : Rows.EditTouchesCardSaid :=
  Claim7.holds_tied_plain_at .later [] [.data, .handle, .pinned] true Rows.editTouchesCard.stood.harness true editTouches_said (fun _ h => by cases h) (by kernel_rfl) (fun _ h => by cases h) editTouches_row_tie rfl ⟨rfl, rfl⟩ (by kernel_rfl) rfl
    (fun f fn hf hfn => by
      obtain rfl : f = 5 := Option.some.inj ((show Tryz.prog.funcNamed "shale/shalelaw14.EditTouches" = some 5 by kernel_rfl).symm.trans hf) |>.symm
      obtain rfl : fn = Tryz.f5 := (Option.some.inj (Tryz.func5.symm.trans hfn)).symm
      exact ⟨by kernel_rfl, fun j t ht => by
        rw [Tryz.params5] at ht
        have hm : t ∈ [22, 54, 57] := by simpa using Array.mem_of_getElem? ht
        have hall : ([22, 54, 57].all fun u => !Tryz.prog.wantsStandIn u) = true := by kernel_rfl
        exact (show Tryz.prog.wantsStandIn t = false by simpa using List.all_eq_true.1 hall t hm)⟩)
    (by kernel_rfl)
#print axioms editTouches_holds
end Go.Proofs.YtneefmgidplbcaaGreatDoor
