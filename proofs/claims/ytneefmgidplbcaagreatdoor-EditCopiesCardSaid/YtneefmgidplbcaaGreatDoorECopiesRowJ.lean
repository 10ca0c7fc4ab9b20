/- THE ROW OF 'shalelaw14.EditCopies', PROVED, AND ITS TIED CARD: for every stack, two texts and every number the law returns true, and the input reads as it did, where the variables that the row lists start as the program's text lays them. -/
import Derived.Test.YtneefmgidplbcaaGreatDoorJE6
import Derived.Test.YtneefmgidplbcaaGreatDoorECopiesJ
import Derived.Test.YtneefmgidplbcaaGreatDoorCards
import Derived.Test.YtneefmgidplbcaaGreatDoorTie
import Derived.SevenTiedAt
import Derived.Carry
namespace Go.Proofs.YtneefmgidplbcaaGreatDoor
open Go.ChangeShapes Go.WideShapes Go.RowKit Go
open Go.ChangeMaps (open_string shut_string)

theorem editCopies_met (os : Os) (args : Array Value) : laidMetH Tryz.prog Rows.editCopiesRow.laid ((listWorld os).forCall (fun _ _ => 0) ⟨#[], args, []⟩).memory :=
  laidMetH_of_parts ((list_data os).of_heap (by simp [World.memory, World.forCall, Input.heap])) (by kernel_rfl)

theorem Tryz.laidOut_editCopies : laidOutB Tryz.prog = true := by kernel_rfl

set_option maxRecDepth 100000 in
theorem editCopies_lifted (os : Os) (started : os.Started) (H : Type) (enc : TypeId × Value → H) :
    ReturnsInHanded {} Tryz.checked os 7 .any (fun w args => (Rows.editCopiesSpec.pre enc Tryz.prog Tryz.f7 [] false w args ∧ laidMetH Tryz.prog Rows.editCopiesRow.laid w) ∧ sizedMet enc Tryz.prog Tryz.f7 (OpenSpec.ofChange Rows.editCopiesSpec) false w args)
      (Rows.editCopiesSpec.post enc Tryz.prog Tryz.f7 false true false false) := by
  refine handed_and_shaped (C := Tryz.checked) (X := fun w _ => laidMetH Tryz.prog Rows.editCopiesRow.laid w) (fun _ _ _ hh h => h.of_heap hh) Tryz.ownRow started (by kernel_rfl) Tryz.func7
    (ChangeSpec.witness_shaped (enc := enc) (C := Tryz.checked) (os := os) (X := fun w _ => laidMetH Tryz.prog Rows.editCopiesRow.laid w) false (listWorld os) #[.slice none 0 0, .string ⟨#[]⟩, .int .u8 0, .string ⟨#[]⟩] 8 (listWorld_os os)
      (World.shaped_of_ZipB (by kernel_rfl) (by kernel_rfl)) (by kernel_rfl) (by kernel_rfl) (by kernel_rfl) (editCopies_met os _)) ?_
  intro W base args ds gs before hval0 hW hsz hsh hL
  have hval : ∀ (j : Nat) t v, Tryz.f7.params[j]? = some t → args[j]? = some v → Value.okWide Tryz.prog W .any base t v := hval0
  have hW' := hW
  obtain ⟨p, q, hA0, hV, rfl, _, _⟩ := hW
  have hA : DataW.TrodAll enc Tryz.prog W 0 (fun _ => true) true Tryz.f7.params.toList args.toList ds p := hA0
  rw [Tryz.params7] at hA hval hsz
  obtain ⟨v0, v1, v2, v3, d0, d1, d2, d3, p0, p1, p2, p3, rfl, rfl, rfl, h0, h1, h2, h3⟩ := trodAll_four hA
  obtain ⟨rfl, rfl⟩ := trodVars_none hV
  obtain ⟨A0, len0, cap0, rfl⟩ := okWide_slice Tryz.underlying22 (hval 0 22 v0 rfl rfl)
  have h0k := h0
  obtain ⟨fu0, hf0⟩ := h0
  obtain ⟨l0, hl0⟩ := stack_in hf0 (fitD_of hsz (j := 0) rfl rfl)
  obtain ⟨s1, rfl, rfl, rfl, hs1⟩ := open_string Tryz.underlying9 (hval 1 9 v1 rfl rfl) h1
  have hz1 : s1.size ≤ 140737488355328 := by
    have h1 := fitD_of hsz (j := 1) rfl rfl s1.data.toList.length (by simp [DataW.weights])
    have h2 := reachBytes_lt
    rw [Array.length_toList] at h1
    show s1.data.size ≤ _
    omega
  obtain ⟨n2, rfl, rfl, rfl, wn2⟩ := open_int Tryz.underlying5 (hval 2 5 v2 rfl rfl) h2
  have hn2 : 0 ≤ n2 ∧ n2 ≤ 255 := by simpa [Lit.wf, IntKind.min, IntKind.max, IntKind.signed, IntKind.bits] using wn2
  obtain ⟨s3, rfl, rfl, rfl, hs3⟩ := open_string Tryz.underlying9 (hval 3 9 v3 rfl rfl) h3
  have hz3 : s3.size ≤ 140737488355328 := by
    have h1 := fitD_of hsz (j := 3) rfl rfl s3.data.toList.length (by simp [DataW.weights])
    have h2 := reachBytes_lt
    rw [Array.length_toList] at h1
    show s3.data.size ≤ _
    omega
  simp only [List.append_nil] at hW'
  have hlt : ∀ x ∈ p0, x.block < W.heap.size := fun x hx => by simpa using hW'.lt x hx
  have hL' : laidMet Tryz.prog listData W ∧ handlesMet Tryz.prog laidHandle W := hL
  have hV := laid_of_handles hL'.2
  refine (EditCopies_any _ l0 s1 s3 n2 W hV hl0 hn2).mono fun e W' ⟨he, hb⟩ => ?_
  subst he
  exact ⟨_, rfl, _, _, _, [], _, [], hW', trodAll_mk1 (shut_bool Tryz.underlying4 _), trodAll_mk4 (Below.trod Tryz.laidOut_editCopies (by kernel_rfl) (of_decide_eq_true (by kernel_rfl)) h0k hb.below (fun x hx => hlt x (by simp [hx]))) (shut_string Tryz.underlying9 hs1) (shut_int Tryz.underlying5 wn2) (shut_string Tryz.underlying9 hs3), rfl, hb.below.frame _, fun h => by cases h⟩

theorem editCopies_said : Rows.EditCopiesSaid :=
  OpenClaim.holds_of_wide 7 Tryz.f7 rfl rfl rfl rfl rfl rfl rfl ⟨rfl, rfl, rfl, rfl, rfl⟩ rfl rfl rfl rfl rfl (by kernel_rfl) Tryz.func7 (by kernel_rfl)
    (of_decide_eq_true (by kernel_rfl)) (by unfold Func.isWrapper; first | (rw [if_pos (by decide +kernel)]; kernel_rfl) | (rw [if_neg (by decide +kernel)]; exact ⟨rfl, rfl⟩))
    (fun os started H enc _ => editCopies_lifted os started H enc)

theorem editCopies_holds : Rows.EditCopiesCardSaid :=
  Claim7.holds_tied_plain_at .later [] [.data, .handle, .pinned] true Rows.editCopiesCard.stood.harness true editCopies_said (fun _ h => by cases h) (by kernel_rfl) (fun _ h => by cases h) editCopies_row_tie rfl ⟨rfl, rfl⟩ (by kernel_rfl) rfl
    (fun f fn hf hfn => by
      obtain rfl : f = 7 := Option.some.inj ((show Tryz.prog.funcNamed "shale/shalelaw14.EditCopies" = some 7 by kernel_rfl).symm.trans hf) |>.symm
      obtain rfl : fn = Tryz.f7 := (Option.some.inj (Tryz.func7.symm.trans hfn)).symm
      exact ⟨by kernel_rfl, fun j t ht => by
        rw [Tryz.params7] at ht
        have hm : t ∈ [22, 9, 5, 9] := by simpa using Array.mem_of_getElem? ht
        have hall : ([22, 9, 5, 9].all fun u => !Tryz.prog.wantsStandIn u) = true := by kernel_rfl
        exact (show Tryz.prog.wantsStandIn t = false by simpa using List.all_eq_true.1 hall t hm)⟩)
    (by kernel_rfl)
#print axioms editCopies_holds
end Go.Proofs.YtneefmgidplbcaaGreatDoor
