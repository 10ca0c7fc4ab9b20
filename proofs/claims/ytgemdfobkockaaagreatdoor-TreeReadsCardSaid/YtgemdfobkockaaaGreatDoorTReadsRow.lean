/- THE ROW OF 'shalelaw11.TreeReads', PROVED, AND ITS TIED CARD: for every list of entries, every three texts and every number the law returns true, and the input reads as it did, where the variables that the row lists start as the program's text lays them. -/
import Derived.Test.YtgemdfobkockaaaGreatDoorListArg
import Derived.Test.YtgemdfobkockaaaGreatDoorTReads
import Derived.Test.YtgemdfobkockaaaGreatDoorArg5
import Derived.Test.YtgemdfobkockaaaGreatDoorCards
import Derived.Test.YtgemdfobkockaaaGreatDoorTie
import Derived.SevenTiedAt
import Derived.Carry
namespace Go.Proofs.YtgemdfobkockaaaGreatDoor
open Go.ChangeShapes Go.WideShapes Go.RowKit Go
open Go.ChangeMaps (open_string shut_string)

theorem treeReads_met (os : Os) (args : Array Value) : laidMetH Tryz.prog Rows.treeReadsRow.laid ((listWorld os).forCall (fun _ _ => 0) ⟨#[], args, []⟩).memory :=
  laidMetH_of_parts ((list_data os).of_heap (by simp [World.memory, World.forCall, Input.heap])) (by kernel_rfl)

theorem Tryz.laidOut_treeReads : laidOutB Tryz.prog = true := by kernel_rfl

set_option maxRecDepth 100000 in
theorem treeReads_lifted (os : Os) (started : os.Started) (H : Type) (enc : TypeId × Value → H) :
    ReturnsInHanded {} Tryz.checked os 9 .any (fun w args => (Rows.treeReadsSpec.pre enc Tryz.prog Tryz.f9 [] false w args ∧ laidMetH Tryz.prog Rows.treeReadsRow.laid w) ∧ sizedMet enc Tryz.prog Tryz.f9 (OpenSpec.ofChange Rows.treeReadsSpec) false w args)
      (Rows.treeReadsSpec.post enc Tryz.prog Tryz.f9 false true false false) := by
  refine handed_and_shaped (C := Tryz.checked) (X := fun w _ => laidMetH Tryz.prog Rows.treeReadsRow.laid w) (fun _ _ _ hh h => h.of_heap hh) Tryz.ownRow started (by kernel_rfl) Tryz.func9
    (ChangeSpec.witness_shaped (enc := enc) (C := Tryz.checked) (os := os) (X := fun w _ => laidMetH Tryz.prog Rows.treeReadsRow.laid w) false (listWorld os) #[.slice none 0 0, .string ⟨#[]⟩, .string ⟨#[]⟩, .int .u8 0, .string ⟨#[]⟩] 8 (listWorld_os os)
      (World.shaped_of_ZipB (by kernel_rfl) (by kernel_rfl)) (by kernel_rfl) (by kernel_rfl) (by kernel_rfl) (treeReads_met os _)) ?_
  intro W base args ds gs before hval0 hW hsz hsh hL
  have hval : ∀ (j : Nat) t v, Tryz.f9.params[j]? = some t → args[j]? = some v → Value.okWide Tryz.prog W .any base t v := hval0
  have hW' := hW
  obtain ⟨p, q, hA0, hV, rfl, _, _⟩ := hW
  have hA : DataW.TrodAll enc Tryz.prog W 0 (fun _ => true) true Tryz.f9.params.toList args.toList ds p := hA0
  rw [Tryz.params9] at hA hval hsz
  obtain ⟨v0, v1, v2, v3, v4, d0, d1, d2, d3, d4, p0, p1, p2, p3, p4, rfl, rfl, rfl, h0, h1, h2, h3, h4⟩ := trodAll_five hA
  obtain ⟨rfl, rfl⟩ := trodVars_none hV
  obtain ⟨A0, len0, cap0, rfl⟩ := okWide_slice Tryz.underlying40 (hval 0 40 v0 rfl rfl)
  have h0k := h0
  obtain ⟨fu0, hf0⟩ := h0
  obtain ⟨l0, hl0⟩ := ents_in hf0 (fitD_of hsz (j := 0) rfl rfl)
  obtain ⟨s1, rfl, rfl, rfl, hs1⟩ := open_string Tryz.underlying9 (hval 1 9 v1 rfl rfl) h1
  have hz1 : s1.size ≤ 140737488355328 := by
    have h1 := fitD_of hsz (j := 1) rfl rfl s1.data.toList.length (by simp [DataW.weights])
    have h2 := reachBytes_lt
    rw [Array.length_toList] at h1
    show s1.data.size ≤ _
    omega
  obtain ⟨s2, rfl, rfl, rfl, hs2⟩ := open_string Tryz.underlying9 (hval 2 9 v2 rfl rfl) h2
  have hz2 : s2.size ≤ 140737488355328 := by
    have h1 := fitD_of hsz (j := 2) rfl rfl s2.data.toList.length (by simp [DataW.weights])
    have h2 := reachBytes_lt
    rw [Array.length_toList] at h1
    show s2.data.size ≤ _
    omega
  obtain ⟨n3, rfl, rfl, rfl, wn3⟩ := open_int Tryz.underlying5 (hval 3 5 v3 rfl rfl) h3
  have hn3 : 0 ≤ n3 ∧ n3 ≤ 255 := by simpa [Lit.wf, IntKind.min, IntKind.max, IntKind.signed, IntKind.bits] using wn3
  obtain ⟨s4, rfl, rfl, rfl, hs4⟩ := open_string Tryz.underlying9 (hval 4 9 v4 rfl rfl) h4
  have hz4 : s4.size ≤ 140737488355328 := by
    have h1 := fitD_of hsz (j := 4) rfl rfl s4.data.toList.length (by simp [DataW.weights])
    have h2 := reachBytes_lt
    rw [Array.length_toList] at h1
    show s4.data.size ≤ _
    omega
  simp only [List.append_nil] at hW'
  have hlt : ∀ x ∈ p0, x.block < W.heap.size := fun x hx => by simpa using hW'.lt x hx
  have hL' : laidMet Tryz.prog listData W ∧ handlesMet Tryz.prog laidHandle W := hL
  have hV := laid_of_handles hL'.2
  refine (TreeReads_any _ l0 s1 s2 s4 n3 W hn3 hV hl0).mono fun e W' ⟨he, hb⟩ => ?_
  subst he
  exact ⟨_, rfl, _, _, _, [], _, [], hW', trodAll_mk1 (shut_bool Tryz.underlying4 _), trodAll_mk5 (Below.trod Tryz.laidOut_treeReads (by kernel_rfl) (of_decide_eq_true (by kernel_rfl)) h0k hb.below (fun x hx => hlt x (by simp [hx]))) (shut_string Tryz.underlying9 hs1) (shut_string Tryz.underlying9 hs2) (shut_int Tryz.underlying5 wn3) (shut_string Tryz.underlying9 hs4), rfl, hb.below.frame _, fun h => by cases h⟩

theorem treeReads_said : Rows.TreeReadsSaid :=
  OpenClaim.holds_of_wide 9 Tryz.f9 rfl rfl rfl rfl rfl rfl rfl ⟨rfl, rfl, rfl, rfl, rfl⟩ rfl rfl rfl rfl rfl (by kernel_rfl) Tryz.func9 (by kernel_rfl)
    (of_decide_eq_true (by kernel_rfl)) (by unfold Func.isWrapper; first | (rw [if_pos (by decide +kernel)]; kernel_rfl) | (rw [if_neg (by decide +kernel)]; exact ⟨rfl, rfl⟩))
    (fun os started H enc _ => treeReads_lifted os started H enc)

theorem treeReads_holds : Rows.TreeReadsCardSaid :=
  Claim7.holds_tied_plain_at .later [] [.data, .handle, .pinned] true Rows.treeReadsCard.stood.harness true treeReads_said (fun _ h => by cases h) (by kernel_rfl) (fun _ h => by cases h) treeReads_row_tie rfl ⟨rfl, rfl⟩ (by kernel_rfl) rfl
    (fun f fn hf hfn => by
      obtain rfl : f = 9 := Option.some.inj ((show Tryz.prog.funcNamed "shale/shalelaw11.TreeReads" = some 9 by kernel_rfl).symm.trans hf) |>.symm
      obtain rfl : fn = Tryz.f9 := (Option.some.inj (Tryz.func9.symm.trans hfn)).symm
      exact ⟨by kernel_rfl, fun j t ht => by
        rw [Tryz.params9] at ht
        have hm : t ∈ [40, 9, 9, 5, 9] := by simpa using Array.mem_of_getElem? ht
        have hall : ([40, 9, 9, 5, 9].all fun u => !Tryz.prog.wantsStandIn u) = true := by kernel_rfl
        exact (show Tryz.prog.wantsStandIn t = false by simpa using List.all_eq_true.1 hall t hm)⟩)
    (by kernel_rfl)
#print axioms treeReads_holds
end Go.Proofs.YtgemdfobkockaaaGreatDoor
