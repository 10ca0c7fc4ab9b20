/- shalelaw22.PinsPlays is true: for every stack and every row of calls; how calls read as an argument. -/
import Derived.Test.YthadldnojdjlnaaGreatDoorJP6
import Derived.Test.YthadldnojdjlnaaGreatDoorJP1
set_option linter.unusedSimpArgs false
set_option linter.unusedVariables false
namespace Go.Proofs.YthadldnojdjlnaaGreatDoor
section
open Go Go.RowKit Go.Shelf Go.Proofs Go.Maps

set_option maxRecDepth 100000 in
set_option maxHeartbeats 8000000 in
theorem plays_let (v u : Value) (s : List (List Ent)) (xs : List Act22) (w : World) (hL : Laid w) (hv : RdK w v s) (hu : ActsIn w u xs) (h : ¬ (fewOk s = true ∧ xs.length ≤ 60)) :
    Calls Tryz.prog 3 #[v, u] w fun e w' => e = .returned (.bool true) ∧ Ext w w' := by
  have HA := fun w' h => awake_any w' (Laid.ext hL h)
  have Hv := Lib.hid hv
  obtain ⟨A, c, rfl, _, _, _⟩ := RdK.form hv rfl
  obtain ⟨_, A1, c1, rfl, hc1, hc2, _⟩ := hu
  obtain ⟨n, hn⟩ : ∃ n, xs.length = n := ⟨_, rfl⟩
  rw [hn] at hc1 h ⊢
  clear hv hn
  rcases hf : fewOk s with _ | _
  · have HF := fun w => few_no (v := .slice A s.length c) hf w
    clear hf h
    go_enter Tryz.func3, Tryz.ntmps3
    go_wp2_with (first | (go_at_call 4; refine (HA _ (by exact (by repeat (first | exact Ext.refl _ | assumption | refine Ext.alloc ?_ _ | refine Ext.drew ?_ | refine Ext.drewN ?_ _ | refine Ext.setCell ?_ (by first | omega | (simp; done) | (simp; omega)) _ | refine Ext.trans ?_ (by assumption))))).mono ?_; rintro e W1 ⟨rfl, hE1⟩; have hE1w : Ext w W1 := by exact (by repeat (first | exact Ext.refl _ | assumption | refine Ext.alloc ?_ _ | refine Ext.drew ?_ | refine Ext.drewN ?_ _ | refine Ext.setCell ?_ (by first | omega | (simp; done) | (simp; omega)) _ | refine Ext.trans ?_ (by assumption)))) | (go_at_call 5; refine (HF _ (Hv.out.ext (by exact (by repeat (first | exact Ext.refl _ | assumption | refine Ext.alloc ?_ _ | refine Ext.drew ?_ | refine Ext.drewN ?_ _ | refine Ext.setCell ?_ (by first | omega | (simp; done) | (simp; omega)) _ | refine Ext.trans ?_ (by assumption)))))).mono ?_; rintro e W2 ⟨rfl, hE2⟩; have hE2w : Ext w W2 := by exact (by repeat (first | exact Ext.refl _ | assumption | refine Ext.alloc ?_ _ | refine Ext.drew ?_ | refine Ext.drewN ?_ _ | refine Ext.setCell ?_ (by first | omega | (simp; done) | (simp; omega)) _ | refine Ext.trans ?_ (by assumption)))))
    go_ret
    exact ⟨rfl, by exact (by repeat (first | exact Ext.refl _ | assumption | refine Ext.alloc ?_ _ | refine Ext.drew ?_ | refine Ext.drewN ?_ _ | refine Ext.setCell ?_ (by first | omega | (simp; done) | (simp; omega)) _ | refine Ext.trans ?_ (by assumption)))⟩
  · have HF := fun w => few_yes (v := .slice A s.length c) hf w
    have hl' : (60 : Int) < (n : Int) := by
      have : ¬ n ≤ 60 := fun h2 => h ⟨hf, h2⟩
      omega
    clear hf h
    go_enter Tryz.func3, Tryz.ntmps3
    go_wp2_with (first | (go_at_call 4; refine (HA _ (by exact (by repeat (first | exact Ext.refl _ | assumption | refine Ext.alloc ?_ _ | refine Ext.drew ?_ | refine Ext.drewN ?_ _ | refine Ext.setCell ?_ (by first | omega | (simp; done) | (simp; omega)) _ | refine Ext.trans ?_ (by assumption))))).mono ?_; rintro e W1 ⟨rfl, hE1⟩; have hE1w : Ext w W1 := by exact (by repeat (first | exact Ext.refl _ | assumption | refine Ext.alloc ?_ _ | refine Ext.drew ?_ | refine Ext.drewN ?_ _ | refine Ext.setCell ?_ (by first | omega | (simp; done) | (simp; omega)) _ | refine Ext.trans ?_ (by assumption)))) | (go_at_call 5; refine (HF _ (Hv.out.ext (by exact (by repeat (first | exact Ext.refl _ | assumption | refine Ext.alloc ?_ _ | refine Ext.drew ?_ | refine Ext.drewN ?_ _ | refine Ext.setCell ?_ (by first | omega | (simp; done) | (simp; omega)) _ | refine Ext.trans ?_ (by assumption)))))).mono ?_; rintro e W2 ⟨rfl, hE2⟩; have hE2w : Ext w W2 := by exact (by repeat (first | exact Ext.refl _ | assumption | refine Ext.alloc ?_ _ | refine Ext.drew ?_ | refine Ext.drewN ?_ _ | refine Ext.setCell ?_ (by first | omega | (simp; done) | (simp; omega)) _ | refine Ext.trans ?_ (by assumption)))))
    go_ret
    exact ⟨rfl, by exact (by repeat (first | exact Ext.refl _ | assumption | refine Ext.alloc ?_ _ | refine Ext.drew ?_ | refine Ext.drewN ?_ _ | refine Ext.setCell ?_ (by first | omega | (simp; done) | (simp; omega)) _ | refine Ext.trans ?_ (by assumption)))⟩

theorem PinsPlays_any (v u : Value) (s : List (List Ent)) (xs : List Act22) (w : World) (hL : Laid w) (hv : RdK w v s) (hu : ActsIn w u xs) :
    Calls Tryz.prog 3 #[v, u] w fun e w' => e = .returned (.bool true) ∧ Ext w w' := by
  by_cases h : fewOk s = true ∧ xs.length ≤ 60
  · exact plays_main v u s xs w hL hv h.1 hu h.2
  · exact plays_let v u s xs w hL hv hu h
end

section
open Go.ChangeShapes Go.WideShapes Go.RowKit Go
instance inhAct : Inhabited Act22 := ⟨⟨0, ⟨#[]⟩, 0, 0, 0⟩⟩
def RA (_ : World) (x : Act22) (cs : List Value) : Prop := cs = [.int .u8 x.dO, .string x.p, .int .i64 x.id, .int .i64 x.at_, .int .i64 x.n] ∧ x.fits
theorem Tryz.cellsAct : Tryz.prog.cellsOf 31 = 5 := by kernel_rfl
theorem Tryz.cellsU8P : Tryz.prog.cellsOf 5 = 1 := by kernel_rfl
set_option maxRecDepth 20000 in
set_option maxHeartbeats 4000000 in
theorem act_trod {H : Type} {enc : TypeId × Value → H} {w : World} {base : Nat} {spare : Nat → Bool} {held : Bool} {n : Nat} {cs : List Value} {d : DataW H} {pl : List MemPlace}
    (h : DataW.trod enc Tryz.prog w base spare held n 31 cs = some (d, pl)) (hw : FitD 31 d) : ∃ x : Act22, RA w x cs := by
  obtain ⟨xs, m, _, hxe, hl, hx, hf⟩ := DataW.trod_struct Tryz.underlying31 h
  rw [Tryz.cellsAct] at hl
  match cs, hl with
  | [c0, c1, c2, c3, c4], _ =>
    have g0 := hf 0 _ rfl
    have g1 := hf 1 _ rfl
    have g2 := hf 2 _ rfl
    have g3 := hf 3 _ rfl
    have g4 := hf 4 _ rfl
    match xs, hx with
    | [y0, y1, y2, y3, y4], _ =>
      simp [Tryz.cellsStrL, Tryz.cellsIntL, Tryz.cellsU8P] at g0 g1 g2 g3 g4
      obtain ⟨z0, e0, x0, f0⟩ := DataW.trod_int Tryz.underlying5 g0
      obtain ⟨s1, e1, x1, _⟩ := DataW.trod_string Tryz.underlying9 g1
      obtain ⟨z2, e2, x2, f2⟩ := DataW.trod_int Tryz.underlying3 g2
      obtain ⟨z3, e3, x3, f3⟩ := DataW.trod_int Tryz.underlying3 g3
      obtain ⟨z4, e4, x4, f4⟩ := DataW.trod_int Tryz.underlying3 g4
      cases e0
      cases e1
      cases e2
      cases e3
      cases e4
      subst x0
      subst x1
      subst x2
      subst x3
      subst x4
      cases hxe
      have hr := reachBytes_lt
      have k1 : s1.data.toList.length ≤ reachBytes := hw _ (by
        rw [DataW.weights, Tryz.underlying31]
        simp [DataW.weightsEach, DataW.weights])
      rw [Array.length_toList] at k1
      have f0' : 0 ≤ z0 ∧ z0 ≤ 255 := by simpa [Lit.wf, IntKind.min, IntKind.max, IntKind.signed, IntKind.bits] using f0
      refine ⟨⟨z0, s1, z2, z3, z4⟩, rfl, f0'.1, f0'.2, ?_, f2, f3, f4⟩
      show s1.data.size ≤ _
      omega

theorem acts22_in {H : Type} {enc : TypeId × Value → H} {W : World} {hd : Bool} {fuel : Nat} {A : Option Addr} {n c : Nat} {d : DataW H} {p : List MemPlace}
    (h : DataW.trod enc Tryz.prog W 0 (fun _ => true) hd fuel 23 [.slice A n c] = some (d, p)) (hw : FitD 23 d) : ∃ l, ActsIn W (.slice A n c) l := by
  obtain ⟨l, A', c', e, h1, h2, h3, h4⟩ := rd_of_trod (R := RA) (W := W) Tryz.underlying23 Tryz.cellsAct (by omega) (by_ := 48) (by kernel_rfl) (by omega) (fun x cs h => by rw [h.1]; rfl) (fun n cs d pl h hw => act_trod h hw) h hw
  refine ⟨l, fun x hx => ?_, A', c', e, h1, h2, fun hne => ?_⟩
  · obtain ⟨j, hj, rfl⟩ := List.getElem_of_mem hx
    obtain ⟨b, o, _, hc⟩ := h4 (List.ne_nil_of_mem hx)
    obtain ⟨cs, h5, _⟩ := hc j l[j] (List.getElem?_eq_getElem hj)
    exact h5.2
  · obtain ⟨b, o, ha, hc⟩ := h4 hne
    refine ⟨b, o, ha, fun j hj => ?_⟩
    obtain ⟨cs, ⟨hr, _⟩, h6⟩ := hc j l[j] (List.getElem?_eq_getElem hj)
    subst hr
    exact ⟨h6 0 _ rfl, h6 1 _ rfl, h6 2 _ rfl, h6 3 _ rfl, h6 4 _ rfl⟩
end
end Go.Proofs.YthadldnojdjlnaaGreatDoor
