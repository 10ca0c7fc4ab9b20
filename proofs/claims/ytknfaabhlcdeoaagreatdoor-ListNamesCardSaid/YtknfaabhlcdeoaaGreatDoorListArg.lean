/- What the rows of stacks and layers need: the builder with the sizes, and layers and stacks out of the condition. -/
import Derived.Test.YtknfaabhlcdeoaaGreatDoorRowKit
import Derived.Test.YtknfaabhlcdeoaaGreatDoorLFind
import Derived.HandedShaped
import Derived.Deep.Slices
import Derived.SizedLaws
import Derived.LaidLaws
namespace Go.Proofs.YtknfaabhlcdeoaaGreatDoor
open Go.ChangeShapes Go.WideShapes Go.RowKit Go

theorem handed_and_shaped {H : Type} {enc : TypeId × Value → H} {a : Assume} {C : Checked} {os : Os} {f : FuncId} {fn : Func} {s : ChangeSpec} {conds : List PathCond} {apart fresh handsOn again : Bool} {X : World → Array Value → Prop}
    (hX : ∀ (w w' : World) (args : Array Value), w.heap = w'.heap → X w args → X w' args)
    (own : ownKnob C.prog.godebug = none) (started : os.Started) (noInit : C.prog.inits.idxOf? f = none) (hfn : C.prog.funcs[f]? = some fn)
    (witness : ∃ (w : World) (tape : Tape) (i : Input), w.os = os ∧ (w.forCall tape i).Shaped C.prog ∧ i.vars = [] ∧ Input.okWide C.prog (w.forCall tape i) .any w.heap.size f i ∧
      ((s.pre enc C.prog fn conds apart (w.forCall tape i).memory i.args ∧ X (w.forCall tape i).memory i.args) ∧ sizedMet enc C.prog fn (OpenSpec.ofChange s) apart (w.forCall tape i).memory i.args) ∧ a.holds C.prog (lone (Frame.enter C.prog f i.args .normal) [] (w.forCall tape i)))
    (contract : ∀ (W : World) (base : Nat) (args : Array Value) (ds gs : List (DataW H)) (before : List MemPlace),
      (∀ (j : Nat) t v, fn.params[j]? = some t → args[j]? = some v → Value.okWide C.prog W .any base t v) →
      DataW.Whole enc C.prog fn.params.toList s.vars apart W args.toList ds gs before →
      (DataW.weightsEach C.prog (fn.params.toList ++ s.plain.varTypes C.prog) (ds ++ gs)).all (· ≤ reachBytes) = true → W.ShapedOpen C.prog → X W args →
      Calls C.prog f args W fun e W' => ∃ v, e = .returned v ∧ s.post enc C.prog fn apart fresh handsOn again W args v W') :
    ReturnsInHanded a C os f .any (fun w args => (s.pre enc C.prog fn conds apart w args ∧ X w args) ∧ sizedMet enc C.prog fn (OpenSpec.ofChange s) apart w args) (s.post enc C.prog fn apart fresh handsOn again) := by
  refine returnsInHanded_of_calls own started noInit witness ?_
  intro w tape i _ hsh _ hok hpre hholds
  obtain ⟨_, _, _, fn', hfn', _, _, _, _, hval⟩ := hok
  obtain rfl := Option.some.inj (hfn'.symm.trans hfn)
  obtain ⟨⟨⟨ds, gs, before, hw, hc⟩, hx⟩, hz⟩ := hpre
  refine (contract (w.forCall tape i) w.heap.size i.args ds gs before hval (DataW.Whole.of_heap (w' := w.forCall tape i) (by rfl) hw) (hz.weights hw) hsh (hX _ _ _ (by rfl) hx)).mono fun e W' ⟨v, he, hp⟩ => ?_
  subst he
  exact ChangeSpec.post_blind hp


def listData : List (String × DataW Unit) := [("unicode/utf8.acceptRanges", Rows.laid_unicode_utf8_acceptRanges), ("unicode/utf8.first", Rows.laid_unicode_utf8_first)]
noncomputable def listWorld (os : Os) : World := (handleWorld os).layVars Tryz.prog listData
theorem listWorld_os (os : Os) : (listWorld os).os = os := World.layVars_os _ _ _
theorem list_data (os : Os) : laidMet Tryz.prog listData (listWorld os) := laidMet_over (by kernel_rfl) (by kernel_rfl)

theorem Tryz.cellsIntL : Tryz.prog.cellsOf 3 = 1 := by kernel_rfl
theorem Tryz.cellsStrL : Tryz.prog.cellsOf 9 = 1 := by kernel_rfl
theorem Tryz.cellsEnt : Tryz.prog.cellsOf 33 = 3 := by kernel_rfl
theorem Tryz.cellsEnts : Tryz.prog.cellsOf 34 = 1 := by kernel_rfl

/-- What is read is no greater than memory has room. -/
def FitD {H : Type} (t : TypeId) (d : DataW H) : Prop := ∀ k ∈ d.weights Tryz.prog t, k ≤ reachBytes

theorem fitD_of {H : Type} {ts : List TypeId} {ds : List (DataW H)} (h : (DataW.weightsEach Tryz.prog ts ds).all (· ≤ reachBytes) = true) {j : Nat} {t : TypeId} {d : DataW H} (ht : ts[j]? = some t) (hd : ds[j]? = some d) : FitD t d :=
  fun k hk => by simpa using List.all_eq_true.1 h k (DataW.weights_mem_each ht hd k hk)

theorem weightsAll_mem {H : Type} {e : TypeId} : ∀ {l : List (DataW H)} {d : DataW H}, d ∈ l → ∀ k ∈ d.weights Tryz.prog e, k ∈ DataW.weightsAll Tryz.prog e l
  | x :: l, d, h, k, hk => by
    rw [DataW.weightsAll, List.mem_append]
    rcases List.mem_cons.1 h with rfl | h
    · exact .inl hk
    · exact .inr (weightsAll_mem h k hk)

/-- A slice that is read as data reads as a list, if each element does. -/
theorem rd_of_trod {H : Type} {enc : TypeId × Value → H} {W : World} {hd : Bool} {α : Type} [Inhabited α] {R : World → α → List Value → Prop} {sz by_ : Nat} {t e : TypeId} (ht : Tryz.prog.underlying t = some (.slice e)) (hsz : Tryz.prog.cellsOf e = sz) (hsz0 : 0 < sz)
    (hby : Tryz.prog.bytesOf e = by_) (hby0 : 1 ≤ by_) (hRc : ∀ x cs, R W x cs → cs.length = sz)
    (hel : ∀ n cs d pl, DataW.trod enc Tryz.prog W 0 (fun _ => true) hd n e cs = some (d, pl) → FitD e d → ∃ x, R W x cs)
    {A : Option Addr} {n c fuel : Nat} {d : DataW H} {p : List MemPlace} (h : DataW.trod enc Tryz.prog W 0 (fun _ => true) hd fuel t [.slice A n c] = some (d, p)) (hw : FitD t d) : ∃ l, Rd R sz W (.slice A n c) l := by
  rcases Go.Deep.open_slice ht h with ⟨e1, _⟩ | ⟨a, len, cap, m, k, D, Pl, e1, hb, hl, hm, hmm, hx, hel2⟩
  · cases e1
    exact ⟨[], Rd.nil _ _ _⟩
  · cases e1
    cases hx
    have hbytes : (n + (m - n)) * by_ ≤ reachBytes := by
      refine hw _ ?_
      rw [DataW.weights, ht]
      simp [hby]
    have hr := reachBytes_lt
    have hn1 : n ≤ (n + (m - n)) * by_ := Nat.le_trans (Nat.le_add_right _ _) (Nat.le_mul_of_pos_right _ hby0)
    have hmc : n ≤ m := by rw [hmm]; simp; omega
    rw [hsz] at hel2
    have hch : ∀ i, i < n → ∃ x : α, ∃ cs, R W x cs ∧ ∀ q u, cs[q]? = some u → W.cell? (a.add (i * sz + q)) = some u := fun i hi => by
      obtain ⟨cs, h1, h2⟩ := hel2 i (by omega)
      obtain ⟨x, hx⟩ := hel _ _ _ _ h2 (fun q hq => hw q (by
        rw [DataW.weights, ht]
        refine List.mem_cons_of_mem _ (List.mem_append_left _ (weightsAll_mem (d := D i) ?_ q hq))
        exact List.mem_map.2 ⟨i, List.mem_range.2 hi, rfl⟩))
      obtain ⟨_, hlen, hc⟩ := World.cells?_some h1
      refine ⟨x, cs, hx, fun q u hq => ?_⟩
      have hq5 : q < sz := by
        have := (List.getElem?_eq_some_iff.1 hq).1
        have := hRc _ _ hx
        omega
      have := hc q hq5
      rw [Go.Deep.add_add] at this
      rw [this, hq]
    obtain ⟨f, hf⟩ := Go.Deep.choose_lt hch
    refine ⟨(List.range n).map f, some a, c, by simp, by simpa using hl, by unfold maxLen at hm; exact hm, by simp; omega, fun hne => ?_⟩
    have hn : 0 < n := by
      rcases n with _ | n
      · simp at hne
      · omega
    obtain ⟨cs0, hr0, h0⟩ := hf 0 hn
    have hl0 := hRc _ _ hr0
    have h00 := h0 0 (cs0[0]'(by omega)) (List.getElem?_eq_getElem _)
    obtain ⟨blk, off, spot⟩ := a
    have hsp : spot = none := by
      rcases spot with _ | sp
      · rfl
      · simp [World.cell?, Addr.add] at h00
        split at h00 <;> simp at h00
    subst hsp
    refine ⟨blk, off, rfl, fun j x hj => ?_⟩
    have hj' : j < n := by
      have := (List.getElem?_eq_some_iff.1 hj).1
      simpa using this
    have hx : f j = x := by simpa [hj'] using hj
    obtain ⟨cs, g1, g2⟩ := hf j hj'
    rw [hx] at g1
    refine ⟨cs, g1, fun i u hi => ?_⟩
    have := g2 i u hi
    rw [Addr.add_lit, ← Nat.add_assoc] at this
    exact this

set_option maxRecDepth 20000 in
theorem ent_trod {H : Type} {enc : TypeId × Value → H} {w : World} {base : Nat} {spare : Nat → Bool} {held : Bool} {n : Nat} {cs : List Value} {d : DataW H} {pl : List MemPlace}
    (h : DataW.trod enc Tryz.prog w base spare held n 33 cs = some (d, pl)) (hw : FitD 33 d) : ∃ x : Ent, RE w x cs := by
  obtain ⟨xs, m, _, hxe, hl, hx, hf⟩ := DataW.trod_struct Tryz.underlying33 h
  rw [Tryz.cellsEnt] at hl
  match cs, hl with
  | [c0, c1, c2], _ =>
    have g0 := hf 0 _ rfl
    have g1 := hf 1 _ rfl
    have g2 := hf 2 _ rfl
    match xs, hx with
    | [y0, y1, y2], _ =>
      simp [Tryz.cellsStrL, Tryz.cellsIntL] at g0 g1 g2
      obtain ⟨s0, e0, x0, _⟩ := DataW.trod_string Tryz.underlying9 g0
      obtain ⟨z1, e1, x1, w1⟩ := DataW.trod_int Tryz.underlying3 g1
      obtain ⟨s2, e2, x2, _⟩ := DataW.trod_string Tryz.underlying9 g2
      cases e0
      cases e1
      cases e2
      subst x0
      subst x1
      subst x2
      cases hxe
      have hr := reachBytes_lt
      have k0 : s0.data.toList.length ≤ reachBytes := hw _ (by
        rw [DataW.weights, Tryz.underlying33]
        simp [DataW.weightsEach, DataW.weights])
      have k2 : s2.data.toList.length ≤ reachBytes := hw _ (by
        rw [DataW.weights, Tryz.underlying33]
        simp [DataW.weightsEach, DataW.weights])
      rw [Array.length_toList] at k0 k2
      refine ⟨⟨s0, z1, s2⟩, rfl, ?_, ?_⟩
      · show s0.data.size ≤ _
        omega
      · show s2.data.size ≤ _
        omega

instance : Inhabited Ent := ⟨⟨⟨#[]⟩, 0, ⟨#[]⟩⟩⟩

theorem ents_in {H : Type} {enc : TypeId × Value → H} {W : World} {hd : Bool} {fuel : Nat} {A : Option Addr} {n c : Nat} {d : DataW H} {p : List MemPlace}
    (h : DataW.trod enc Tryz.prog W 0 (fun _ => true) hd fuel 34 [.slice A n c] = some (d, p)) (hw : FitD 34 d) : ∃ l, RdE W (.slice A n c) l :=
  rd_of_trod Tryz.underlying34 Tryz.cellsEnt (by omega) (by_ := 40) (by kernel_rfl) (by omega) (fun x cs h => by rw [h.1]; rfl) (fun n cs d pl h hw => ent_trod h hw) h hw

theorem stack_in {H : Type} {enc : TypeId × Value → H} {W : World} {hd : Bool} {fuel : Nat} {A : Option Addr} {n c : Nat} {d : DataW H} {p : List MemPlace}
    (h : DataW.trod enc Tryz.prog W 0 (fun _ => true) hd fuel 22 [.slice A n c] = some (d, p)) (hw : FitD 22 d) : ∃ l, RdK W (.slice A n c) l :=
  rd_of_trod Tryz.underlying22 Tryz.cellsEnts (by omega) (by_ := 24) (by kernel_rfl) (by omega) (fun x cs ⟨v, h, _⟩ => by rw [h]; rfl) (fun n cs d pl h hw => by
    have hcs : ∃ A n c, cs = [.slice A n c] := by
      rcases Go.Deep.open_slice Tryz.underlying34 h with ⟨e1, _⟩ | ⟨a, len, cap, m, k, D, Pl, e1, _⟩
      · exact ⟨_, _, _, e1⟩
      · exact ⟨_, _, _, e1⟩
    obtain ⟨A, n', c, rfl⟩ := hcs
    obtain ⟨l, hl⟩ := ents_in h hw
    exact ⟨l, _, rfl, hl⟩) h hw
end Go.Proofs.YtknfaabhlcdeoaaGreatDoor
