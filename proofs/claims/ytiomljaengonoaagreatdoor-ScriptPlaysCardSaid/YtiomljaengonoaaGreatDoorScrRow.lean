/- What the rows of chapter 25 need: the builder with the world's shape, and the variables out of the condition. -/
import Derived.Test.YtiomljaengonoaaGreatDoorRowKit
import Derived.Test.YtiomljaengonoaaGreatDoorScrRead
import Derived.HandedShaped
import Derived.Shelf.Vars
import Derived.Lib.LaidTab
import Derived.Stop.LaidErr
import Derived.LaidLaws
namespace Go.Proofs.YtiomljaengonoaaGreatDoor
open Go.ChangeShapes Go.WideShapes Go.RowKit Go

theorem handed_and_shaped {H : Type} {enc : TypeId × Value → H} {a : Assume} {C : Checked} {os : Os} {f : FuncId} {fn : Func} {s : ChangeSpec} {conds : List PathCond} {apart fresh handsOn again : Bool} {X : World → Array Value → Prop}
    (hX : ∀ (w w' : World) (args : Array Value), w.heap = w'.heap → X w args → X w' args)
    (own : ownKnob C.prog.godebug = none) (started : os.Started) (noInit : C.prog.inits.idxOf? f = none) (hfn : C.prog.funcs[f]? = some fn)
    (witness : ∃ (w : World) (tape : Tape) (i : Input), w.os = os ∧ (w.forCall tape i).Shaped C.prog ∧ i.vars = [] ∧ Input.okWide C.prog (w.forCall tape i) .any w.heap.size f i ∧
      ((s.pre enc C.prog fn conds apart (w.forCall tape i).memory i.args ∧ X (w.forCall tape i).memory i.args) ∧ sizedMet enc C.prog fn (OpenSpec.ofChange s) apart (w.forCall tape i).memory i.args) ∧ a.holds C.prog (lone (Frame.enter C.prog f i.args .normal) [] (w.forCall tape i)))
    (contract : ∀ (W : World) (base : Nat) (args : Array Value) (ds gs : List (DataW H)) (before : List MemPlace),
      (∀ (j : Nat) t v, fn.params[j]? = some t → args[j]? = some v → Value.okWide C.prog W .any base t v) →
      DataW.Whole enc C.prog fn.params.toList s.vars apart W args.toList ds gs before →
      (DataW.weightsEach C.prog (fn.params.toList ++ s.plain.varTypes C.prog) (ds ++ gs)).all (· ≤ reachBytes) = true → W.ShapedOpen C.prog → X W args →
      Calls C.prog f args W fun e W' => ∃ v, e = .returned v ∧ s.post enc C.prog fn apart fresh handsOn again W args v W') :
    ReturnsInHanded a C os f .any (fun w args => (s.pre enc C.prog fn conds apart w args ∧ X w args) ∧ sizedMet enc C.prog fn (OpenSpec.ofChange s) apart w args) (s.post enc C.prog fn apart fresh handsOn again) := by
  refine returnsInHanded_of_calls own started noInit witness ?_
  intro w tape i _ hsh _ hok hpre hholds
  obtain ⟨_, _, _, fn', hfn', _, _, _, _, hval⟩ := hok
  obtain rfl := Option.some.inj (hfn'.symm.trans hfn)
  obtain ⟨⟨⟨ds, gs, before, hw, hc⟩, hx⟩, hz⟩ := hpre
  refine (contract (w.forCall tape i) w.heap.size i.args ds gs before hval (DataW.Whole.of_heap (w' := w.forCall tape i) (by rfl) hw) (hz.weights hw) hsh (hX _ _ _ (by rfl) hx)).mono fun e W' ⟨v, he, hp⟩ => ?_
  subst he
  exact ChangeSpec.post_blind hp

def scriptData : List (String × DataW Unit) := [("math/bits.deBruijn32tab", Rows.laid_math_bits_deBruijn32tab), ("math/bits.deBruijn64tab", Rows.laid_math_bits_deBruijn64tab), ("internal/strconv.uint64pow10", Rows.laid_internal_strconv_uint64pow10), ("unicode/utf8.acceptRanges", Rows.laid_unicode_utf8_acceptRanges), ("strconv.ErrRange", Rows.laid_strconv_ErrRange), ("strconv.ErrSyntax", Rows.laid_strconv_ErrSyntax), ("unicode/utf8.first", Rows.laid_unicode_utf8_first)]

theorem Tryz.star : "*" ++ "errors.errorString" = "*errors.errorString" := by decide
theorem Tryz.rowErr (u : TypeId) (h : Tryz.prog.typeName? 3 u = some "*errors.errorString") : u = 267 :=
  typeName_ptr_named (nm := "errors.errorString") (by rw [Tryz.star]; kernel_rfl) (by kernel_rfl) (by decide) u (by rw [Tryz.star]; exact h)
theorem Tryz.gPow : Tryz.prog.globalNamed "internal/strconv.uint64pow10" = some 6 := by kernel_rfl
theorem Tryz.gPowType : (Tryz.prog.globals[6]?).map (·.type) = some 264 := by kernel_rfl
theorem Tryz.cellsU64 : Tryz.prog.cellsOf 217 = 1 := by kernel_rfl
theorem Tryz.cellsPow : Tryz.prog.cellsOf 264 = 20 := by kernel_rfl
theorem Tryz.gRange : Tryz.prog.globalNamed "strconv.ErrRange" = some 3 := by kernel_rfl
theorem Tryz.gRangeType : (Tryz.prog.globals[3]?).map (·.type) = some 26 := by kernel_rfl
theorem Tryz.gSyntax : Tryz.prog.globalNamed "strconv.ErrSyntax" = some 2 := by kernel_rfl
theorem Tryz.gSyntaxType : (Tryz.prog.globals[2]?).map (·.type) = some 26 := by kernel_rfl
theorem Tryz.cellsErrStr : Tryz.prog.cellsOf 269 = 1 := by kernel_rfl
theorem Tryz.cellsStr : Tryz.prog.cellsOf 9 = 1 := by kernel_rfl

theorem scr_vars {W : World} (h : laidMet Tryz.prog scriptData W) (hh : handlesMet Tryz.prog laidHandle W) (hs : W.ShapedOpen Tryz.prog) : ScrVars W := by
  have h2 := h.tail.tail
  have ht : Lib.TabIs Tryz.prog W "internal/strconv.uint64pow10" .u64 Lib.pow10Tab := Lib.tabIs_of_head (t := 264) (e := 217) (n := 20) Tryz.gPow Tryz.gPowType Tryz.underlying264 Tryz.underlying217 Tryz.cellsU64 Tryz.cellsPow h2
  have h4 := h2.tail.tail
  obtain ⟨a1, s1, v1, _⟩ := laid_sentinel h4 Tryz.gRange Tryz.gRangeType Tryz.underlying26 Tryz.rowErr Tryz.underlying267 Tryz.underlying269 rfl rfl Tryz.underlying9 Tryz.cellsErrStr Tryz.cellsStr
  obtain ⟨a2, s2, v2, _⟩ := laid_sentinel h4.tail Tryz.gSyntax Tryz.gSyntaxType Tryz.underlying26 Tryz.rowErr Tryz.underlying267 Tryz.underlying269 rfl rfl Tryz.underlying9 Tryz.cellsErrStr Tryz.cellsStr
  refine ⟨⟨⟨_, _, by simpa using World.var?_cell Tryz.gSyntax v2 0⟩, ⟨_, _, by simpa using World.var?_cell Tryz.gRange v1 0⟩, ht⟩, ?_, laid_of_handles hh⟩
  exact cell_of_shapedOpen_int (t := 3) (zero := #[.int .i64 0]) hs (of_decide_eq_true (by kernel_rfl)) (by kernel_rfl) rfl (by kernel_rfl) (by kernel_rfl) Tryz.underlying3

noncomputable def scriptWorld (os : Os) : World := (handleWorld os).layVars Tryz.prog scriptData
theorem scriptWorld_os (os : Os) : (scriptWorld os).os = os := World.layVars_os _ _ _
theorem script_data (os : Os) : laidMet Tryz.prog scriptData (scriptWorld os) := laidMet_over (by kernel_rfl) (by kernel_rfl)
end Go.Proofs.YtiomljaengonoaaGreatDoor
