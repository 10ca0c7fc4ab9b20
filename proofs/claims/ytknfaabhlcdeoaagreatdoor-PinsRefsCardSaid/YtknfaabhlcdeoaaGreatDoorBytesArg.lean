/- A slice of bytes that is read as data reads as a list. -/
import Derived.Test.YtknfaabhlcdeoaaGreatDoorListArg
import Derived.Test.YtknfaabhlcdeoaaGreatDoorRefsLaw
namespace Go.Proofs.YtknfaabhlcdeoaaGreatDoor
open Go.ChangeShapes Go.WideShapes Go.RowKit Go

def RU (_ : World) (x : Int) (cs : List Value) : Prop := cs = [.int .u8 x] ∧ 0 ≤ x ∧ x ≤ 255

theorem Tryz.cellsU8 : Tryz.prog.cellsOf 5 = 1 := by kernel_rfl

theorem bytes_in {H : Type} {enc : TypeId × Value → H} {W : World} {hd : Bool} {fuel : Nat} {A : Option Addr} {n c : Nat} {d : DataW H} {p : List MemPlace}
    (h : DataW.trod enc Tryz.prog W 0 (fun _ => true) hd fuel 41 [.slice A n c] = some (d, p)) (hw : FitD 41 d) : ∃ l, BytesIn W (.slice A n c) l := by
  obtain ⟨l, A', c', e, h1, h2, h3, h4⟩ := rd_of_trod (R := RU) (W := W) Tryz.underlying41 Tryz.cellsU8 (by omega) (by_ := 1) (by kernel_rfl) (by omega) (fun x cs h => by rw [h.1]; rfl) (fun n cs d pl h hw => by
    obtain ⟨z, e, _, wf⟩ := DataW.trod_int Tryz.underlying5 h
    subst e
    exact ⟨z, rfl, by simpa [Lit.wf, IntKind.min, IntKind.max, IntKind.signed, IntKind.bits] using wf⟩) h hw
  refine ⟨l, fun x hx => ?_, A', c', e, h1, h2, fun hne => ?_⟩
  · obtain ⟨j, hj, rfl⟩ := List.getElem_of_mem hx
    obtain ⟨b, o, _, hc⟩ := h4 (List.ne_nil_of_mem hx)
    obtain ⟨cs, h5, _⟩ := hc j l[j] (List.getElem?_eq_getElem hj)
    exact h5.2
  · obtain ⟨b, o, ha, hc⟩ := h4 hne
    refine ⟨b, o, ha, fun j hj => ?_⟩
    obtain ⟨cs, h5, h6⟩ := hc j l[j] (List.getElem?_eq_getElem hj)
    have := h6 0 (.int .u8 l[j]) (by rw [h5.1]; rfl)
    simpa using this
end Go.Proofs.YtknfaabhlcdeoaaGreatDoor
