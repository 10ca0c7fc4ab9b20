/- Acts that come in as arguments of the laws of chapter 25. -/
import Derived.Test.YtiomljaengonoaaGreatDoorScrRow
import Derived.Test.YtiomljaengonoaaGreatDoorScrAwake
import Derived.Deep.Slices
import Derived.WalkArith
namespace Go.Proofs.YtiomljaengonoaaGreatDoor
open Go.ChangeShapes Go.WideShapes Go.RowKit Go

theorem Tryz.cellsInt : Tryz.prog.cellsOf 3 = 1 := by kernel_rfl
theorem Tryz.cellsAct : Tryz.prog.cellsOf 44 = 5 := by kernel_rfl

theorem wf_range {z : Int} (h : (Lit.int .i64 z).wf = true) : -9223372036854775808 ≤ z ∧ z ≤ 9223372036854775807 := by
  simp [Lit.wf, IntKind.min, IntKind.max, IntKind.signed, IntKind.bits] at h
  omega

set_option maxRecDepth 20000 in
theorem act_trod {H : Type} {enc : TypeId × Value → H} {w : World} {base : Nat} {spare : Nat → Bool} {held : Bool} {n : Nat} {cs : List Value} {x : DataW H × List MemPlace}
    (h : DataW.trod enc Tryz.prog w base spare held n 44 cs = some x) : ∃ a : ActP, cs = a.cells ∧ a.ints := by
  obtain ⟨xs, m, _, _, hl, hx, hf⟩ := DataW.trod_struct Tryz.underlying44 h
  rw [Tryz.cellsAct] at hl
  match cs, hl with
  | [c0, c1, c2, c3, c4], _ =>
    have g0 := hf 0 _ rfl
    have g1 := hf 1 _ rfl
    have g2 := hf 2 _ rfl
    have g3 := hf 3 _ rfl
    have g4 := hf 4 _ rfl
    match xs, hx with
    | [y0, y1, y2, y3, y4], _ =>
      simp [Tryz.cellsStr, Tryz.cellsInt] at g0 g1 g2 g3 g4
      obtain ⟨s0, e0, _, _⟩ := DataW.trod_string Tryz.underlying9 g0
      obtain ⟨s1, e1, _, _⟩ := DataW.trod_string Tryz.underlying9 g1
      obtain ⟨s2, e2, _, _⟩ := DataW.trod_string Tryz.underlying9 g2
      obtain ⟨z3, e3, _, w3⟩ := DataW.trod_int Tryz.underlying3 g3
      obtain ⟨z4, e4, _, w4⟩ := DataW.trod_int Tryz.underlying3 g4
      cases e0
      cases e1
      cases e2
      cases e3
      cases e4
      obtain ⟨a3, b3⟩ := wf_range w3
      obtain ⟨a4, b4⟩ := wf_range w4
      exact ⟨⟨s0.data.toList, s1.data.toList, s2.data.toList, z3, z4⟩, rfl, ⟨a3, b3, a4, b4⟩⟩

theorem acts_in {H : Type} {enc : TypeId × Value → H} {W : World} {hd : Bool} {fuel : Nat} {A : Option Addr} {n c : Nat} {d : DataW H} {p : List MemPlace}
    (h : DataW.trod enc Tryz.prog W 0 (fun _ => true) hd fuel 46 [.slice A n c] = some (d, p)) {ts : List TypeId} {ds : List (DataW H)} (hsz : (DataW.weightsEach Tryz.prog ts ds).all (· ≤ reachBytes) = true) {j : Nat} (ht : ts[j]? = some 46) (hd' : ds[j]? = some d) : ∃ l, RdW W (.slice A n c) l := by
  rcases Go.Deep.open_slice Tryz.underlying46 h with ⟨e, _⟩ | ⟨a, len, cap, m, k, D, Pl, e, hb, hl, hm, hmm, hx, hel⟩
  · cases e
    exact ⟨[], Rd.nil _ _ _⟩
  · cases e
    cases hx
    have hbytes := sized_slice hsz ht hd' Tryz.underlying46
    rw [show Tryz.prog.bytesOf 44 = 64 by kernel_rfl] at hbytes
    simp only [List.length_map, List.length_range] at hbytes
    have hr := reachBytes_lt
    have hmc : n ≤ m := by rw [hmm]; simp; omega
    rw [Tryz.cellsAct] at hel
    have hch : ∀ i, i < n → ∃ x : ActP, x.ints ∧ ∀ q u, x.cells[q]? = some u → W.cell? (a.add (i * 5 + q)) = some u := fun i hi => by
      obtain ⟨cs, h1, h2⟩ := hel i (by omega)
      obtain ⟨x, rfl, hxi⟩ := act_trod h2
      obtain ⟨_, hlen, hc⟩ := World.cells?_some h1
      refine ⟨x, hxi, fun q u hq => ?_⟩
      have hq5 : q < 5 := (List.getElem?_eq_some_iff.1 hq).1
      have := hc q hq5
      rw [Go.Deep.add_add] at this
      rw [this, hq]
    have : Inhabited ActP := ⟨⟨[], [], [], 0, 0⟩⟩
    obtain ⟨f, hf⟩ := Go.Deep.choose_lt hch
    refine ⟨(List.range n).map f, some a, c, by simp, by simpa using hl, by unfold maxLen at hm; exact hm, by simp; omega, fun hne => ?_⟩
    have hn : 0 < n := by
      rcases n with _ | n
      · simp at hne
      · omega
    obtain ⟨_, h0⟩ := hf 0 hn
    have h00 := h0 0 _ rfl
    obtain ⟨blk, off, spot⟩ := a
    have hsp : spot = none := by
      rcases spot with _ | sp
      · rfl
      · simp [World.cell?, Addr.add] at h00
        split at h00 <;> simp at h00
    subst hsp
    refine ⟨blk, off, rfl, fun j x hj => ?_⟩
    have hj' : j < n := by
      have := (List.getElem?_eq_some_iff.1 hj).1
      simpa using this
    have hx : f j = x := by simpa [hj'] using hj
    obtain ⟨g1, g2⟩ := hf j hj'
    rw [hx] at g1 g2
    refine ⟨x.cells, ⟨rfl, g1⟩, fun i u hi => ?_⟩
    have := g2 i u hi
    rw [Addr.add_lit, ← Nat.add_assoc] at this
    exact this
end Go.Proofs.YtiomljaengonoaaGreatDoor
