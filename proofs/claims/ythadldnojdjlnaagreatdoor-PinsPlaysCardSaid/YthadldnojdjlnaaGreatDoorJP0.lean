/- Joined: Worlds that have grown: what lay in the one lies in the other; The variable errors; What the rows of this seat need: a world that meets the condition on the listed variables, and the handle's cell out of the condition; A range over a function whose iterator keeps a state of its own in one cell; Texts in pieces, names and paths, as lists of bytes; Paths and names, back and forth; strings; path; What lies in memory: slices that are read; Errors of the program: 'fail; What errors; fail; path; path -/
import Derived.Below
import Derived.Deep.Draws
import Derived.Maps.AppendAt
import Derived.OwnWalk
import Derived.Test.YthadldnojdjlnaaGreatDoorRows
import Derived.ProofKit
import Derived.LaidLaws
import Derived.LaidHandle
import Derived.Lay
import Derived.ChangeSame
import Derived.ChangeVars
import Derived.JoinedOf
import Derived.RowKit
import Derived.RowKitTokens
import Derived.Stop.Joined
import Derived.RangeFuncNested
import Derived.RangeFuncBound
import Derived.RangeFuncCalls
import Derived.RangeFuncLeaves
import Derived.Shelf.Abstract
import Derived.Shelf.RegionOpen
import Derived.WalkKit
import Derived.OwnWalkIn
import Derived.TacticsInMore
import Derived.LoopNIn
import Derived.LoopIn
import Derived.Lib.IndexLaws
import Derived.Lib.Bytealg
import Derived.Lib.Join
import Derived.Lib.Hide
import Derived.Test.YthadldnojdjlnaaGreatDoorShelf
import Derived.Sort.LoopGhostIn
import Derived.Lib.Strings
import Derived.Lib.IndexBytes
import Derived.WalkSpells
import Derived.Deep.LoopGhost
import Derived.Lib.SlTrimSet
import Derived.WalkLawsBesides
import Derived.Test.YthadldnojdjlnaaGreatDoorProg
import Derived.LaidEql
import Derived.Stop.Asserts
import Derived.RangeFuncBox
import Derived.Deep.QuietTactic
import Derived.BigQuiet
/-! Base -/
namespace Go.Proofs.YthadldnojdjlnaaGreatDoor
open Go.RowKit

/-- All that lay in w lies in w'. -/
def Ext (w w' : World) : Prop := Below w.heap.size w w'

theorem Ext.refl (w : World) : Ext w w := Below.refl _ w
theorem Ext.below {w w' : World} (h : Ext w w') : Below w.heap.size w w' := h
theorem Ext.size {w w' : World} (h : Ext w w') : w.heap.size ≤ w'.heap.size := Below.size h
theorem Ext.trans {a b c : World} (h : Ext a b) (k : Ext b c) : Ext a c := Below.trans h (Below.mono k h.size)
theorem Ext.alloc {a w : World} (h : Ext a w) (o : Obj) : Ext a (w.alloc o) := Below.alloc h h.size o
theorem Ext.drew {a w : World} (h : Ext a w) : Ext a w.drew := Below.drew h
theorem Ext.drewN {a w : World} (h : Ext a w) (n : Nat) : Ext a (w.drewN n) := by
  induction n with
  | zero => exact h
  | succ n ih => rw [← World.drew_drewN]; exact ih.drew
theorem Ext.setCell {a w : World} (h : Ext a w) {p : Addr} (hp : a.heap.size ≤ p.block) (u : Value) : Ext a (w.setCell p u) := Below.setCell h hp u
theorem Ext.grown {a w w' : World} {row : Option Nat} (h : Ext a w) (hg : w.grownBy w' row) (hr : ∀ k, row = some k → a.heap.size ≤ k) : Ext a w' := Below.grown h hg h.size hr
theorem Ext.of_below {a w : World} {B : Nat} (h : Below B a w) (hB : a.heap.size ≤ B) : Ext a w := h.mono hB
theorem Ext.cell {w w' : World} (h : Ext w w') {p : Addr} {v : Value} (hc : w.cell? p = some v) : w'.cell? p = some v := (Below.cell h (World.block_lt_of_cell? w p hc)).trans hc
theorem Ext.block {w w' : World} (h : Ext w w') {k : Nat} {o : Obj} (hc : w.heap[k]? = some o) : w'.heap[k]? = some o := (Below.block h k (Array.getElem?_eq_some_iff.1 hc).1).trans hc
theorem Ext.frozen {w w' : World} (h : Ext w w') {p : Addr} {v : Value} (hc : w.cell? p = some v) : w'.frozen? p = w.frozen? p := Below.frozen h (World.block_lt_of_cell? w p hc)
theorem Ext.frozen_of {w w' : World} (h : Ext w w') {p : Addr} {b : Bool} (hp : p.block < w.heap.size) (hc : w.frozen? p = b) : w'.frozen? p = b := (Below.frozen h hp).trans hc
theorem Ext.lt {w w' : World} (h : Ext w w') {k : Nat} (hk : k < w.heap.size) : k < w'.heap.size := Nat.lt_of_lt_of_le hk h.size

theorem own_ext {w w' : World} {base e size n : Nat} {v : Value} {xs : List Value} (h : w.ownsRow base e size v n xs) (he : Ext w w') : w'.ownsRow base e size v n xs :=
  h.kept (row := none) ⟨Below.os he, Below.tape he, Below.output he, he.size, fun i hi _ => Below.block he i hi⟩ (by cases v.ownBlock <;> simp)
theorem own_form {w : World} {base e size n : Nat} {v : Value} {xs : List Value} (h : w.ownsRow base e size v n xs) : ∃ A c, v = .slice A n c := by
  rcases h.2 with ⟨rfl, rfl⟩ | ⟨g, cap, cur, rfl, _⟩
  · exact ⟨none, 0, rfl⟩
  · exact ⟨_, cap, rfl⟩
theorem own_lower {w : World} {base base' e size n : Nat} {v : Value} {xs : List Value} (h : w.ownsRow base e size v n xs) (hb : base' ≤ base) : w.ownsRow base' e size v n xs := by
  obtain ⟨h1, h2⟩ := h
  refine ⟨h1, ?_⟩
  rcases h2 with h2 | ⟨g, cap, cur, hv, hg, r⟩
  · exact Or.inl h2
  · exact Or.inr ⟨g, cap, cur, hv, Nat.le_trans hb hg, r⟩

end Go.Proofs.YthadldnojdjlnaaGreatDoor

/-! LaidT -/
namespace Go.Proofs.YthadldnojdjlnaaGreatDoor
open Go Go.RowKit

/-- The handle of the type error is laid. -/
def Laid (w : World) : Prop := w.cell? ⟨0, 0, none⟩ = some (.iface 114 (.agg #[.pointer (some ⟨4, 33, none⟩)]))
theorem Laid.ext {w w' : World} (h : Laid w) (he : Ext w w') : Laid w' := he.cell h
end Go.Proofs.YthadldnojdjlnaaGreatDoor

/-! RowKit -/
namespace Go.Proofs.YthadldnojdjlnaaGreatDoor
open Go.ChangeShapes Go.WideShapes Go.RowKit Go

theorem Tryz.ownRow : ownKnob Tryz.prog.godebug = none := by kernel_rfl
theorem Tryz.et : Tryz.prog.globalNamed "errors.errorType" = some 0 := by kernel_rfl
theorem Tryz.rt : (Tryz.prog.cutTypes.find? (·.1 == "internal/reflectlite.rtype")).map (·.2) = some 114 := by kernel_rfl
theorem Tryz.oneRow : ((List.range 230).filter fun t => Tryz.prog.rowNamed t [101, 114, 114, 111, 114]) = [33] := by kernel_rfl
theorem Tryz.tysize : Tryz.prog.types.size = 230 := by kernel_rfl

def laidHandle : List (String × DataW Unit) := [("errors.errorType", Rows.laid_errors_errorType)]

theorem laid_of_handles {W : World} (h' : handlesMet Tryz.prog laidHandle W) : Laid W := by
  obtain ⟨name, u, ty, e1, e2, e3, e4, e5⟩ := h' _ (List.mem_singleton.2 rfl)
  have en : name = [101, 114, 114, 111, 114] := (Option.some.inj e1).symm
  subst en
  obtain rfl := Option.some.inj (Tryz.rt.symm.trans e2)
  have hm : ty ∈ (List.range 230).filter fun t => Tryz.prog.rowNamed t [101, 114, 114, 111, 114] := List.mem_filter.2 ⟨List.mem_range.2 (by rw [← Tryz.tysize]; exact e3), e4⟩
  rw [Tryz.oneRow] at hm
  obtain rfl := List.mem_singleton.1 hm
  have hh : typeHandle Tryz.prog 33 = .pointer (some ⟨4, 33, none⟩) := by kernel_rfl
  rw [hh] at e5
  simpa [Laid] using World.var?_cell Tryz.et e5 0

/-- A world in which the handle and the data are laid. -/
noncomputable def handleWorld (os : Os) : World :=
  let w0 := World.holding Tryz.prog os ⟨#[], #[], []⟩
  { w0 with heap := w0.heap.modify 0 fun
      | .cells _ t frozen => .cells #[.iface 114 (.agg #[.pointer (some ⟨4, 33, none⟩)])] t frozen
      | o => o }

/-- Data laid over a world are met there. -/
theorem laidMet_over {P : Program} {w0 : World} {l : List (String × DataW Unit)} (hf : w0.layFits P l [] = true) (hi : w0.layIfaces P l (w0.layVars P l) = true) : laidMet P l (w0.layVars P l) := by
  have e1 : (l.filter fun x => (l.map (·.1)).contains x.1) = l := List.filter_eq_self.2 fun x hx => List.contains_iff_mem.2 (List.mem_map.2 ⟨x, hx, rfl⟩)
  have e2 : (l.filter fun x => !(l.map (·.1)).contains x.1) = [] := List.filter_eq_nil_iff.2 fun x hx => by rw [List.contains_iff_mem.2 (List.mem_map.2 ⟨x, hx, rfl⟩)]; simp
  exact laidMet_layVars (w0 := w0) (l.map (·.1)) [] (by rw [e1]) (by rw [e1]; exact hf) (by rw [e1]; exact hi) (by rw [e2]; exact LaidIn.none)
end Go.Proofs.YthadldnojdjlnaaGreatDoor

/-! RangeC -/
namespace Go.Proofs.YthadldnojdjlnaaGreatDoor
open Go Go.RowKit

/-- The iterator's contract, where it writes its own cell c between rounds. -/
def SeqStopsC {α : Type} (F : Fence) (n : Nat) (P : Program) (g : Nat) (lb : Array Value) (encs : α → Array Value) (Kp : World → World → Prop) (S Sp Pp : List α → Prop) (c : Nat) (w : World) : Prop :=
  ∀ (l : Nat) (J Jx : List α → World → Prop) (W : World), Below w.heap.size w W → AbidesFrom W.heap.size J → AbidesFrom W.heap.size Jx → (∀ (s : List α) (W1 : World) (v : Value), J s W1 → J s (W1.setCell ⟨c, 0, none⟩ v)) →
    (∀ pre x W1, J pre W1 → Pp (pre ++ [x]) → YieldAt F (n - 1) P l (encs x) W1 fun e W' =>
      (e = .returned (.bool true) ∧ J (pre ++ [x]) W' ∧ Kp W1 W') ∨ (e = .returned (.bool false) ∧ Jx (pre ++ [x]) W')) →
    J [] W →
    CallsIn F n P g (#[.func (.yield l) #[] #[]] ++ lb) W fun e W' => (∃ v, e = .returned v) ∧ ((∃ xs, S xs ∧ J xs W') ∨ (∃ pre, Sp pre ∧ Jx pre W'))

variable {F : Fence} {n : Nat} {P : Program}

theorem wpIn_rangeFunc_ownC {α : Type} {g : Operand} {ps : Array Tmp} {assign body : Code} {Q : Exit → Act → World → Prop} {a : Act} {w : World}
    (hro : F.round = none) (h1 : 1 ≤ n) {gf : Nat} {lb : Array Value} (hg : a.eval g = .func (.func gf) #[] lb) (hFg : F.fn gf) (eg : ∀ args w, (callFunc gf args).run P w = .ok (.enter gf args) w)
    {encs : α → Array Value} {Kp : World → World → Prop} {S Sp Pp : List α → Prop} {w0 : World} {c : Nat} (hseq : SeqStopsC F (n - 1) P gf lb encs Kp S Sp Pp c w0) (hcw : c < w.heap.size)
    (hKt : ∀ {A B C : World}, Kp A B → Kp B C → Kp A C) (hKb : ∀ (W : World) (l : Nat) (o o' : Obj), w.heap.size ≤ l → W.heap[l]? = some o → o.isCells = false → o.isWalk = false → Kp W (W.putObj l o')) (hb0 : Below w0.heap.size w0 w) (hps : ∀ x, (encs x).size = ps.size)
    (I : List α → World → Prop) (Ix : Code → List α → World → Prop) (hIc : ∀ (s : List α) (W : World) (v : Value), I s W → I s (W.setCell ⟨c, 0, none⟩ v)) (hI : OwnFrom w.heap.size I) (hIx : ∀ c, OwnFrom w.heap.size (Ix c)) (h0 : I [] w) (a₁ : α → Act)
    (hassign : ∀ (l : Nat) (x : α) (W : World) (K : Act → World → Prop), K (a₁ x) W →
      assign.wpIn (F.inRound l) (n - 1 - 1) P (Exit.then K (fun _ _ _ => False)) { tmps := (ps.zip (encs x)).foldl (fun t (p, v) => t.setIfInBounds p v) a.tmps, defers := [] } W)
    (hbody : ∀ (l : Nat) (pre : List α) (x : α) (W : World), I pre W → Pp (pre ++ [x]) → body.wpIn (F.inRound l) (n - 1 - 1) P (ownPostK Kp I Ix (pre ++ [x]) W) (a₁ x) W)
    (hdone : ∀ (D : Nat) (xs : List α) (W : World), w.heap.size ≤ D → S xs → I xs W → W.heap[D]? = some (.deferred (some [])) → Q .normal { a with defers := { target := .collected D, args := #[] } :: a.defers } W)
    (hstop : ∀ (D : Nat) (c : Code) (pre : List α) (W : World), w.heap.size ≤ D → Sp pre → Ix c pre W → W.heap[D]? = some (.deferred (some [])) → c.wpIn F n P Q { a with defers := { target := .collected D, args := #[] } :: a.defers } W) :
    (Code.rangeFunc g ps assign body).wpIn F n P Q a w := by
  refine wpIn_rangeFunc ?_
  intro fn hfn
  rw [hro]
  obtain ⟨rec, hrec⟩ : ∃ rec : LoopState → Option Code → Loop, rec = fun st pe => { state := st, pending := pe, fn, tmps := a.tmps, params := ps, assign, body, defers := w.heap.size } := ⟨_, rfl⟩
  obtain ⟨W1, hW1⟩ : ∃ W1, (w.alloc (.deferred (some []))).alloc (.loop (rec .ready none)) = W1 := ⟨_, rfl⟩
  have hL1 : W1.heap[w.heap.size + 1]? = some (.loop (rec .ready none)) := by
    rw [← hW1]; have := World.alloc_heap_new (w.alloc (.deferred (some []))) (.loop (rec .ready none)); rwa [World.size_alloc] at this
  have hK1 : W1.heap[w.heap.size]? = some (.deferred (some [])) := by
    rw [← hW1]; exact (Below.heap_alloc _ _ _ (by simp)).trans (World.alloc_heap_new w _)
  have hI1 : I [] W1 := by rw [← hW1]; exact hI.alloc _ (hI.alloc _ h0)
  have hb1 : Below w0.heap.size w0 W1 := by
    rw [← hW1]; exact hb0.trans ((((Below.refl _ w).alloc (Nat.le_refl _) _).alloc (by simp) _).mono hb0.size)
  refine ⟨w.heap.size + 1, [{ target := .collected w.heap.size, args := #[] }], W1, { target := .fn (.func gf) lb, args := #[.func (.yield (w.heap.size + 1)) #[] #[]] }, W1, gf,
    #[.func (.yield (w.heap.size + 1)) #[] #[]] ++ lb, W1, ?_, ?_, ?_, ?_, fun _ => h1, ?_⟩
  · rw [← hW1, hrec]; exact run_enterLoop_outer _ _ _ _ _
  · simp only [resolve, hg]
    simp [go_sem]
  · intro f' hf'; simp [Target.leads] at hf'; subst hf'; exact hFg
  · simp [invoke, go_sem, eg]
  · -- THE ITERATOR's CONTRACT, AT THE CALLER's INVARIANT WITH THE TWO FACTS OF BOOK-KEEPING BESIDE IT
    have hnw : ∀ {A B : World} {row : Option Nat}, (∀ r, row = some r → W1.heap.size ≤ r ∧ ∃ o : Obj, A.heap[r]? = some o ∧ o.isWalk = true) → (∀ r, row = some r → w.heap.size ≤ r ∧ ∃ o : Obj, A.heap[r]? = some o ∧ o.isCells = false) :=
      fun hr r e => by obtain ⟨hB, o, ho, hw⟩ := hr r e; exact ⟨by rw [← hW1] at hB; simp at hB; omega, o, ho, Obj.not_cells_of_walk hw⟩
    refine (hseq (w.heap.size + 1)
      (fun pre W => I pre W ∧ W.heap[w.heap.size + 1]? = some (.loop (rec .ready none)) ∧ W.heap[w.heap.size]? = some (.deferred (some [])))
      (fun pre W => ∃ c, Ix c pre W ∧ W.heap[w.heap.size + 1]? = some (.loop (rec .done (some c))) ∧ W.heap[w.heap.size]? = some (.deferred (some [])))
      W1 hb1
      (fun s A B row hs hg' hr => ⟨hI s A B row hs.1 hg' (hnw (B := B) hr), (grownBy_keeps hg' (fun r e => (hr r e).2) hs.2.1 rfl).trans hs.2.1, (grownBy_keeps hg' (fun r e => (hr r e).2) hs.2.2 rfl).trans hs.2.2⟩)
      (fun s A B row hs hg' hr => by
        obtain ⟨c, hc, hl, hk⟩ := hs
        exact ⟨c, hIx c s A B row hc hg' (hnw (B := B) hr), (grownBy_keeps hg' (fun r e => (hr r e).2) hl rfl).trans hl, (grownBy_keeps hg' (fun r e => (hr r e).2) hk rfl).trans hk⟩)
      (fun s W v hs => ⟨hIc s W v hs.1, (Below.heap_setCell W ⟨c, 0, none⟩ v _ (by simp; omega)).trans hs.2.1, (Below.heap_setCell W ⟨c, 0, none⟩ v _ (by simp; omega)).trans hs.2.2⟩)
      ?_ ⟨hI1, hL1, hK1⟩).mono ?_
    · -- ONE ROUND
      rintro pre x W ⟨hi, hl, hk⟩ hlen
      have hlt : w.heap.size + 1 < W.heap.size := (Array.getElem?_eq_some_iff.1 hl).1
      have hy := run_yield (P := P) (args := encs x) hl (by rw [hrec]; exact hps x)
      rw [hrec] at hy
      refine ⟨fn, _, assign, body, hy, roundIn_of_wpIn hfn (hassign _ x W _ ⟨_, run_beginRound hl (by rw [hrec]), ?_⟩)⟩
      have hl2 : (W.putObj (w.heap.size + 1) (.loop { rec .ready none with state := .busy })).heap[w.heap.size + 1]? = some (.loop { rec .ready none with state := .busy }) := World.putObj_heap_same hlt
      have hk2 : (W.putObj (w.heap.size + 1) (.loop { rec .ready none with state := .busy })).heap[w.heap.size]? = some (.deferred (some [])) := (World.putObj_heap_other (by omega)).trans hk
      have hw2 : Kp W (W.putObj (w.heap.size + 1) (.loop { rec .ready none with state := .busy })) := hKb _ _ _ _ (by omega) hl rfl rfl
      refine wpIn_mono (hbody _ pre x _ (hI.putObj _ hi (by omega) hl rfl) hlen) ?_
      have fin : ∀ (jump : Option Code) (W3 : World), KeepsOthers (W.putObj (w.heap.size + 1) (.loop { rec .ready none with state := .busy })) W3 →
          (Instr.endRound (w.heap.size + 1) jump).run P W3 = .ok (.bool jump.isNone) (W3.putObj (w.heap.size + 1) (.loop (rec (if jump.isNone then .ready else .done) jump))) ∧
          W3.heap[w.heap.size + 1]? = some (.loop { rec .ready none with state := .busy }) ∧
          (W3.putObj (w.heap.size + 1) (.loop (rec (if jump.isNone then .ready else .done) jump))).heap[w.heap.size + 1]? = some (.loop (rec (if jump.isNone then .ready else .done) jump)) ∧
          (W3.putObj (w.heap.size + 1) (.loop (rec (if jump.isNone then .ready else .done) jump))).heap[w.heap.size]? = some (.deferred (some [])) := fun jump W3 hk3 => by
        have hl3 := hk3.same _ _ hl2 rfl
        have := run_endRound (P := P) jump hl3
        rw [hrec] at this ⊢
        exact ⟨this, by rw [hrec] at hl3; exact hl3, World.putObj_heap_same (Array.getElem?_eq_some_iff.1 hl3).1, (World.putObj_heap_other (by omega)).trans (hk3.same _ _ hk2 rfl)⟩
      rintro e a3 W3 hp
      cases e with
      | normal =>
        obtain ⟨hk3, hkp3, hi3⟩ := hp
        obtain ⟨hr, hl3, hl4, hk4⟩ := fin none W3 hk3
        exact ⟨_, _, hr, .inl ⟨rfl, ⟨hI.putObj _ hi3 (by omega) hl3 rfl, hl4, hk4⟩, hKt (hKt hw2 hkp3) (hKb _ _ _ _ (by omega) hl3 rfl rfl)⟩⟩
      | ret =>
        obtain ⟨hk3, hi3⟩ := hp
        obtain ⟨hr, hl3, hl4, hk4⟩ := fin (some .ret) W3 hk3
        exact ⟨_, _, hr, .inr ⟨rfl, .ret, (hIx _).putObj _ hi3 (by omega) hl3 rfl, hl4, hk4⟩⟩
      | exit id =>
        obtain ⟨hk3, hi3⟩ := hp
        obtain ⟨hr, hl3, hl4, hk4⟩ := fin (some (.exit id)) W3 hk3
        exact ⟨_, _, hr, .inr ⟨rfl, .exit id, (hIx _).putObj _ hi3 (by omega) hl3 rfl, hl4, hk4⟩⟩
      | goto t =>
        obtain ⟨hk3, hi3⟩ := hp
        obtain ⟨hr, hl3, hl4, hk4⟩ := fin (some (.goto t)) W3 hk3
        exact ⟨_, _, hr, .inr ⟨rfl, .goto t, (hIx _).putObj _ hi3 (by omega) hl3 rfl, hl4, hk4⟩⟩
      | panic ch => exact hp.elim
      | outgrown => exact hp.elim
    · -- BEHIND THE ITERATOR
      rintro e W2 ⟨⟨v, rfl⟩, (⟨xs, hS, hi, hl, hk⟩ | ⟨pre, hSp, c, hi, hl, hk⟩)⟩
      · exact ⟨none, _, by have := run_endLoop (P := P) hl (by rw [hrec]; simp); rw [hrec] at this; exact this, hdone _ xs _ (Nat.le_refl _) hS (hI.putObj _ hi (by omega) hl rfl) ((World.putObj_heap_other (by omega)).trans hk)⟩
      · exact ⟨some c, _, by have := run_endLoop (P := P) hl (by rw [hrec]; simp); rw [hrec] at this; exact this, hstop _ c pre _ (Nat.le_refl _) hSp ((hIx c).putObj _ hi (by omega) hl rfl) ((World.putObj_heap_other (by omega)).trans hk)⟩


end Go.Proofs.YthadldnojdjlnaaGreatDoor

/-! Words -/
namespace Go.Proofs.YthadldnojdjlnaaGreatDoor

/-- A text in pieces, at a byte. -/
def segs (b : UInt8) : List UInt8 → List (List UInt8)
  | [] => [[]]
  | c :: l => if c = b then [] :: segs b l else match segs b l with
    | [] => [[c]]
    | h :: t => (c :: h) :: t

theorem segs_ne (b : UInt8) : ∀ l, segs b l ≠ []
  | [] => by simp [segs]
  | c :: l => by
    unfold segs
    split
    · simp
    · split <;> simp

theorem segs_len (b : UInt8) : ∀ (l x : List UInt8), x ∈ segs b l → x.length ≤ l.length
  | [], x, h => by
    have : x = [] := by simpa [segs] using h
    simp [this]
  | c :: l, x, h => by
    unfold segs at h
    split at h
    · rcases List.mem_cons.1 h with rfl | h
      · simp
      · have := segs_len b l x h
        simp; omega
    · split at h
      · have : x = [c] := by simpa using h
        simp [this]
      · rename_i y ys e
        rcases List.mem_cons.1 h with rfl | h
        · have := segs_len b l y (by rw [e]; simp)
          simp; omega
        · have := segs_len b l x (by rw [e]; simp [h])
          simp; omega

theorem segs_none (b : UInt8) : ∀ l : List UInt8, (∀ k : Nat, l[k]? ≠ some b) → segs b l = [l]
  | [], _ => rfl
  | c :: l, h => by
    have hc : ¬ c = b := fun e => h 0 (by simp [e])
    have ih := segs_none b l (fun k => by have := h (k + 1); simpa using this)
    simp [segs, hc, ih]

theorem segs_some (b : UInt8) : ∀ (i : Nat) (l : List UInt8), l[i]? = some b → (∀ k : Nat, k < i → l[k]? ≠ some b) → segs b l = l.take i :: segs b (l.drop (i + 1))
  | 0, [], h, _ => by simp at h
  | 0, c :: l, h, _ => by
    have : c = b := by simpa using h
    simp [segs, this]
  | i + 1, [], h, _ => by simp at h
  | i + 1, c :: l, h, hk => by
    have hc : ¬ c = b := fun e => hk 0 (by omega) (by simp [e])
    have ih := segs_some b i l (by simpa using h) (fun k hk' => by have := hk (k + 1) (by omega); simpa using this)
    simp [segs, hc, ih]

theorem segs_index_none {b : UInt8} {l : List UInt8} (h : Lib.indexByte l b = -1) : segs b l = [l] := segs_none b l (Lib.indexByte_none h)
theorem segs_index_some {b : UInt8} {l : List UInt8} {i : Nat} (h : Lib.indexByte l b = (i : Int)) : i < l.length ∧ segs b l = l.take i :: segs b (l.drop (i + 1)) := by
  obtain ⟨h1, h2⟩ := Lib.indexByte_some h
  exact ⟨(List.getElem?_eq_some_iff.1 h1).1, segs_some b i l h1 h2⟩

/-- A text of these bytes. -/
def B (l : List UInt8) : ByteArray := ⟨l.toArray⟩
theorem B_toList (s : ByteArray) : B s.data.toList = s := rfl
theorem toList_B (l : List UInt8) : (B l).data.toList = l := by simp [B]
theorem B_inj {a b : List UInt8} (h : B a = B b) : a = b := by rw [← toList_B a, h, toList_B]
theorem size_B (l : List UInt8) : (B l).size = l.length := by simp [B, ByteArray.size]

/-- The signs of names. -/
def sign (b : UInt8) : Bool := (97 ≤ b && b ≤ 122) || (48 ≤ b && b ≤ 57) || b == 45 || b == 95
def signsL : List UInt8 := [97, 98, 99, 100, 101, 102, 103, 104, 105, 106, 107, 108, 109, 110, 111, 112, 113, 114, 115, 116, 117, 118, 119, 120, 121, 122, 48, 49, 50, 51, 52, 53, 54, 55, 56, 57, 45, 95]
def nameOk (l : List UInt8) : Bool := decide (1 ≤ l.length) && decide (l.length ≤ 8) && l.all sign

/-- A path's names. -/
def splitP (p : List UInt8) : Option (List (List UInt8)) :=
  if p = [47] then some [] else match p with
    | c :: r => if c = 47 ∧ (segs 47 r).all nameOk = true ∧ (segs 47 r).length ≤ 6 then some (segs 47 r) else none
    | [] => none

theorem mem_signs (b : UInt8) : signsL.contains b = sign b := by
  have h : ∀ n : Fin 256, signsL.contains (UInt8.ofNat n.val) = sign (UInt8.ofNat n.val) := by decide +kernel
  have := h ⟨b.toNat, b.toNat_lt⟩
  simpa using this
end Go.Proofs.YthadldnojdjlnaaGreatDoor

/-! PathW -/
namespace Go.Proofs.YthadldnojdjlnaaGreatDoor

def pieces (b : UInt8) (s : ByteArray) : List ByteArray := (segs b s.data.toList).map B
def names (p : ByteArray) : Option (List ByteArray) := (splitP p.data.toList).map (·.map B)
def nameB (s : ByteArray) : Bool := nameOk s.data.toList

/-- The path of names. -/
def pathOf (xs : List ByteArray) : ByteArray := if xs = [] then ⟨#[47]⟩ else B (47 :: Lib.join (xs.map (·.data.toList)) [47])

theorem nameOk_no {l : List UInt8} (h : nameOk l = true) : ∀ b ∈ l, b ≠ 47 := by
  simp only [nameOk, Bool.and_eq_true, List.all_eq_true] at h
  intro b hb e
  have := h.2 b hb
  subst e
  revert this
  decide

theorem segs_bare {b : UInt8} {l : List UInt8} (h : ∀ c ∈ l, c ≠ b) : segs b l = [l] :=
  segs_none b l fun _ e => h b (List.mem_of_getElem? e) rfl

theorem segs_append (b : UInt8) : ∀ l m : List UInt8, segs b (l ++ b :: m) = segs b l ++ segs b m
  | [], m => by simp [segs]
  | c :: l, m => by
    by_cases hc : c = b
    · simp [segs, hc, segs_append b l m]
    · have ih := segs_append b l m
      rcases hs : segs b l with _ | ⟨h, t⟩
      · exact absurd hs (segs_ne b l)
      · rw [hs] at ih
        simp only [List.cons_append, segs, if_neg hc, ih, hs]

theorem join_cons2 (x y : List UInt8) (r : List (List UInt8)) : Lib.join (x :: y :: r) [47] = x ++ 47 :: Lib.join (y :: r) [47] := by
  rw [Lib.join_cons, Lib.join_cons]
  simp [Lib.joinTail]

theorem segs_join : ∀ xs : List (List UInt8), xs ≠ [] → (∀ x ∈ xs, ∀ b ∈ x, b ≠ 47) → segs 47 (Lib.join xs [47]) = xs
  | [], h, _ => absurd rfl h
  | [x], _, h => by rw [Lib.join_one]; exact segs_bare (h x (by simp))
  | x :: y :: xs, _, h => by
    rw [join_cons2, segs_append, segs_bare (h x (by simp)), segs_join (y :: xs) (by simp) (fun z hz => h z (by simp at hz ⊢; exact .inr hz))]
    rfl

theorem join_segs : ∀ l : List UInt8, Lib.join (segs 47 l) [47] = l
  | [] => by simp [segs, Lib.join_one]
  | c :: l => by
    have ih := join_segs l
    by_cases hc : c = 47
    · rcases hs : segs 47 l with _ | ⟨h, t⟩
      · exact absurd hs (segs_ne 47 l)
      · rw [hs] at ih
        simp only [segs, if_pos hc, hs]
        rw [join_cons2, ih, hc]
        rfl
    · rcases hs : segs 47 l with _ | ⟨h, t⟩
      · exact absurd hs (segs_ne 47 l)
      · rw [hs] at ih
        simp only [segs, if_neg hc, hs]
        rw [Lib.join_cons] at ih ⊢
        rw [List.cons_append, ih]

theorem toList_eq (s : ByteArray) : s.toList = s.data.toList := ByteArray.toList_eq s

theorem map_B_toList (xs : List ByteArray) : (xs.map (·.data.toList)).map B = xs := by
  rw [List.map_map]
  exact (List.map_congr_left (fun x _ => B_toList x)).trans (List.map_id xs)
theorem map_toList_B (xs : List (List UInt8)) : (xs.map B).map (·.data.toList) = xs := by
  rw [List.map_map]
  exact (List.map_congr_left (fun x _ => toList_B x)).trans (List.map_id xs)

theorem names_root : names ⟨#[47]⟩ = some [] := by simp [names, splitP]

theorem names_pathOf {xs : List ByteArray} (h : xs.all nameB = true) (hl : xs.length ≤ 6) : names (pathOf xs) = some xs := by
  by_cases h0 : xs = []
  · subst h0
    rw [pathOf, if_pos rfl]
    exact names_root
  · have hall : (xs.map (·.data.toList)).all nameOk = true := by
      rw [List.all_map]
      exact h
    have hs : segs 47 (Lib.join (xs.map (·.data.toList)) [47]) = xs.map (·.data.toList) :=
      segs_join _ (by simpa using h0) (fun x hx => nameOk_no (List.all_eq_true.1 hall x hx))
    have hne : ¬ (47 :: Lib.join (xs.map (·.data.toList)) [47] = [47]) := fun e => by
      have e2 : Lib.join (xs.map (·.data.toList)) [47] = [] := by simpa using e
      rw [e2] at hs
      rcases xs with _ | ⟨x, xs⟩
      · exact h0 rfl
      · have e3 : x.data.toList = [] := by
          have := congrArg List.head? hs
          simpa [segs] using this.symm
        have h4 : nameOk x.data.toList = true := by
          have := List.all_eq_true.1 h x (by simp)
          exact this
        rw [e3] at h4
        revert h4
        decide
    rw [pathOf, if_neg h0, names, toList_B, splitP, if_neg hne]
    simp only [hs, hall, List.length_map, true_and]
    rw [if_pos hl]
    simp only [Option.map_some]
    rw [map_B_toList]

theorem names_some {p : ByteArray} {xs : List ByteArray} (h : names p = some xs) : xs.all nameB = true ∧ xs.length ≤ 6 ∧ pathOf xs = p := by
  unfold names at h
  rw [Option.map_eq_some_iff] at h
  obtain ⟨ys, h, rfl⟩ := h
  unfold splitP at h
  split at h
  · rename_i e
    cases h
    refine ⟨rfl, by simp, ?_⟩
    rw [List.map_nil, pathOf, if_pos rfl, ← B_toList p, e]
    rfl
  · rename_i hne
    split at h
    · rename_i c r e
      split at h
      · rename_i hc
        cases h
        obtain ⟨rfl, h1, h2⟩ := hc
        refine ⟨?_, by simpa using h2, ?_⟩
        · rw [List.all_map]
          refine Eq.trans (congrArg (List.all _) (funext fun x => ?_)) h1
          simp [nameB, toList_B]
        · rw [pathOf, if_neg (by simpa using segs_ne 47 r), map_toList_B, join_segs, ← e]
          rfl
      · cases h
    · cases h

theorem pathOf_inj {xs ys : List ByteArray} (h : xs.all nameB = true) (hl : xs.length ≤ 6) (h' : ys.all nameB = true) (hl' : ys.length ≤ 6) (e : pathOf xs = pathOf ys) : xs = ys := by
  have h1 := names_pathOf h hl
  rw [e, names_pathOf h' hl'] at h1
  exact (Option.some.inj h1).symm

theorem nameB_size {x : ByteArray} (h : nameB x = true) : x.size ≤ 8 := by
  simp only [nameB, nameOk, Bool.and_eq_true, decide_eq_true_eq] at h
  have := h.1.2
  rw [Array.length_toList] at this
  exact this

theorem joinTail_length (xs : List (List UInt8)) (h : ∀ x ∈ xs, x.length ≤ 8) : (Lib.joinTail [47] xs).length ≤ 9 * xs.length := by
  induction xs with
  | nil => simp [Lib.joinTail]
  | cons x xs ih =>
    have h1 := h x (by simp)
    have h2 := ih (fun y hy => h y (by simp [hy]))
    simp only [Lib.joinTail, List.map_cons, List.flatten_cons, List.length_append, List.length_cons] at *
    simp only [List.length_nil]
    omega

theorem join_length (xs : List (List UInt8)) (h : ∀ x ∈ xs, x.length ≤ 8) : (Lib.join xs [47]).length ≤ 9 * xs.length := by
  rcases xs with _ | ⟨x, xs⟩
  · simp [Lib.join_nil]
  · rw [Lib.join_cons]
    have h1 := h x (by simp)
    have h2 := joinTail_length xs (fun y hy => h y (by simp [hy]))
    simp only [List.length_append, List.length_cons]
    omega

theorem names_join_length {xs : List ByteArray} (h : xs.all nameB = true) : (Lib.join (xs.map (·.data.toList)) [47]).length ≤ 9 * xs.length := by
  have := join_length (xs.map (·.data.toList)) (fun x hx => by
    obtain ⟨y, hy, rfl⟩ := List.mem_map.1 hx
    have := nameB_size (List.all_eq_true.1 h y hy)
    rw [Array.length_toList]
    exact this)
  rwa [List.length_map] at this

theorem pathOf_size {xs : List ByteArray} (h : xs.all nameB = true) (hl : xs.length ≤ 6) : (pathOf xs).size ≤ 55 := by
  unfold pathOf
  split
  · decide
  · rw [size_B, List.length_cons]
    have := names_join_length h
    omega
end Go.Proofs.YthadldnojdjlnaaGreatDoor

/-! Seq -/
namespace Go.Proofs.YthadldnojdjlnaaGreatDoor
open Go Go.RowKit Go.Shelf Go.Proofs
attribute [local go_sem] Oper.semAt_some

theorem SplitSeq_any (s sep : ByteArray) (w : World) :
    Calls Tryz.prog 51 #[.string s, .string sep] w fun e w' => e = .returned (.func (.func 87) #[] #[.pointer (some ⟨w.heap.size + 1, 0, none⟩), .pointer (some ⟨w.heap.size, 0, none⟩), .pointer (some ⟨w.heap.size + 1 + 1, 0, none⟩)]) ∧
      w' = ((w.alloc (.cells #[.string s] 9)).alloc (.cells #[.string sep] 9)).alloc (.cells #[.int .i64 0] 3) := by
  go_enter Tryz.func51, Tryz.ntmps51
  go_wp2
  go_ret
  exact ⟨rfl, rfl⟩

/-- What the loop's body keeps. -/
def KpS (c : Nat) (W W' : World) : Prop := W'.heap[c]? = W.heap[c]? ∧ W'.heap[c + 1]? = W.heap[c + 1]? ∧ W'.heap[c + 1 + 1]? = W.heap[c + 1 + 1]?
theorem KpS.trans {c : Nat} {A B C : World} (h : KpS c A B) (k : KpS c B C) : KpS c A C := ⟨k.1.trans h.1, k.2.1.trans h.2.1, k.2.2.trans h.2.2⟩

theorem cell_own_set {w : World} {b : Nat} {t : TypeId} {v : Value} (h : w.heap[b]? = some (.cells #[v] t (0, 0))) (u : Value) : (w.setCell ⟨b, 0, none⟩ u).heap[b]? = some (.cells #[u] t (0, 0)) := by
  simp [World.setCell, Array.getElem?_modify, h]
theorem cell_of_own {w : World} {b : Nat} {t : TypeId} {v : Value} (h : w.heap[b]? = some (.cells #[v] t (0, 0))) : w.cell? ⟨b, 0, none⟩ = some v := by simp [World.cell?, h]
theorem frozen_of_own {w : World} {b : Nat} {t : TypeId} {v : Value} (h : w.heap[b]? = some (.cells #[v] t (0, 0))) : w.frozen? ⟨b, 0, none⟩ = false := by simp [World.frozen?, h]

theorem pieces_size {b : UInt8} {s x : ByteArray} (h : x ∈ pieces b s) : x.size ≤ s.size := by
  obtain ⟨l, hl, rfl⟩ := List.mem_map.1 h
  have h1 := segs_len b _ _ hl
  rw [size_B]
  rw [Array.length_toList] at h1
  exact h1

theorem pieces_none {b : UInt8} {s : ByteArray} (h : Lib.indexByte s.data.toList b = -1) : pieces b s = [s] := by
  rw [pieces, segs_index_none h]; rfl
theorem pieces_some {b : UInt8} {s : ByteArray} {i : Nat} (h : Lib.indexByte s.data.toList b = (i : Int)) : i < s.size ∧ pieces b s = s.extract 0 i :: pieces b (s.extract (i + 1) s.size) := by
  obtain ⟨h1, h2⟩ := segs_index_some h
  refine ⟨by rw [Array.length_toList] at h1; exact h1, ?_⟩
  rw [pieces, h2, List.map_cons, pieces]
  congr 1
  · rw [← B_toList (s.extract 0 i), Lib.extract_data]; exact congrArg B (by simp)
  · rw [Lib.extract_to_end]

set_option maxRecDepth 100000 in
set_option maxHeartbeats 4000000 in
theorem splitSeq_stops (n : Nat) (hn : 1 ≤ n) (c : Nat) (s : ByteArray) (b : UInt8) (hs : s.size ≤ 140737488355328) (w : World)
    (h0 : w.heap[c]? = some (.cells #[.string s] 9 (0, 0))) (h1 : w.heap[c + 1]? = some (.cells #[.string ⟨#[b]⟩] 9 (0, 0))) (h2 : w.heap[c + 1 + 1]? = some (.cells #[.int .i64 0] 3 (0, 0))) :
    SeqStopsC Fence.wide n Tryz.prog 87 #[.pointer (some ⟨c + 1, 0, none⟩), .pointer (some ⟨c, 0, none⟩), .pointer (some ⟨c + 1 + 1, 0, none⟩)] (fun x : ByteArray => #[.string x]) (KpS c)
      (fun xs => xs = pieces b s) (fun pre => pre <+: pieces b s) (fun pre => pre <+: pieces b s) c w := fun l J Jx W hW _ _ hJc hY hJ0 => by
  have e0 : W.heap[c]? = some (.cells #[.string s] 9 (0, 0)) := (hW.block c (Array.getElem?_eq_some_iff.1 h0).1).trans h0
  have e1 : W.heap[c + 1]? = some (.cells #[.string ⟨#[b]⟩] 9 (0, 0)) := (hW.block _ (Array.getElem?_eq_some_iff.1 h1).1).trans h1
  have e2 : W.heap[c + 1 + 1]? = some (.cells #[.int .i64 0] 3 (0, 0)) := (hW.block _ (Array.getElem?_eq_some_iff.1 h2).1).trans h2
  have hsep := cell_of_own e1
  clear h0 h1 h2 hW
  refine callsIn_of_wp Tryz.func87 rfl trivial ?_ rfl
  simp only [Tryz.ntmps87, List.size_toArray, List.length_cons, List.length_nil, Nat.reduceAdd, Nat.reduceSub, Array.replicate_succ, Array.replicate_zero, List.push_toArray, List.append_toArray, List.nil_append, List.cons_append]
  gi_wp2
  gi_loopg [7, 8] s.size (fun g _ _ wr => ∃ (pre : List ByteArray) (cur : ByteArray), cur.size ≤ g ∧ cur.size ≤ 140737488355328 ∧ pieces b s = pre ++ pieces b cur ∧ J pre wr ∧ wr.heap[c]? = some (.cells #[.string cur] 9 (0, 0)) ∧ wr.heap[c + 1]? = some (.cells #[.string ⟨#[b]⟩] 9 (0, 0)) ∧ wr.heap[c + 1 + 1]? = some (.cells #[.int .i64 0] 3 (0, 0)))
  case atStart => exact ⟨[], s, Nat.le_refl _, hs, rfl, hJ0, e0, e1, e2⟩
  case round =>
    obtain ⟨pre, cur, hg, hcm, hp, hJp, f0, f1, f2⟩ := hrel
    have k0 := cell_of_own f0
    have k0f := frozen_of_own f0
    have k1 := cell_of_own f1
    have k2 := cell_of_own f2
    obtain ⟨ix, hix⟩ : ∃ ix, Lib.indexByte cur.data.toList b = ix := ⟨_, rfl⟩
    have HI := (callsIn_wide (n := n - 1)).2 (Tryz.strings_Index_one cur b wr)
    rw [hix] at HI
    by_cases hneg : ix < 0
    · have hm : ix = -1 := by have := Lib.indexByte_ge cur.data.toList b; omega
      subst hm
      have hpc := pieces_none hix
      have hlen : pre ++ [cur] <+: pieces b s := by rw [hp, hpc]; exact List.prefix_refl _
      obtain ⟨fn, tmps, assign, body, hy, hR⟩ := hY pre cur wr hJp hlen
      rw [hpc] at hp
      have Hp := Lib.hid hp
      clear hix hpc hlen hp f0 f1 f2 hg hY
      gi_wp2_with (refine ⟨trivial, ?_⟩; gi_at_call 89; refine HI.mono ?_; rintro e w' ⟨rfl, rfl⟩)
      refine hR.mono ?_
      rintro e W3 (⟨rfl, hJ3, hk3⟩ | ⟨rfl, hJx3⟩)
      · gi_wp2
        go_end0
        exact ⟨⟨_, rfl⟩, .inl ⟨_, Hp.out.symm, hJ3⟩⟩
      · gi_wp2
        go_end0
        exact ⟨⟨_, rfl⟩, .inr ⟨_, by rw [Hp.out]; exact List.prefix_refl _, hJx3⟩⟩
    · obtain ⟨i, rfl⟩ := Int.eq_ofNat_of_zero_le (show 0 ≤ ix by omega)
      obtain ⟨hi, hpc⟩ := pieces_some hix
      have hlen : pre ++ [cur.extract 0 i] <+: pieces b s := ⟨pieces b (cur.extract (i + 1) cur.size), by rw [hp, hpc]; simp⟩
      obtain ⟨fn, tmps, assign, body, hy, hR⟩ := hY pre (cur.extract 0 i) wr hJp hlen
      rw [hpc] at hp
      have Hp := Lib.hid hp
      have Hg := Lib.hid hg
      have Hf := Lib.hid (And.intro f0 (And.intro f1 f2))
      clear hix hpc hlen hp f0 f1 f2 hg hY
      gi_wp2_with (refine ⟨trivial, ?_⟩; gi_at_call 89; refine HI.mono ?_; rintro e w' ⟨rfl, rfl⟩)
      refine hR.mono ?_
      rintro e W3 (⟨rfl, hJ3, hk3⟩ | ⟨rfl, hJx3⟩)
      · have f0 := hk3.1.trans Hf.out.1
        have f1 := hk3.2.1.trans Hf.out.2.1
        have f2 := hk3.2.2.trans Hf.out.2.2
        have k0' := cell_of_own f0
        have k0f' := frozen_of_own f0
        have k1' := cell_of_own f1
        have hJ4 := hJc _ _ (.string (cur.extract (i + 1) cur.size)) hJ3
        have Hf2 := Lib.hid (And.intro (cell_own_set f0 (.string (cur.extract (i + 1) cur.size))) (And.intro ((Below.heap_setCell W3 ⟨c, 0, none⟩ (.string (cur.extract (i + 1) cur.size)) (c + 1) (by simp)).trans f1) ((Below.heap_setCell W3 ⟨c, 0, none⟩ (.string (cur.extract (i + 1) cur.size)) (c + 1 + 1) (by simp; omega)).trans f2)))
        clear f0 f1 f2 k0 k0f k1 k2 hk3 Hf hJp hJ3
        gi_wp2
        go_roundg (cur.size - (i + 1))
        case measure => have := Hg.out; omega
        case rel =>
          refine ⟨pre ++ [cur.extract 0 i], cur.extract (i + 1) cur.size, ?_, ?_, ?_, hJ4, Hf2.out⟩
          · simp
          · simp; omega
          · rw [Hp.out]; simp
      · gi_wp2
        refine bodyPost_ret (results_none rfl _ _ _) rfl ?_
        exact ⟨⟨_, rfl⟩, .inr ⟨_, ⟨pieces b (cur.extract (i + 1) cur.size), by rw [Hp.out]; simp⟩, hJx3⟩⟩
end Go.Proofs.YthadldnojdjlnaaGreatDoor

/-! Name -/
namespace Go.Proofs.YthadldnojdjlnaaGreatDoor
open Go Go.RowKit Go.Shelf Go.Proofs

theorem enc_ascii (b : UInt8) (hb : b.toNat < 128) : Utf8.encode (b.toNat : Int) = ⟨#[b]⟩ := by
  have h : ∀ n : Fin 128, Utf8.encode ((n.val : Nat) : Int) = ⟨#[UInt8.ofNat n.val]⟩ := by decide +kernel
  have := h ⟨b.toNat, hb⟩
  simpa using this

theorem sign_ascii {b : UInt8} (h : sign b = true) : b.toNat < 128 := by
  have g : ∀ n : Fin 256, sign (UInt8.ofNat n.val) = true → n.val < 128 := by decide +kernel
  have := g ⟨b.toNat, b.toNat_lt⟩
  simp at this
  exact this h

theorem containsAny_sign {b : UInt8} (h : sign b = true) : Lib.containsAny [b] signsL = true := by
  have g : ∀ n : Fin 256, sign (UInt8.ofNat n.val) = true → Lib.containsAny [UInt8.ofNat n.val] signsL = true := by decide +kernel
  have := g ⟨b.toNat, b.toNat_lt⟩
  simp at this
  exact this h

set_option maxHeartbeats 1000000 in
theorem Name1_sign (b : UInt8) (hb : sign b = true) (w : World) :
    Calls Tryz.prog 65 #[.int .i32 b.toNat] w fun e w' => e = .returned (.bool false) ∧ Ext w w' := by
  have ha := sign_ascii hb
  have hc := Tryz.strings_ContainsAny_laid ⟨#[b]⟩ ⟨#[97, 98, 99, 100, 101, 102, 103, 104, 105, 106, 107, 108, 109, 110, 111, 112, 113, 114, 115, 116, 117, 118, 119, 120, 121, 122, 48, 49, 50, 51, 52, 53, 54, 55, 56, 57, 45, 95]⟩ w (by show 1 < 4294967281; decide) (by decide) (fun j c h => by
    rcases j with _ | j
    · obtain rfl : b = c := by simpa using h
      exact ha
    · simp at h) (ascii_of_all (by decide))
  have e1 : Lib.containsAny (⟨#[b]⟩ : ByteArray).data.toList (⟨#[97, 98, 99, 100, 101, 102, 103, 104, 105, 106, 107, 108, 109, 110, 111, 112, 113, 114, 115, 116, 117, 118, 119, 120, 121, 122, 48, 49, 50, 51, 52, 53, 54, 55, 56, 57, 45, 95]⟩ : ByteArray).data.toList = true := containsAny_sign hb
  rw [e1] at hc
  clear e1
  go_enter Tryz.func65, Tryz.ntmps65
  go_wp2_with fail
  rw [enc_ascii b ha]
  refine hc.mono ?_
  rintro e w' ⟨rfl, hB⟩
  go_wp2
  go_ret
  exact ⟨rfl, hB⟩

set_option maxHeartbeats 2000000 in
theorem indexFunc_none (g : Nat) (eg : ∀ args w, (callFunc g args).run Tryz.prog w = .ok (.enter g args) w) (s : ByteArray) (w : World)
    (hp : ∀ W pos, pos < s.size → Ext w W → Calls Tryz.prog g #[.int .i32 ((Utf8.decode s pos).1 : Int)] W fun e w' => e = .returned (.bool false) ∧ Ext W w') :
    Calls Tryz.prog 116 #[.string s, .func (.func g) #[] #[], .bool true] w fun e w' => e = .returned (.int .i64 (-1)) ∧ Ext w w' := by
  go_enter Tryz.func116, Tryz.ntmps116
  go_wp2
  go_loopg [] s.size (fun gf wx => ∃ pos : Nat, wx.heap[w.heap.size]? = some (.stringIter s pos) ∧ Ext w wx ∧ s.size ≤ pos + gf)
  case atStart => exact ⟨0, World.iter_heap w s 0, (Ext.refl w).alloc _, by omega⟩
  case round =>
    obtain ⟨pos, hit, hbw, hfu⟩ := hrel
    by_cases hps : pos < s.size
    · obtain ⟨g', rfl⟩ : ∃ g', gk = g' + 1 := ⟨gk - 1, by omega⟩
      have hnx : ∀ ty, (Instr.next (.pointer (some ⟨w.heap.size, 0, none⟩)) true ty).run Tryz.prog wr = _ := fun ty => Lib.run_next_any_at wr w.heap.size s pos ty hit hps
      have hwd := Lib.width_pos s pos
      obtain ⟨R, hR⟩ : ∃ R, (Utf8.decode s pos).1 = R := ⟨_, rfl⟩
      obtain ⟨K, hK⟩ : ∃ K, (Utf8.decode s pos).2 = K := ⟨_, rfl⟩
      rw [hR, hK] at hnx
      rw [hK] at hwd
      have hit2 := Lib.iterAt_heap wr w.heap.size s pos (pos + K) hit
      have hbw2 : Ext w (wr.iterAt w.heap.size s (pos + K)) := Lib.below_iterAt hbw (k := w.heap.size) (Nat.le_refl _) s (pos + K)
      obtain ⟨W, hWd⟩ : ∃ W, wr.iterAt w.heap.size s (pos + K) = W := ⟨_, rfl⟩
      rw [hWd] at hnx hit2 hbw2
      have hltW : w.heap.size < W.heap.size := (Array.getElem?_eq_some_iff.1 hit2).1
      have cS := hp W pos hps hbw2
      rw [hR] at cS
      clear hp hR hK hWd
      go_wp2_with (go_at_fn g; refine cS.mono ?_; rintro e W' ⟨rfl, hbc⟩)
      go_roundg g'
      case measure => omega
      case rel => exact ⟨pos + K, hbc.block hit2, hbw2.trans hbc, by omega⟩
    · have hnx : ∀ ty, (Instr.next (.pointer (some ⟨w.heap.size, 0, none⟩)) true ty).run Tryz.prog wr = _ := fun ty => Lib.run_next_end_at wr w.heap.size s pos ty hit hps
      go_wp2
      go_ret
      exact ⟨rfl, hbw⟩

set_option maxHeartbeats 1000000 in
theorem ContainsFunc_none (g : Nat) (eg : ∀ args w, (callFunc g args).run Tryz.prog w = .ok (.enter g args) w) (s : ByteArray) (w : World)
    (hp : ∀ W pos, pos < s.size → Ext w W → Calls Tryz.prog g #[.int .i32 ((Utf8.decode s pos).1 : Int)] W fun e w' => e = .returned (.bool false) ∧ Ext W w') :
    Calls Tryz.prog 64 #[.string s, .func (.func g) #[] #[]] w fun e w' => e = .returned (.bool false) ∧ Ext w w' := by
  have HI := indexFunc_none g eg s w hp
  clear hp
  have H2 : Calls Tryz.prog 97 #[.string s, .func (.func g) #[] #[]] w fun e w' => e = .returned (.int .i64 (-1)) ∧ Ext w w' := by
    go_enter Tryz.func97, Tryz.ntmps97
    go_wp2_with (go_at_call 116; refine HI.mono ?_; rintro e w' ⟨rfl, hb⟩)
    go_ret
    exact ⟨rfl, hb⟩
  clear HI
  go_enter Tryz.func64, Tryz.ntmps64
  go_wp2_with (go_at_call 97; refine H2.mono ?_; rintro e w' ⟨rfl, hb⟩)
  go_ret
  exact ⟨rfl, hb⟩

theorem decode_ascii (s : ByteArray) (pos : Nat) (h : pos < s.size) (hb : (s[pos]).toNat < 128) : (Utf8.decode s pos).1 = (s[pos]).toNat := by
  have e : s.get! (pos + 0) = s[pos] := by
    obtain ⟨a⟩ := s
    simp only [ByteArray.get!, Nat.add_zero]
    exact getElem!_pos a pos h
  unfold Utf8.decode
  simp only [e]
  rw [if_pos hb]

theorem trimS_all (l : List UInt8) (h : l.all sign = true) : Lib.trimS l signsL = [] := by
  have h1 : ∀ l : List UInt8, l.all sign = true → l.dropWhile (signsL.contains ·) = [] := fun l h => by
    induction l with
    | nil => rfl
    | cons b l ih =>
      rw [List.all_cons, Bool.and_eq_true] at h
      rw [List.dropWhile_cons_of_pos (by rw [mem_signs]; exact h.1)]
      exact ih h.2
  have h2 : l.reverse.all sign = true := by rw [List.all_reverse]; exact h
  simp only [Lib.trimS, Lib.trimRightS, Lib.trimLeftS, h1 _ h2, List.reverse_nil, List.dropWhile_nil]

theorem dropWhile_ne {p : UInt8 → Bool} : ∀ {l : List UInt8} {b : UInt8}, b ∈ l → p b = false → b ∈ l.dropWhile p
  | [], _, h, _ => by simp at h
  | c :: l, b, h, hb => by
    by_cases hc : p c = true
    · rw [List.dropWhile_cons_of_pos hc]
      rcases List.mem_cons.1 h with rfl | h
      · rw [hb] at hc; cases hc
      · exact dropWhile_ne h hb
    · rw [List.dropWhile_cons_of_neg hc]; exact h

theorem trimS_not (l : List UInt8) (h : l.all sign = false) : Lib.trimS l signsL ≠ [] := by
  obtain ⟨b, hb, hs⟩ := List.all_eq_false.1 h
  have hs' : signsL.contains b = false := by rw [mem_signs]; simpa using hs
  have h1 : b ∈ l.reverse.dropWhile (signsL.contains ·) := dropWhile_ne (by simpa using hb) hs'
  have h2 : b ∈ (l.reverse.dropWhile (signsL.contains ·)).reverse := by simpa using h1
  have h3 : b ∈ (l.reverse.dropWhile (signsL.contains ·)).reverse.dropWhile (signsL.contains ·) := dropWhile_ne h2 hs'
  intro e
  rw [Lib.trimS, Lib.trimRightS, Lib.trimLeftS] at e
  rw [e] at h3
  simp at h3

theorem Trim_all (s : ByteArray) (w : World) (hs : s.size ≤ 140737488355328) (h : s.data.toList.all sign = true) :
    Calls Tryz.prog 63 #[.string s, .string ⟨#[97, 98, 99, 100, 101, 102, 103, 104, 105, 106, 107, 108, 109, 110, 111, 112, 113, 114, 115, 116, 117, 118, 119, 120, 121, 122, 48, 49, 50, 51, 52, 53, 54, 55, 56, 57, 45, 95]⟩] w fun e w' => e = .returned (.string ⟨#[]⟩) ∧ Ext w w' := by
  refine (Any.strings_Trim_laid Tryz.lays160 (by kernel_rfl) s _ w (by omega) (by decide) (ascii_of_all (by decide))).mono ?_
  rintro e w' ⟨rfl, hb⟩
  have e : Lib.trimS s.data.toList signsL = [] := trimS_all _ h
  exact ⟨congrArg (fun l : List UInt8 => Ending.returned (.string ⟨l.toArray⟩)) e, hb⟩

theorem Trim_not (s : ByteArray) (w : World) (hs : s.size ≤ 140737488355328) (h : s.data.toList.all sign = false) :
    Calls Tryz.prog 63 #[.string s, .string ⟨#[97, 98, 99, 100, 101, 102, 103, 104, 105, 106, 107, 108, 109, 110, 111, 112, 113, 114, 115, 116, 117, 118, 119, 120, 121, 122, 48, 49, 50, 51, 52, 53, 54, 55, 56, 57, 45, 95]⟩] w fun e w' => (∃ x : ByteArray, e = .returned (.string x) ∧ x.toList ≠ []) ∧ Ext w w' := by
  refine (Any.strings_Trim_laid Tryz.lays160 (by kernel_rfl) s _ w (by omega) (by decide) (ascii_of_all (by decide))).mono ?_
  rintro e w' ⟨rfl, hb⟩
  refine ⟨⟨_, rfl, ?_⟩, hb⟩
  have := trimS_not _ h
  intro e
  apply this
  have e2 : (B (Lib.trimS s.data.toList signsL)).toList = [] := e
  simpa [B] using e2

set_option maxHeartbeats 2000000 in
theorem Name_any (s : ByteArray) (w : World) (hs : s.size ≤ 140737488355328) :
    Calls Tryz.prog 52 #[.string s] w fun e w' => e = .returned (.bool (nameOk s.data.toList)) ∧ Ext w w' := by
  have hl : s.data.toList.length = s.size := Array.length_toList
  have e118 : ∀ args w, (callFunc 65 args).run Tryz.prog w = .ok (.enter 65 args) w := enters_of Tryz.func65 (by kernel_rfl) rfl
  by_cases h1 : 1 ≤ s.size
  · by_cases h8 : s.size ≤ 8
    · by_cases ha : s.data.toList.all sign = true
      · have hn : nameOk s.data.toList = true := by simp only [nameOk, hl, ha]; simp; omega
        rw [hn]
        have hT := fun w => Trim_all s w hs ha
        have hC := fun w => ContainsFunc_none 65 e118 s w (fun W pos hp _ => by
          have hsg : sign (s[pos]) = true := List.all_eq_true.1 ha _ (by simp [ByteArray.getElem_eq_getElem_data])
          rw [decode_ascii s pos hp (sign_ascii hsg)]
          exact Name1_sign _ hsg W)
        clear hn ha hl e118
        go_enter Tryz.func52, Tryz.ntmps52
        go_wp2_with (first | (go_at_call 63; refine (hT _).mono ?_; rintro e w' ⟨rfl, hb⟩) | (go_at_call 64; refine (hC _).mono ?_; rintro e w' ⟨rfl, hb2⟩))
        go_ret
        exact ⟨rfl, (by repeat (first | exact Ext.refl _ | assumption | refine Ext.alloc ?_ _ | refine Ext.drew ?_ | refine Ext.drewN ?_ _ | refine Ext.setCell ?_ (by first | omega | (simp; done) | (simp; omega)) _ | refine Ext.trans ?_ (by assumption)))⟩
      · have ha' : s.data.toList.all sign = false := by simpa using ha
        have hn : nameOk s.data.toList = false := by simp only [nameOk, ha', Bool.and_false]
        rw [hn]
        have hT := fun w => Trim_not s w hs ha'
        clear hn ha ha' hl e118
        go_enter Tryz.func52, Tryz.ntmps52
        go_wp2_with (first | (go_at_call 63; refine (hT _).mono ?_; rintro e w' ⟨⟨x, rfl, hx⟩, hb⟩; have hx2 : x.toList.isEmpty = false := by simpa using hx))
        go_ret
        exact ⟨rfl, (by repeat (first | exact Ext.refl _ | assumption | refine Ext.alloc ?_ _ | refine Ext.drew ?_ | refine Ext.drewN ?_ _ | refine Ext.setCell ?_ (by first | omega | (simp; done) | (simp; omega)) _ | refine Ext.trans ?_ (by assumption)))⟩
    · have hn : nameOk s.data.toList = false := by
        have : decide (s.data.toList.length ≤ 8) = false := by simp only [hl]; simpa using h8
        simp only [nameOk, this, Bool.and_false, Bool.false_and]
      rw [hn]
      clear hn hl e118
      go_enter Tryz.func52, Tryz.ntmps52
      go_wp2
      go_ret
      exact ⟨rfl, (by repeat (first | exact Ext.refl _ | assumption | refine Ext.alloc ?_ _ | refine Ext.drew ?_ | refine Ext.drewN ?_ _ | refine Ext.setCell ?_ (by first | omega | (simp; done) | (simp; omega)) _ | refine Ext.trans ?_ (by assumption)))⟩
  · have hn : nameOk s.data.toList = false := by
      have : decide (1 ≤ s.data.toList.length) = false := by simp only [hl]; simpa using h1
      simp only [nameOk, this, Bool.false_and]
    rw [hn]
    clear hn hl e118
    go_enter Tryz.func52, Tryz.ntmps52
    go_wp2
    go_ret
    exact ⟨rfl, (by repeat (first | exact Ext.refl _ | assumption | refine Ext.alloc ?_ _ | refine Ext.drew ?_ | refine Ext.drewN ?_ _ | refine Ext.setCell ?_ (by first | omega | (simp; done) | (simp; omega)) _ | refine Ext.trans ?_ (by assumption)))⟩
end Go.Proofs.YthadldnojdjlnaaGreatDoor

/-! Rd -/
namespace Go.Proofs.YthadldnojdjlnaaGreatDoor
open Go.RowKit

/-- A slice that reads as xs: each element by sz cells. -/
def Rd {α : Type} (R : World → α → List Value → Prop) (sz : Nat) (w : World) (v : Value) (xs : List α) : Prop :=
  ∃ A c, v = .slice A xs.length c ∧ xs.length ≤ c ∧ c ≤ 9223372036854775807 ∧ xs.length ≤ 140737488355328 ∧
    (xs ≠ [] → ∃ b o, A = some ⟨b, o, none⟩ ∧ ∀ j x, xs[j]? = some x → ∃ cs, R w x cs ∧ ∀ i u, cs[i]? = some u → w.cell? ⟨b, o + j * sz + i, none⟩ = some u)

/-- What reads stays, where the world grows. -/
def Stays {α : Type} (R : World → α → List Value → Prop) : Prop := ∀ w w' x cs, Ext w w' → R w x cs → R w' x cs

theorem Rd.ext {α : Type} {R : World → α → List Value → Prop} {sz : Nat} {w w' : World} {v : Value} {xs : List α} (hR : Stays R) (h : Rd R sz w v xs) (he : Ext w w') : Rd R sz w' v xs := by
  obtain ⟨A, c, rfl, h1, h2, hl, h3⟩ := h
  refine ⟨A, c, rfl, h1, h2, hl, fun hne => ?_⟩
  obtain ⟨b, o, rfl, hc⟩ := h3 hne
  refine ⟨b, o, rfl, fun j x hj => ?_⟩
  obtain ⟨cs, hr, hu⟩ := hc j x hj
  exact ⟨cs, hR _ _ _ _ he hr, fun i u hi => he.cell (hu i u hi)⟩

theorem Rd.nil {α : Type} (R : World → α → List Value → Prop) (sz : Nat) (w : World) : Rd R sz w (.slice none 0 0) ([] : List α) :=
  ⟨Option.none, 0, rfl, Nat.le_refl _, by omega, by simp, fun h => absurd rfl h⟩

theorem Rd.none {α : Type} (R : World → α → List Value → Prop) (sz : Nat) (w : World) (A : Option Addr) (c : Nat) (hc : c ≤ 9223372036854775807) : Rd R sz w (.slice A 0 c) ([] : List α) :=
  ⟨A, c, rfl, Nat.zero_le _, hc, by simp, fun h => absurd rfl h⟩

theorem Rd.len {α : Type} {R : World → α → List Value → Prop} {sz : Nat} {w : World} {v : Value} {xs : List α} (h : Rd R sz w v xs) : xs.length ≤ 140737488355328 := by
  obtain ⟨_, _, _, _, _, h, _⟩ := h
  exact h

theorem Rd.open_ {α : Type} {R : World → α → List Value → Prop} {sz : Nat} {w : World} {v : Value} {xs : List α} (h : Rd R sz w v xs) (hne : xs ≠ []) :
    ∃ b o c, v = .slice (some ⟨b, o, Option.none⟩) xs.length c ∧ xs.length ≤ c ∧ c ≤ 9223372036854775807 ∧ ∀ (j : Nat) x, xs[j]? = some x → ∃ cs, R w x cs ∧ ∀ (i : Nat) u, cs[i]? = some u → w.cell? ⟨b, o + j * sz + i, Option.none⟩ = some u := by
  obtain ⟨A, c, rfl, h1, h2, _, h3⟩ := h
  obtain ⟨b, o, rfl, hc⟩ := h3 hne
  exact ⟨b, o, c, rfl, h1, h2, hc⟩

theorem Rd.left {α : Type} {R : World → α → List Value → Prop} {sz : Nat} {w : World} {A : Option Addr} {n c : Nat} {xs ys : List α} (h : Rd R sz w (.slice A n c) (xs ++ ys)) : Rd R sz w (.slice A xs.length c) xs := by
  obtain ⟨A', c', e, h1, h2, hl, h3⟩ := h
  cases e
  rw [List.length_append] at h1 hl
  refine ⟨A, c, rfl, by omega, h2, by omega, fun hne => ?_⟩
  obtain ⟨b, o, rfl, hc⟩ := h3 (by simp [hne])
  refine ⟨b, o, rfl, fun j x hj => hc j x ?_⟩
  rw [List.getElem?_append_left (List.getElem?_eq_some_iff.1 hj).1]
  exact hj

/-- What a call owns it can read. -/
theorem Rd.of_own {α : Type} {R : World → α → List Value → Prop} {sz : Nat} {w : World} {base e : Nat} {v : Value} {xs : List α} {cs : List Value} (h : w.ownsRow base e sz v xs.length cs) (hl : xs.length ≤ 140737488355328)
    (hr : ∀ (j : Nat) x, xs[j]? = some x → ∃ c, R w x c ∧ ∀ (i : Nat) u, c[i]? = some u → cs[j * sz + i]? = some u) : Rd R sz w v xs := by
  rcases h.2 with ⟨rfl, h0⟩ | ⟨g, cap, cur, rfl, hb, hh, h1, h2, h3, h4⟩
  · have : xs = [] := List.eq_nil_of_length_eq_zero h0
    subst this
    exact Rd.nil R sz w
  · refine ⟨_, cap, rfl, h1, by simpa [maxLen] using h2, hl, fun _ => ⟨g, 0, rfl, fun j x hj => ?_⟩⟩
    obtain ⟨c, hc, hu⟩ := hr j x hj
    refine ⟨c, hc, fun i u hi => ?_⟩
    have h5 := hu i u hi
    have h6 : j * sz + i < xs.length * sz := by
      have := (List.getElem?_eq_some_iff.1 h5).1
      have h7 : cs.length = xs.length * sz := h.1
      omega
    rw [Nat.zero_add, h.cellAt (j * sz + i) h6]
    exact h5

/-- A text. -/
def RS (_ : World) (x : ByteArray) (cs : List Value) : Prop := cs = [.string x]
theorem RS.stays : Stays RS := fun _ _ _ _ _ h => h
abbrev RdS := Rd RS 1
theorem RdS.ext {w w' : World} {v : Value} {xs : List ByteArray} (h : RdS w v xs) (he : Ext w w') : RdS w' v xs := Rd.ext RS.stays h he

theorem RdS.open_ {w : World} {v : Value} {xs : List ByteArray} (h : RdS w v xs) (hne : xs ≠ []) :
    ∃ b o c, v = .slice (some ⟨b, o, Option.none⟩) xs.length c ∧ xs.length ≤ c ∧ c ≤ 9223372036854775807 ∧ ∀ (j : Nat) x, xs[j]? = some x → w.cell? ⟨b, o + j, Option.none⟩ = some (.string x) := by
  obtain ⟨b, o, c, rfl, h1, h2, hc⟩ := Rd.open_ h hne
  refine ⟨b, o, c, rfl, h1, h2, fun j x hj => ?_⟩
  obtain ⟨cs, hr, hu⟩ := hc j x hj
  have := hu 0 (.string x) (by rw [show cs = _ from hr]; rfl)
  simpa using this

theorem RdS.of_own {w : World} {base e : Nat} {v : Value} {xs : List ByteArray} (h : w.ownsRow base e 1 v xs.length (xs.map Value.string)) (hl : xs.length ≤ 140737488355328) : RdS w v xs :=
  Rd.of_own h hl fun j x hj => ⟨[.string x], rfl, fun i u hi => by
    rcases i with _ | i
    · have : u = .string x := by simpa using hi.symm
      subst this
      simp [hj]
    · simp at hi⟩
end Go.Proofs.YthadldnojdjlnaaGreatDoor

/-! Err -/
namespace Go.Proofs.YthadldnojdjlnaaGreatDoor
open Go.RowKit

theorem fail_At_nil (op path : ByteArray) (w : World) :
    Calls Tryz.prog 19 #[.string op, .string path, .nilIface] w fun e w' => e = .returned .nilIface ∧ w = w' := by
  go_enter Tryz.func19, Tryz.ntmps19
  go_wp2
  go_ret
  exact ⟨rfl, rfl⟩

theorem fail_At_int (op path : ByteArray) (c : Int) (w : World) :
    Calls Tryz.prog 19 #[.string op, .string path, .iface 65 (.int .i64 c)] w fun e w' => e = .returned (.iface 86 (.pointer (some ⟨w.heap.size, 0, none⟩))) ∧ w' = w.alloc (.cells #[.string op, .string path, .iface 65 (.int .i64 c)] 88) := by
  go_enter Tryz.func19, Tryz.ntmps19
  go_wp2
  go_ret
  exact ⟨rfl, rfl⟩

theorem fail_At_ptr (op path : ByteArray) (x : Value) (w : World) :
    Calls Tryz.prog 19 #[.string op, .string path, .iface 86 x] w fun e w' => e = .returned (.iface 86 (.pointer (some ⟨w.heap.size, 0, none⟩))) ∧ w' = w.alloc (.cells #[.string op, .string path, .iface 86 x] 88) := by
  go_enter Tryz.func19, Tryz.ntmps19
  go_wp2
  go_ret
  exact ⟨rfl, rfl⟩
end Go.Proofs.YthadldnojdjlnaaGreatDoor

/-! ErrAs -/
namespace Go.Proofs.YthadldnojdjlnaaGreatDoor
open Go.RowKit Go.Extern.Stop Go.Stop Go.Extern

theorem as_nil (t : Value) (w : World) :
    Calls Tryz.prog 20 #[.nilIface, t] w fun e w' => e = .returned (.bool false) ∧ w = w' := by
  go_enter Tryz.func20, Tryz.ntmps20
  go_wp2
  go_ret
  exact ⟨rfl, rfl⟩

/-! closed facts on the model's entries for internal/reflectlite -/
theorem rl_valueOfT (t : Addr) (w : World) : (ReflectliteValue.unpack (.iface 67 (.pointer (some t)))).run Tryz.prog w
    = .ok (.agg #[.pointer (some ⟨4, 67, none⟩), .pointer (some ⟨w.heap.size, 0, none⟩), .int .u64 150]) (w.alloc (.cells #[.pointer (some t)] 67)) := by kernel_rfl
theorem rl_typeT (a : Addr) (w : World) : (ReflectliteValue.methodAny (ReflectliteValue.valueError "reflectlite.Value.Type" 0) (fun t _ _ _ => ReflectliteType.toType t) #[.agg #[.pointer (some ⟨4, 67, none⟩), .pointer (some a), .int .u64 150]]).run Tryz.prog w
    = .ok (.iface 114 (.agg #[.pointer (some ⟨4, 67, none⟩)])) w := by kernel_rfl
theorem rl_kindT (w : World) : ((ReflectliteType.abiMethod fun t => (fun a : Nat => Value.int IntKind.u8 (a : Int)) <$> Rtype.kind t) #[.pointer (some ⟨4, 67, none⟩)]).run Tryz.prog w = .ok (.int .u8 22) w := by kernel_rfl
theorem rl_kindE (w : World) : ((ReflectliteType.abiMethod fun t => (fun a : Nat => Value.int IntKind.u8 (a : Int)) <$> Rtype.kind t) #[.pointer (some ⟨4, 65, none⟩)]).run Tryz.prog w = .ok (.int .u8 2) w := by kernel_rfl
theorem rlm (z : Sem Value) (f : TypeId → Addr → Nat → Nat → Sem Value) (v : Value) :
    ReflectliteValue.method z f #[v] = (do match ← ReflectliteValue.parts v with | none => z | some (t, a, fl) => f t a fl (fl % 32)) := rfl
theorem rl_partsT (a : Addr) (w : World) : (ReflectliteValue.parts (.agg #[.pointer (some ⟨4, 67, none⟩), .pointer (some a), .int .u64 150])).run Tryz.prog w = .ok (some (67, a, 150)) w := by kernel_rfl
theorem rl_isNilT (a p : Addr) (W : World) (ha : W.cell? a = some (.pointer (some p))) :
    (ReflectliteValue.method (ReflectliteValue.valueError "reflectlite.Value.IsNil" 0) ReflectliteValue.isNil #[.agg #[.pointer (some ⟨4, 67, none⟩), .pointer (some a), .int .u64 150]]).run Tryz.prog W = .ok (.bool false) W := by
  rw [rlm]
  simp only [Sem.run_bind, rl_partsT, Result.andThen]
  simp [ReflectliteValue.isNil, loadVar, isAgg, underlying, Tryz.underlying67, ha, Result.andThen]
theorem rl_methodKind (h : Value) (w : World) : (Go.method 330 114 (.agg #[h]) "Kind").run Tryz.prog w = .ok (147, h) w := by kernel_rfl
theorem rl_methodElem (h : Value) (w : World) : (Go.method 330 114 (.agg #[h]) "Elem").run Tryz.prog w = .ok (159, .agg #[h]) w := by kernel_rfl
theorem rl_methodImplements (h : Value) (w : World) : (Go.method 330 114 (.agg #[h]) "Implements").run Tryz.prog w = .ok (160, .agg #[h]) w := by kernel_rfl
theorem rl_methodAssignableTo (h : Value) (w : World) : (Go.method 330 114 (.agg #[h]) "AssignableTo").run Tryz.prog w = .ok (157, .agg #[h]) w := by kernel_rfl
theorem rl_elemT (w : World) : (ReflectliteType.method ReflectliteType.elem #[.agg #[.pointer (some ⟨4, 67, none⟩)]]).run Tryz.prog w = .ok (.iface 114 (.agg #[.pointer (some ⟨4, 65, none⟩)])) w := by kernel_rfl
theorem rl_implements (w : World) : (ReflectliteType.relation "Implements" ReflectliteType.implements_ #[.agg #[.pointer (some ⟨4, 65, none⟩)], .iface 114 (.agg #[.pointer (some ⟨4, 33, none⟩)])]).run Tryz.prog w = .ok (.bool true) w := by kernel_rfl
theorem rl_typeOfE (v : Value) (w : World) : (ReflectliteType.typeOf #[.iface 65 v]).run Tryz.prog w = .ok (.iface 114 (.agg #[.pointer (some ⟨4, 65, none⟩)])) w := by kernel_rfl
theorem rl_typeOfF (v : Value) (w : World) : (ReflectliteType.typeOf #[.iface 86 v]).run Tryz.prog w = .ok (.iface 114 (.agg #[.pointer (some ⟨4, 86, none⟩)])) w := by kernel_rfl
theorem rl_assignE (w : World) : (ReflectliteType.relation "AssignableTo" ReflectliteType.assignableTo #[.agg #[.pointer (some ⟨4, 65, none⟩)], .iface 114 (.agg #[.pointer (some ⟨4, 65, none⟩)])]).run Tryz.prog w = .ok (.bool true) w := by kernel_rfl
theorem rl_assignF (w : World) : (ReflectliteType.relation "AssignableTo" ReflectliteType.assignableTo #[.agg #[.pointer (some ⟨4, 86, none⟩)], .iface 114 (.agg #[.pointer (some ⟨4, 65, none⟩)])]).run Tryz.prog w = .ok (.bool false) w := by kernel_rfl
theorem rl_valueOfE (c : Int) (w : World) : (ReflectliteValue.unpack (.iface 65 (.int .i64 c))).run Tryz.prog w
    = .ok (.agg #[.pointer (some ⟨4, 65, none⟩), .pointer (some ⟨w.heap.size, 0, none⟩), .int .u64 130]) (w.alloc (.cells #[.int .i64 c] 65)) := by kernel_rfl
theorem rl_elemOfT (w : World) : (Rtype.elem? 67).run Tryz.prog w = .ok (some 65) w := by kernel_rfl
theorem rl_mkE (p : Addr) (w : World) : (ReflectliteValue.mk 65 p ReflectliteValue.flagAddr).run Tryz.prog w = .ok (.agg #[.pointer (some ⟨4, 65, none⟩), .pointer (some p), .int .u64 386]) w := by kernel_rfl
theorem rl_elemVT (a p : Addr) (W : World) (ha : W.cell? a = some (.pointer (some p))) :
    (ReflectliteValue.method (ReflectliteValue.valueError "reflectlite.Value.Elem" 0) ReflectliteValue.elem #[.agg #[.pointer (some ⟨4, 67, none⟩), .pointer (some a), .int .u64 150]]).run Tryz.prog W
      = .ok (.agg #[.pointer (some ⟨4, 65, none⟩), .pointer (some p), .int .u64 386]) W := by
  rw [rlm]
  simp only [Sem.run_bind, rl_partsT, Result.andThen]
  simp [ReflectliteValue.elem, loadVar, isAgg, underlying, Tryz.underlying67, ha, Result.andThen, rl_elemOfT, rl_mkE]
theorem rls (v x : Value) : ReflectliteValue.set #[v, x] = (do
    let (some (dst, a, fl), some (src, b, _)) := (← ReflectliteValue.parts v, ← ReflectliteValue.parts x)
      | unsupported (.noEntry "extern/(internal/reflectlite.Value).Set.zeroValue")
    if fl / ReflectliteValue.flagAddr % 2 == 0 then unsupported (.noEntry "extern/(internal/reflectlite.Value).Set.unaddressable")
    let val ← loadVar src b
    if ← Rtype.directlyAssignable dst src then storeVar dst a val
    else if ← Rtype.implements dst src then
      if (← Rtype.kind src) == 20 then
        match val with
        | .nilIface => unsupported (.noEntry "extern/reflectlite: a nil value of one interface type handed on as a value of another")
        | _ => storeVar dst a val
      else storeVar dst a (.iface src val)
    else panicString ("reflectlite.Set: value of type " ++ (← Rtype.spelt src) ++ " is not assignable to type " ++ (← Rtype.spelt dst))
    pure (.tuple #[])) := rfl
theorem rl_partsEa (a : Addr) (w : World) : (ReflectliteValue.parts (.agg #[.pointer (some ⟨4, 65, none⟩), .pointer (some a), .int .u64 386])).run Tryz.prog w = .ok (some (65, a, 386)) w := by kernel_rfl
theorem rl_partsE (a : Addr) (w : World) : (ReflectliteValue.parts (.agg #[.pointer (some ⟨4, 65, none⟩), .pointer (some a), .int .u64 130])).run Tryz.prog w = .ok (some (65, a, 130)) w := by kernel_rfl
theorem rl_directE (w : World) : (Rtype.directlyAssignable 65 65).run Tryz.prog w = .ok true w := by kernel_rfl
theorem rl_setE (ta b : Addr) (c : Int) (old : Value) (W : World) (hb : W.cell? b = some (.int .i64 c)) (ht : W.cell? ta = some old) (hf : W.frozen? ta = false) :
    (ReflectliteValue.set #[.agg #[.pointer (some ⟨4, 65, none⟩), .pointer (some ta), .int .u64 386], .agg #[.pointer (some ⟨4, 65, none⟩), .pointer (some b), .int .u64 130]]).run Tryz.prog W
      = .ok (.tuple #[]) (W.setCell ta (.int .i64 c)) := by
  rw [rls]
  simp only [Sem.run_bind, rl_partsEa, rl_partsE, Result.andThen]
  simp [ReflectliteValue.flagAddr, loadVar, isAgg, underlying, Tryz.underlying65, hb, Result.andThen, rl_directE, storeVar, Value.cells, storeCells, Addr.add]
  rw [run_store Tryz.prog W ta _ _ (by rfl)]
  simp [ht, hf]
theorem asn_As (v : Value) (xT : TypeId) (w : World) : (Instr.typeAssert (.iface 86 v) xT 119 true).run Tryz.prog w = .ok (.tuple #[.nilIface, .bool false]) w := run_typeAssert_lacksB Tryz.underlying119 (by kernel_rfl) (by kernel_rfl) v xT w
theorem asn_Unwrap (v : Value) (xT : TypeId) (w : World) : (Instr.typeAssert (.iface 86 v) xT 122 true).run Tryz.prog w = .ok (.tuple #[.iface 86 v, .bool true]) w := run_typeAssert_hasB Tryz.underlying122 (by kernel_rfl) v xT w
end Go.Proofs.YthadldnojdjlnaaGreatDoor

/-! ErrCode -/
namespace Go.Proofs.YthadldnojdjlnaaGreatDoor
open Go.RowKit Go.Extern.Stop Go.Stop Go.Extern

/-- v is an error of the number c, wrapped n times. -/
def ErrN (w : World) : Nat → Value → Int → Prop
  | 0, v, c => v = .iface 65 (.int .i64 c)
  | n + 1, v, c => ∃ a x, v = .iface 86 (.pointer (some ⟨a, 0, none⟩)) ∧ w.cell? ⟨a, 2, none⟩ = some x ∧ ErrN w n x c

theorem nilAhead_Unwrap (a : Addr) (w : World) : (nilAhead 330 86 (.pointer (some a)) "Unwrap").run Tryz.prog w = .ok (some false) w := by kernel_rfl
theorem method_Unwrap (a : Addr) (w : World) : (Go.method 330 86 (.pointer (some a)) "Unwrap").run Tryz.prog w = .ok (152, .pointer (some a)) w := by kernel_rfl

theorem Unwrap_any (a : Nat) (x : Value) (w : World) (h : w.cell? ⟨a, 2, none⟩ = some x) :
    Calls Tryz.prog 152 #[.pointer (some ⟨a, 0, none⟩)] w fun e w' => e = .returned x ∧ w = w' := by
  go_enter Tryz.func152, Tryz.ntmps152
  go_wp2
  go_ret
  exact ⟨rfl, rfl⟩


theorem ErrN_ne {w : World} {n : Nat} {v : Value} {c : Int} (h : ErrN w n v c) : (∃ a, v = .iface 86 (.pointer (some ⟨a, 0, none⟩))) ∨ v = .iface 65 (.int .i64 c) := by
  cases n with
  | zero => exact .inr h
  | succ n => obtain ⟨a, _, rfl, _⟩ := h; exact .inl ⟨a, rfl⟩

set_option maxHeartbeats 4000000 in
theorem as_loop (n : Nat) (v : Value) (c : Int) (t : Addr) (b : Addr) (old : Value) (w : World) (he : ErrN w n v c)
    (ht0 : w.cell? t = some old) (hf0 : w.frozen? t = false) (hb : w.cell? b = some (.pointer (some t))) :
    Calls Tryz.prog 34 #[v, .iface 67 (.pointer (some t)), .agg #[.pointer (some ⟨4, 67, none⟩), .pointer (some b), .int .u64 150], .iface 114 (.agg #[.pointer (some ⟨4, 65, none⟩)])] w
      fun ev w' => ev = .returned (.bool true) ∧ w' = ((w.alloc (.cells #[.pointer (some ⟨4, 67, none⟩), .pointer (some b), .int .u64 150] 92)).alloc (.cells #[.int .i64 c] 65)).setCell t (.int .i64 c) := by
  have htl : t.block < w.heap.size := World.block_lt_of_cell? w t ht0
  have hbl : b.block < w.heap.size := World.block_lt_of_cell? w b hb
  have hb2 : (w.alloc (.cells #[.pointer (some ⟨4, 67, none⟩), .pointer (some b), .int .u64 150] 92)).cell? b = some (.pointer (some t)) := by
    rw [World.cell?_alloc_lt _ _ b hbl]; exact hb
  have el := rl_elemVT b t (w.alloc (.cells #[.pointer (some ⟨4, 67, none⟩), .pointer (some b), .int .u64 150] 92)) hb2
  have st := rl_setE t ⟨w.heap.size + 1, 0, none⟩ c old ((w.alloc (.cells #[.pointer (some ⟨4, 67, none⟩), .pointer (some b), .int .u64 150] 92)).alloc (.cells #[.int .i64 c] 65))
    (by rw [World.cell?_alloc_at _ _ _ _ (by simp)]; rfl)
    (by rw [World.cell?_alloc_lt _ _ t (by simp; omega), World.cell?_alloc_lt _ _ t htl]; exact ht0)
    (by rw [World.frozen?_alloc_old _ _ t (by simp; omega), World.frozen?_alloc_old _ _ t (Nat.ne_of_lt htl)]; exact hf0)
  clear hb2 hb ht0 hf0
  have h67 := @run_callFunc_extern Tryz.prog 31 _ (fun args => ReflectliteValue.unpack (args.getD 0 (.tuple #[]))) Tryz.func31 (by kernel_rfl) (by kernel_rfl) (by kernel_rfl) (by kernel_rfl)
  have hTO := @run_callFunc_extern Tryz.prog 47 _ ReflectliteType.typeOf Tryz.func47 (by kernel_rfl) (by kernel_rfl) (by kernel_rfl) (by kernel_rfl)
  have hAs := @run_callFunc_extern Tryz.prog 157 _ (ReflectliteType.relation "AssignableTo" ReflectliteType.assignableTo) Tryz.func157 (by kernel_rfl) (by kernel_rfl) (by kernel_rfl) (by kernel_rfl)
  have hEV := @run_callFunc_extern Tryz.prog 48 _ (ReflectliteValue.method (ReflectliteValue.valueError "reflectlite.Value.Elem" 0) ReflectliteValue.elem) Tryz.func48 (by kernel_rfl) (by kernel_rfl) (by kernel_rfl) (by kernel_rfl)
  have hSet := @run_callFunc_extern Tryz.prog 49 _ ReflectliteValue.set Tryz.func49 (by kernel_rfl) (by kernel_rfl) (by kernel_rfl) (by kernel_rfl)
  have f1 := rl_methodAssignableTo
  have f2 := rl_typeOfE
  have f3 := rl_typeOfF
  have f4 := rl_assignE
  have f5 := rl_assignF
  have f6 := rl_valueOfE
  have f7 := asn_As
  have f8 := asn_Unwrap
  have f9 := nilAhead_Unwrap
  have f10 := method_Unwrap
  go_enter Tryz.func34, Tryz.ntmps34
  go_wp2
  go_loopg [0] n (fun g v' wr => w.alloc (.cells #[.pointer (some ⟨4, 67, none⟩), .pointer (some b), .int .u64 150] 92) = wr ∧ ErrN w g v' c)
  case atStart => exact ⟨rfl, he⟩
  case round =>
    obtain ⟨rfl, hE⟩ := hrel
    cases gk with
    | zero =>
      obtain rfl := hE
      go_wp2
      go_ret
      exact ⟨rfl, rfl⟩
    | succ g =>
      obtain ⟨a, x, rfl, hx, hE'⟩ := hE
      have hx2 : (w.alloc (.cells #[.pointer (some ⟨4, 67, none⟩), .pointer (some b), .int .u64 150] 92)).cell? ⟨a, 2, none⟩ = some x := by
        rw [World.cell?_alloc_lt _ _ ⟨a, 2, none⟩ (World.block_lt_of_cell? w ⟨a, 2, none⟩ hx)]; exact hx
      have HE := Lib.hid hE'
      clear hx
      rcases ErrN_ne hE' with ⟨a', rfl⟩ | rfl
      · clear hE'
        go_wp2_with (go_at_call 152; refine (Unwrap_any _ _ _ hx2).mono ?_; rintro e w' ⟨rfl, rfl⟩)
        go_roundg g
        case rel => exact ⟨rfl, HE.out⟩
        case measure => omega
      · clear hE'
        go_wp2_with (go_at_call 152; refine (Unwrap_any _ _ _ hx2).mono ?_; rintro e w' ⟨rfl, rfl⟩)
        go_roundg g
        case rel => exact ⟨rfl, HE.out⟩
        case measure => omega

theorem ErrN_old : ∀ {n : Nat} {w : World} {v : Value} {c : Int} {w' : World}, ErrN w n v c → (∀ b x, w.cell? ⟨b, 2, none⟩ = some x → w'.cell? ⟨b, 2, none⟩ = some x) → ErrN w' n v c
  | 0, _, _, _, _, h, _ => h
  | _ + 1, _, _, _, _, ⟨a, x, e, hx, h⟩, hc => ⟨a, x, e, hc _ _ hx, ErrN_old h hc⟩
theorem ErrN.below {w w' : World} {n : Nat} {v : Value} {c : Int} (h : ErrN w n v c) (hb : Below w.heap.size w w') : ErrN w' n v c :=
  ErrN_old h fun b _ hx => (hb.cell (p := ⟨b, 2, none⟩) (World.block_lt_of_cell? w ⟨b, 2, none⟩ hx)).trans hx

set_option maxHeartbeats 4000000 in
theorem As_any (n : Nat) (v : Value) (c : Int) (t : Addr) (old : Value) (w : World) (he : ErrN w n v c)
    (hg : w.cell? ⟨0, 0, none⟩ = some (.iface 114 (.agg #[.pointer (some ⟨4, 33, none⟩)])))
    (ht0 : w.cell? t = some old) (hf0 : w.frozen? t = false) :
    Calls Tryz.prog 20 #[v, .iface 67 (.pointer (some t))] w
      fun ev w' => ev = .returned (.bool true) ∧ w' = ((((w.alloc (.cells #[.pointer (some t)] 67)).alloc (.cells #[.pointer (some ⟨4, 67, none⟩), .pointer (some ⟨w.heap.size, 0, none⟩), .int .u64 150] 92)).alloc (.cells #[.pointer (some ⟨4, 67, none⟩), .pointer (some ⟨w.heap.size, 0, none⟩), .int .u64 150] 92)).alloc (.cells #[.int .i64 c] 65)).setCell t (.int .i64 c) := by
  have htl : t.block < w.heap.size := World.block_lt_of_cell? w t ht0
  have hgl : 0 < w.heap.size := World.block_lt_of_cell? w ⟨0, 0, none⟩ hg
  obtain ⟨w2, hw2⟩ : ∃ w2, w2 = (w.alloc (.cells #[.pointer (some t)] 67)).alloc (.cells #[.pointer (some ⟨4, 67, none⟩), .pointer (some ⟨w.heap.size, 0, none⟩), .int .u64 150] 92) := ⟨_, rfl⟩
  have hB : Below w.heap.size w w2 := by rw [hw2]; exact ((Below.refl _ w).alloc (Nat.le_refl _) _).alloc (by simp) _
  have hg2 : w2.cell? ⟨0, 0, none⟩ = some (.iface 114 (.agg #[.pointer (some ⟨4, 33, none⟩)])) := (hB.cell (p := ⟨0, 0, none⟩) hgl).trans hg
  have ht2 : w2.cell? t = some old := by rw [hw2, World.cell?_alloc_lt _ _ t (by simp; omega), World.cell?_alloc_lt _ _ t htl]; exact ht0
  have hf2 : w2.frozen? t = false := by rw [hw2, World.frozen?_alloc_old _ _ t (by simp; omega), World.frozen?_alloc_old _ _ t (Nat.ne_of_lt htl)]; exact hf0
  have hp2 : w2.cell? ⟨w.heap.size, 0, none⟩ = some (.pointer (some t)) := by rw [hw2, World.cell?_alloc_lt _ _ ⟨w.heap.size, 0, none⟩ (by simp)]; simp
  have n8 := rl_isNilT ⟨w.heap.size, 0, none⟩ t w2 hp2
  have HL := as_loop n v c t ⟨w.heap.size, 0, none⟩ old w2 (he.below hB) ht2 hf2 hp2
  rw [hw2] at HL n8 hg2
  clear ht2 hf2 hp2 hB hw2 hg ht0 hf0
  have h67 := @run_callFunc_extern Tryz.prog 31 _ (fun args => ReflectliteValue.unpack (args.getD 0 (.tuple #[]))) Tryz.func31 (by kernel_rfl) (by kernel_rfl) (by kernel_rfl) (by kernel_rfl)
  have h68 := @run_callFunc_extern Tryz.prog 32 _ (ReflectliteValue.methodAny (ReflectliteValue.valueError "reflectlite.Value.Type" 0) (fun t _ _ _ => ReflectliteType.toType t)) Tryz.func32 (by kernel_rfl) (by kernel_rfl) (by kernel_rfl) (by kernel_rfl)
  have h69 := @run_callFunc_extern Tryz.prog 33 _ (ReflectliteValue.method (ReflectliteValue.valueError "reflectlite.Value.IsNil" 0) ReflectliteValue.isNil) Tryz.func33 (by kernel_rfl) (by kernel_rfl) (by kernel_rfl) (by kernel_rfl)
  have hK := @run_callFunc_extern Tryz.prog 147 _ (ReflectliteType.abiMethod fun t => do pure (.int .u8 (← Rtype.kind t))) Tryz.func147 (by kernel_rfl) (by kernel_rfl) (by kernel_rfl) (by kernel_rfl)
  have hE := @run_callFunc_extern Tryz.prog 159 _ (ReflectliteType.method ReflectliteType.elem) Tryz.func159 (by kernel_rfl) (by kernel_rfl) (by kernel_rfl) (by kernel_rfl)
  have hI := @run_callFunc_extern Tryz.prog 160 _ (ReflectliteType.relation "Implements" ReflectliteType.implements_) Tryz.func160 (by kernel_rfl) (by kernel_rfl) (by kernel_rfl) (by kernel_rfl)
  have f1 := rl_valueOfT
  have f2 := rl_typeT
  have f3 := rl_methodKind
  have f4 := rl_kindT
  have f5 := rl_kindE
  have f6 := rl_methodElem
  have f7 := rl_elemT
  have f8 := rl_methodImplements
  have f9 := rl_implements
  rcases ErrN_ne he with ⟨a', rfl⟩ | rfl
  all_goals
    clear he
    go_enter Tryz.func20, Tryz.ntmps20
    go_wp2_with (go_at_call 34; refine HL.mono ?_; rintro e w' ⟨rfl, rfl⟩)
    go_ret
    exact ⟨rfl, rfl⟩

theorem fail_At_c (op path : ByteArray) (c : Int) (w : World) :
    Calls Tryz.prog 19 #[.string op, .string path, .iface 65 (.int .i64 c)] w fun e w' => (∃ a, e = .returned (.iface 86 (.pointer (some ⟨a, 0, none⟩))) ∧ ErrN w' 1 (.iface 86 (.pointer (some ⟨a, 0, none⟩))) c) ∧ Ext w w' := by
  refine (fail_At_int op path c w).mono ?_
  rintro e w' ⟨rfl, rfl⟩
  exact ⟨⟨_, rfl, _, .iface 65 (.int .i64 c), rfl, by rw [World.cell?_alloc_at _ _ _ _ rfl]; rfl, rfl⟩, (Ext.refl w).alloc _⟩

/-- An error is wrapped once more. -/
theorem fail_At_w (op path : ByteArray) (n : Nat) (v : Value) (c : Int) (w : World) (he : ErrN w n v c) :
    Calls Tryz.prog 19 #[.string op, .string path, v] w fun e w' => (∃ a, e = .returned (.iface 86 (.pointer (some ⟨a, 0, none⟩))) ∧ ErrN w' (n + 1) (.iface 86 (.pointer (some ⟨a, 0, none⟩))) c) ∧ Ext w w' := by
  rcases ErrN_ne he with ⟨a, rfl⟩ | rfl
  · refine (fail_At_ptr op path _ w).mono ?_
    rintro e w' ⟨rfl, rfl⟩
    exact ⟨⟨_, rfl, _, _, rfl, by rw [World.cell?_alloc_at _ _ _ _ rfl]; rfl, he.below ((Ext.refl w).alloc _)⟩, (Ext.refl w).alloc _⟩
  · refine (fail_At_int op path c w).mono ?_
    rintro e w' ⟨rfl, rfl⟩
    exact ⟨⟨_, rfl, _, _, rfl, by rw [World.cell?_alloc_at _ _ _ _ rfl]; rfl, he.below ((Ext.refl w).alloc _)⟩, (Ext.refl w).alloc _⟩

theorem Code_nil (w : World) : Calls Tryz.prog 8 #[.nilIface] w fun e w' => e = .returned (.int .i64 0) ∧ Ext w w' := by
  go_enter Tryz.func8, Tryz.ntmps8
  go_wp2
  go_ret
  exact ⟨rfl, (Below.refl _ w).alloc (Nat.le_refl _) _⟩

set_option maxHeartbeats 4000000 in
theorem Code_err (n : Nat) (v : Value) (c : Int) (w : World) (he : ErrN w n v c)
    (hg : w.cell? ⟨0, 0, none⟩ = some (.iface 114 (.agg #[.pointer (some ⟨4, 33, none⟩)]))) :
    Calls Tryz.prog 8 #[v] w fun e w' => e = .returned (.int .i64 c) ∧ Ext w w' := by
  have hB : Below w.heap.size w (w.alloc (.cells #[.int .i64 0] 65)) := (Below.refl _ w).alloc (Nat.le_refl _) _
  have hgl : 0 < w.heap.size := World.block_lt_of_cell? w ⟨0, 0, none⟩ hg
  have HA := As_any n v c ⟨w.heap.size, 0, none⟩ (.int .i64 0) (w.alloc (.cells #[.int .i64 0] 65)) (he.below hB) ((hB.cell (p := ⟨0, 0, none⟩) hgl).trans hg) (by simp) (by simp)
  clear hB hg
  rcases ErrN_ne he with ⟨a', rfl⟩ | rfl
  all_goals
    clear he
    go_enter Tryz.func8, Tryz.ntmps8
    go_wp2_with (go_at_call 20; refine HA.mono ?_; rintro e w' ⟨rfl, rfl⟩)
    go_ret
    exact ⟨rfl, (by repeat (first | exact Ext.refl _ | assumption | refine Ext.alloc ?_ _ | refine Ext.drew ?_ | refine Ext.drewN ?_ _ | refine Ext.setCell ?_ (by first | omega | (simp; done) | (simp; omega)) _ | refine Ext.trans ?_ (by assumption)))⟩
end Go.Proofs.YthadldnojdjlnaaGreatDoor

/-! Split -/
namespace Go.Proofs.YthadldnojdjlnaaGreatDoor
open Go Go.RowKit Go.Shelf Go.Proofs
attribute [local go_sem] Oper.semAt_some

theorem Tryz.info9s : (Tryz.prog.info? 9).map (fun i => (i.zero, i.size, i.bytes)) = some (some (.string ⟨#[]⟩), 1, 16) := by kernel_rfl

theorem boxed_ext {W W' : World} {b : Nat} {t : TypeId} {v : Value} (h : Boxed W b t v) (he : Ext W W') : Boxed W' b t v := he.block h
theorem others_ext {W W' : World} (he : Ext W W') : KeepsOthers W W' := ⟨he.size, fun _ _ hk _ => he.block hk⟩
theorem kps_ext {c : Nat} {W W' : World} (he : Ext W W') (hc : c + 1 + 1 < W.heap.size) : KpS c W W' := ⟨Below.block he _ (by omega), Below.block he _ (by omega), Below.block he _ hc⟩

theorem errN_box {W : World} {n : Nat} {v : Value} {c : Int} {b : Nat} {t : TypeId} {u : Value} (h : ErrN W n v c) (hb : Boxed W b t u) (x : Value) : ErrN (W.setCell ⟨b, 0, none⟩ x) n v c :=
  ErrN_old h fun b' y hy => by
    have hne : b' ≠ b := fun e => by
      subst e
      rw [show W.cell? ⟨b', 2, none⟩ = (#[u] : Array Value)[2]? from cell_of_row W b' 2 _ _ _ hb] at hy
      simp at hy
    rw [World.cell?_of_block (w := W) (Below.heap_setCell W ⟨b, 0, none⟩ x b' hne)]
    exact hy


def SplitOk (xs : List ByteArray) (w : World) (e : Ending) (w' : World) : Prop := ∃ v, e = .returned (.tuple #[v, .nilIface]) ∧ RdS w' v xs ∧ Ext w w'
def SplitBad (w : World) (e : Ending) (w' : World) : Prop := ∃ v, e = .returned (.tuple #[.slice none 0 0, v]) ∧ ErrN w' 1 v 2 ∧ Ext w w'

/-- The names lie in new memory. -/
def SplitNew (xs : List ByteArray) (w : World) (e : Ending) (w' : World) : Prop := ∃ v, e = .returned (.tuple #[v, .nilIface]) ∧ RdS w' v xs ∧ Ext w w' ∧ ∀ b, v.ownBlock = some b → w.heap.size ≤ b
theorem SplitNew.ok {xs : List ByteArray} {w w' : World} {e : Ending} (h : SplitNew xs w e w') : SplitOk xs w e w' := by
  obtain ⟨v, h1, h2, h3, _⟩ := h
  exact ⟨v, h1, h2, h3⟩
def SplitIf (xs : List ByteArray) (w : World) (e : Ending) (w' : World) : Prop := if xs.all nameB = true ∧ xs.length ≤ 6 then SplitNew xs w e w' else SplitBad w e w'

set_option maxHeartbeats 1000000 in
theorem Split_root (w : World) : Calls Tryz.prog 35 #[.string ⟨#[47]⟩] w (SplitNew [] w) := by
  refine (callsIn_wide (n := 3)).1 ?_
  refine callsIn_of_wp_marks Tryz.func35 rfl trivial ?_ rfl
  simp only [Tryz.ntmps35, List.size_toArray, List.length_cons, List.length_nil, Nat.reduceAdd, Nat.reduceSub, Array.replicate_succ, Array.replicate_zero, List.push_toArray, List.append_toArray, List.nil_append, List.cons_append]
  gi_wp2
  refine ⟨.tuple #[.slice none 0 0, .nilIface], ?_, ?_⟩
  · simp [results, Tryz.f35, go_sem]
  · exact ⟨_, rfl, Rd.nil _ _ _, (by repeat (first | exact Ext.refl _ | assumption | refine Ext.alloc ?_ _ | refine Ext.drew ?_ | refine Ext.drewN ?_ _ | refine Ext.setCell ?_ (by first | omega | (simp; done) | (simp; omega)) _ | refine Ext.trans ?_ (by assumption))), fun b hb => by simp [Value.ownBlock] at hb⟩

set_option maxHeartbeats 1000000 in
/-- No slash ahead. -/
theorem Split_bare (p : ByteArray) (w : World) (hp : Lib.hasPrefix p.data.toList [47] = false) : Calls Tryz.prog 35 #[.string p] w (SplitBad w) := by
  have hne : (p.toList == [47]) = false := by
    have h1 : p.toList ≠ [47] := fun e => by
      rw [ByteArray.toList_eq] at e
      rw [e] at hp
      simp [Lib.hasPrefix] at hp
    simpa using h1
  have hCP := fun w => (callsIn_wide (n := 3 - 1)).2 (Tryz.strings_CutPrefix p ⟨#[47]⟩ w)
  have hpb : Lib.hasPrefix p.data.toList (⟨#[47]⟩ : ByteArray).data.toList = false := hp
  rw [hpb] at hCP
  clear hp hpb
  refine (callsIn_wide (n := 3)).1 ?_
  refine callsIn_of_wp_marks Tryz.func35 rfl trivial ?_ rfl
  simp only [Tryz.ntmps35, List.size_toArray, List.length_cons, List.length_nil, Nat.reduceAdd, Nat.reduceSub, Array.replicate_succ, Array.replicate_zero, List.push_toArray, List.append_toArray, List.nil_append, List.cons_append]
  gi_wp2_with (first | (refine ⟨trivial, ?_⟩; gi_at_call 50; refine (hCP _).mono ?_; rintro e w' ⟨rfl, rfl⟩) | (refine ⟨trivial, ?_⟩; gi_at_call 19; refine (callsIn_wide.2 (fail_At_int _ _ _ _)).mono ?_; rintro e w' ⟨rfl, rfl⟩))
  refine ⟨.tuple #[.slice none 0 0, .iface 86 (.pointer (some ⟨w.heap.size + 1 + 1 + 1, 0, none⟩))], ?_, ?_⟩
  · simp [results, Tryz.f35, go_sem]
  · exact ⟨_, rfl, ⟨_, .iface 65 (.int .i64 2), rfl, by rw [World.cell?_alloc_at _ _ _ _ (by simp)]; rfl, rfl⟩, (by repeat (first | exact Ext.refl _ | assumption | refine Ext.alloc ?_ _ | refine Ext.drew ?_ | refine Ext.drewN ?_ _ | refine Ext.setCell ?_ (by first | omega | (simp; done) | (simp; omega)) _ | refine Ext.trans ?_ (by assumption)))⟩

set_option maxRecDepth 100000 in
set_option maxHeartbeats 4000000 in
theorem Split_path (p r : ByteArray) (w : World) (hs : p.size ≤ 140737488355328) (hp : p.data.toList = 47 :: r.data.toList) (hr : r.data.toList ≠ []) :
    Calls Tryz.prog 35 #[.string p] w (SplitIf (pieces 47 r) w) := by
  have hne : (p.toList == [47]) = false := by
    have h1 : p.toList ≠ [47] := fun e => by
      rw [ByteArray.toList_eq, hp] at e
      exact hr (by simpa using e)
    simpa using h1
  have hrs : r.size ≤ 140737488355328 := by
    have h1 : p.data.toList.length = p.size := Array.length_toList
    have h2 : r.data.toList.length = r.size := Array.length_toList
    rw [hp, List.length_cons] at h1
    omega
  have hCP := fun w => (callsIn_wide (n := 3 - 1)).2 (Tryz.strings_CutPrefix p ⟨#[47]⟩ w)
  have hp1 : Lib.hasPrefix p.data.toList (⟨#[47]⟩ : ByteArray).data.toList = true := by rw [hp]; simp [Lib.hasPrefix]
  have hp2 : (⟨(Lib.trimPrefix p.data.toList (⟨#[47]⟩ : ByteArray).data.toList).toArray⟩ : ByteArray) = r := by
    rw [Lib.trimPrefix, hp1, hp]
    simp
  rw [hp1, hp2] at hCP
  clear hp1 hp2 hp hr
  refine (callsIn_wide (n := 3)).1 ?_
  refine callsIn_of_wp_marks Tryz.func35 rfl trivial ?_ rfl
  simp only [Tryz.ntmps35, List.size_toArray, List.length_cons, List.length_nil, Nat.reduceAdd, Nat.reduceSub, Array.replicate_succ, Array.replicate_zero, List.push_toArray, List.append_toArray, List.nil_append, List.cons_append]
  gi_wp2_with (first | (refine ⟨trivial, ?_⟩; gi_at_call 50; refine (hCP _).mono ?_; rintro e w' ⟨rfl, rfl⟩) | (refine ⟨trivial, ?_⟩; gi_at_call 51; refine (callsIn_wide.2 (SplitSeq_any _ _ _)).mono ?_; rintro e w' ⟨rfl, rfl⟩))
  obtain ⟨N, hN⟩ : ∃ N, w.heap.size = N := ⟨_, rfl⟩
  rw [hN]
  have b0 := Boxed.new w 9 (.string p)
  have b1 := Boxed.new (w.alloc (.cells #[.string p] 9)) 29 (.slice none 0 0)
  have b2 := Boxed.new ((w.alloc (.cells #[.string p] 9)).alloc (.cells #[.slice none 0 0] 29)) 33 .nilIface
  have b3 := Boxed.new (((w.alloc (.cells #[.string p] 9)).alloc (.cells #[.slice none 0 0] 29)).alloc (.cells #[.nilIface] 33)) 29 (.slice none 0 0)
  have b4 := Boxed.new ((((w.alloc (.cells #[.string p] 9)).alloc (.cells #[.slice none 0 0] 29)).alloc (.cells #[.nilIface] 33)).alloc (.cells #[.slice none 0 0] 29)) 9 (.string r)
  have b5 := Boxed.new (((((w.alloc (.cells #[.string p] 9)).alloc (.cells #[.slice none 0 0] 29)).alloc (.cells #[.nilIface] 33)).alloc (.cells #[.slice none 0 0] 29)).alloc (.cells #[.string r] 9)) 9 (.string ⟨#[47]⟩)
  have b6 := Boxed.new ((((((w.alloc (.cells #[.string p] 9)).alloc (.cells #[.slice none 0 0] 29)).alloc (.cells #[.nilIface] 33)).alloc (.cells #[.slice none 0 0] 29)).alloc (.cells #[.string r] 9)).alloc (.cells #[.string ⟨#[47]⟩] 9)) 3 (.int .i64 0)
  simp only [World.size_alloc, hN] at b0 b1 b2 b3 b4 b5 b6
  have hE0 : Ext w (((((((w.alloc (.cells #[.string p] 9)).alloc (.cells #[.slice none 0 0] 29)).alloc (.cells #[.nilIface] 33)).alloc (.cells #[.slice none 0 0] 29)).alloc (.cells #[.string r] 9)).alloc (.cells #[.string ⟨#[47]⟩] 9)).alloc (.cells #[.int .i64 0] 3)) := (by repeat (first | exact Ext.refl _ | assumption | refine Ext.alloc ?_ _ | refine Ext.drew ?_ | refine Ext.drewN ?_ _ | refine Ext.setCell ?_ (by first | omega | (simp; done) | (simp; omega)) _ | refine Ext.trans ?_ (by assumption)))
  replace b0 := (((((b0.alloc (.cells #[.slice none 0 0] 29)).alloc (.cells #[.nilIface] 33)).alloc (.cells #[.slice none 0 0] 29)).alloc (.cells #[.string r] 9)).alloc (.cells #[.string ⟨#[47]⟩] 9)).alloc (.cells #[.int .i64 0] 3)
  replace b1 := ((((b1.alloc (.cells #[.nilIface] 33)).alloc (.cells #[.slice none 0 0] 29)).alloc (.cells #[.string r] 9)).alloc (.cells #[.string ⟨#[47]⟩] 9)).alloc (.cells #[.int .i64 0] 3)
  replace b2 := (((b2.alloc (.cells #[.slice none 0 0] 29)).alloc (.cells #[.string r] 9)).alloc (.cells #[.string ⟨#[47]⟩] 9)).alloc (.cells #[.int .i64 0] 3)
  replace b3 := ((b3.alloc (.cells #[.string r] 9)).alloc (.cells #[.string ⟨#[47]⟩] 9)).alloc (.cells #[.int .i64 0] 3)
  replace b4 := (b4.alloc (.cells #[.string ⟨#[47]⟩] 9)).alloc (.cells #[.int .i64 0] 3)
  replace b5 := b5.alloc (.cells #[.int .i64 0] 3)
  have hsz : (((((((w.alloc (.cells #[.string p] 9)).alloc (.cells #[.slice none 0 0] 29)).alloc (.cells #[.nilIface] 33)).alloc (.cells #[.slice none 0 0] 29)).alloc (.cells #[.string r] 9)).alloc (.cells #[.string ⟨#[47]⟩] 9)).alloc (.cells #[.int .i64 0] 3)).heap.size = N + 7 := by simp [hN]
  generalize (((((((w.alloc (.cells #[.string p] 9)).alloc (.cells #[.slice none 0 0] 29)).alloc (.cells #[.nilIface] 33)).alloc (.cells #[.slice none 0 0] 29)).alloc (.cells #[.string r] 9)).alloc (.cells #[.string ⟨#[47]⟩] 9)).alloc (.cells #[.int .i64 0] 3)) = W0 at b0 b1 b2 b3 b4 b5 b6 hE0 hsz ⊢
  refine wpIn_rangeFunc_ownC rfl (by omega) (gf := 87) (lb := #[.pointer (some ⟨N + 1 + 1 + 1 + 1 + 1, 0, none⟩), .pointer (some ⟨N + 1 + 1 + 1 + 1, 0, none⟩), .pointer (some ⟨N + 1 + 1 + 1 + 1 + 1 + 1, 0, none⟩)]) rfl trivial (enters_of Tryz.func87 (by kernel_rfl) rfl)
    (splitSeq_stops 2 (by omega) (N + 1 + 1 + 1 + 1) r 47 hrs W0 b4 b5 b6) (by omega) (fun h k => h.trans k)
    (fun W l o o' hl ho _ _ => ⟨World.putObj_heap_other (by omega), World.putObj_heap_other (by omega), World.putObj_heap_other (by omega)⟩) (Below.refl _ _) (fun _ => rfl)
    (fun pre W => ((∃ v, Boxed W (N + 1 + 1 + 1) 29 v ∧ W.ownsRow (N + 7) 9 1 v pre.length (pre.map Value.string)) ∧ (Boxed W N 9 (.string p) ∧ Boxed W (N + 1) 29 (.slice none 0 0) ∧ Boxed W (N + 1 + 1) 33 .nilIface)) ∧ (pre.all nameB = true ∧ pre.length ≤ 6) ∧ Ext w W ∧ N + 7 ≤ W.heap.size)
    (fun c pre W => c = .ret ∧ ¬ (pre.all nameB = true ∧ pre.length ≤ 6) ∧ Boxed W (N + 1) 29 (.slice none 0 0) ∧ (∃ v, Boxed W (N + 1 + 1) 33 v ∧ ErrN W 1 v 2) ∧ Ext w W)
    ?hIc ?hI ?hIx ?h0
    (fun x => { tmps := #[Value.string p, Value.pointer (some { block := N, off := 0 }),
          Value.pointer (some { block := N + 1, off := 0 }),
          Value.pointer (some { block := N + 1 + 1, off := 0 }), Value.string r, Value.bool true,
          Value.pointer (some { block := N + 1 + 1 + 1, off := 0 }), .string x, Value.string p, Value.bool false,
          Value.tuple #[Value.string r, Value.bool true], Value.string p,
          Value.tuple #[Value.string r, Value.bool true], Value.string r, Value.bool true, Value.bool true,
          Value.bool false, undef, undef, undef, Value.string r,
          Value.func (Fn.func 87) #[]
            #[Value.pointer (some { block := N + 1 + 1 + 1 + 1 + 1, off := 0 }),
              Value.pointer (some { block := N + 1 + 1 + 1 + 1, off := 0 }),
              Value.pointer (some { block := N + 1 + 1 + 1 + 1 + 1 + 1, off := 0 })],
          .string x, undef, undef, undef, undef, undef, undef, undef, undef, undef, undef, undef, undef, undef, undef,
          undef, undef], defers := [] }) ?assign ?body ?done ?stop
  case hIc =>
    rintro pre W u ⟨⟨⟨v, hv, hrow⟩, c0, c1, c2⟩, hg, hE, hlt⟩
    have hb : ∀ {B : Nat} {t : TypeId} {x : Value}, B ≠ N + 1 + 1 + 1 + 1 → Boxed W B t x → Boxed (W.setCell ⟨N + 1 + 1 + 1 + 1, 0, none⟩ u) B t x := fun hne h => (Below.heap_setCell W ⟨N + 1 + 1 + 1 + 1, 0, none⟩ u _ hne).trans h
    exact ⟨⟨⟨v, hb (by omega) hv, ownsRow_setCell_below hrow (by show N + 1 + 1 + 1 + 1 < N + 7; omega) u⟩, hb (by omega) c0, hb (by omega) c1, hb (by omega) c2⟩, hg, hE.setCell (by simp; omega) u, by simpa [World.setCell] using hlt⟩
  case hI =>
    refine OwnFrom.and (OwnFrom.and (Own.from (fun pre X Y row ⟨v, hv, hr⟩ hg hrow => ?_) _) (Own.from (fun pre X Y row ⟨c0, c1, c2⟩ hg hrow => ?_) _)) (OwnFrom.and (fun _ _ _ _ hs _ _ => hs) (OwnFrom.and (ownFrom_below (Nat.le_refl _) (by omega)) (fun _ _ _ _ hs hg _ => Nat.le_trans hs hg.size)))
    · obtain ⟨v', h1, h2, _⟩ := holdsRow_own (N + 7) (N + 1 + 1 + 1) 29 9 1 (fun _ : Unit => pre.length) (fun _ => pre.map Value.string) (fun _ _ => True) () X Y row ⟨v, hv, hr, trivial⟩ hg hrow
      exact ⟨v', h1, h2⟩
    · exact ⟨boxed_own _ _ (fun _ : Unit => _) () X Y row c0 hg hrow, boxed_own _ _ (fun _ : Unit => _) () X Y row c1 hg hrow, boxed_own _ _ (fun _ : Unit => _) () X Y row c2 hg hrow⟩
  case hIx =>
    intro c pre X Y row ⟨h1, h2, c1, ⟨v, c2, hv⟩, hE⟩ hg hrow
    have hrow' := fun r e => (hrow r e).2
    refine ⟨h1, h2, boxed_own _ _ (fun _ : Unit => _) () X Y row c1 hg hrow', ⟨v, boxed_own _ _ (fun _ : Unit => _) () X Y row c2 hg hrow', ?_⟩, (ownFrom_below (β := Unit) (n₀ := w.heap.size) (B := W0.heap.size) (Nat.le_refl _) (by omega)) () X Y row hE hg hrow⟩
    exact ErrN_old hv (fun b x hx => cell_kept hx hg hrow')
  case h0 => exact ⟨⟨⟨_, b3, World.ownsRow_nil _ _ _ _⟩, b0, b1, b2⟩, ⟨rfl, by simp⟩, hE0, by omega⟩
  case assign =>
    intro l x W K hK
    gi_wp2
    exact hK
  case body =>
    rintro l pre x W ⟨⟨⟨v, hv, hrow⟩, c0, c1, c2⟩, hg, hE, hlt⟩ hpx
    have hxs : x.size ≤ 140737488355328 := by
      have := pieces_size (hpx.subset (show x ∈ pre ++ [x] by simp))
      omega
    obtain ⟨A, cp, rfl⟩ := own_form hrow
    have Hg := Lib.hid hg
    clear hg
    by_cases hx : nameB x = true
    · have hN1 := fun W => (callsIn_wide (n := 3 - 1 - 1 - 1)).2 (Name_any x W hxs)
      rw [show nameOk x.data.toList = true from hx] at hN1
      have Hx := Lib.hid hx
      clear hx
      by_cases h6 : pre.length = 6
      · have h6' : ((pre.length : Int) == 6) = true := by simp; omega
        have Hbad := Lib.hid (show ¬ ((pre ++ [x]).all nameB = true ∧ (pre ++ [x]).length ≤ 6) from fun h => by have := h.2; rw [List.length_append, h6] at this; simp at this)
        clear h6
        gi_wp2_with (first | (refine ⟨trivial, ?_⟩; gi_at_call 52; refine (CallsIn.inRound l (hN1 _)).mono ?_; rintro e W1 ⟨rfl, hE1⟩; have hvc := (boxed_ext hv hE1).cell; have c0c := (boxed_ext c0 hE1).cell) | (refine ⟨trivial, ?_⟩; gi_at_call 19; refine (CallsIn.inRound l (callsIn_wide.2 (fail_At_c _ _ _ _))).mono ?_; rintro e W2 ⟨⟨a, rfl, hEr⟩, hE2⟩; have d1 := boxed_ext c1 (hE1.trans hE2); have d2 := boxed_ext c2 (hE1.trans hE2); have c1c := d1.cell; have c1f := d1.frozen; have c2c := d2.cell; have c2f := d2.frozen))
        exact ⟨((others_ext (hE1.trans hE2)).trans (KeepsOthers.setCell _ _ _)).trans (KeepsOthers.setCell _ _ _), rfl, Hbad.out, (d1.set _).other (by omega) _, ⟨_, (d2.other (by omega) _).set _, errN_box (errN_box hEr d1 _) (d2.other (by omega) _) _⟩, ((hE.trans (hE1.trans hE2)).setCell (by simp; omega) _).setCell (by simp; omega) _⟩
      · have h6' : ((pre.length : Int) == 6) = false := by simp; omega
        have Hh6 := Lib.hid h6
        clear h6
        obtain ⟨i0, hi, hz0, hz1, hz2⟩ := info_parts Tryz.info9s
        gi_wp2_with (first | (refine ⟨trivial, ?_⟩; gi_at_call 52; refine (CallsIn.inRound l (hN1 _)).mono ?_; rintro e W1 ⟨rfl, hE1⟩; have hv1 := boxed_ext hv hE1; have hvc := hv1.cell; have hrow1 := own_ext hrow hE1) | (gi_at_builtin; go_must (refine wpListIn_append_own _ rfl _ _ 29 rfl (N + 7) 9 i0 (.string ⟨#[]⟩) 1 16 Tryz.underlying29 hi hz0 hz1 hz2 rfl (by decide) _ _ _ rfl (hrow1.alloc _) ⟨W1.heap.size, 0, none⟩ 1 1 [.string x] rfl rfl (cell_one_new _ _ _) (by simp [Value.oneCell']) (by have := Hg.out.2; simp [maxLen]; omega) (by have := Hg.out.2; omega) (by have := hE1.size; simp; omega) ?_); intro v' w2 hown' hgrow _; obtain ⟨g', cap', rfl⟩ := ownsRow_succ hown'; obtain ⟨hv1', hv2, _, hk2, hb2⟩ := hv1.appended (n₀ := N) (by decide) (own_lower hrow1 (by omega)) (by have := hE1.size; omega) (by omega) (own_lower hown' (by omega)) hgrow; have hr2 := hown'.kept (grownBy_setCell' w2 (N + 1 + 1 + 1) (.slice (some ⟨g', 0, none⟩) (pre.length + 1) cap')) (.inr (hv1'.not_row (by decide) hown').symm); have hc1 := hv1'.cell; have hf1 := hv1'.frozen))
        have hkeep : ∀ k, k < N + 7 → k ≠ N + 1 + 1 + 1 → (w2.setCell ⟨N + 1 + 1 + 1, 0, none⟩ (.slice (some ⟨g', 0, none⟩) (pre.length + 1) cap')).heap[k]? = W1.heap[k]? := fun k hk hne => by
          rw [Below.heap_setCell _ _ _ _ hne, hgrow.block k (by have := hE1.size; simp; omega) (fun e => by have := (hrow1.lt k e.symm).1; omega), Below.heap_alloc _ _ _ (by have := hE1.size; omega)]
        have hB : ∀ {b : Nat} {t : TypeId} {u : Value}, b < N + 7 → b ≠ N + 1 + 1 + 1 → Boxed W b t u → Boxed (w2.setCell ⟨N + 1 + 1 + 1, 0, none⟩ (.slice (some ⟨g', 0, none⟩) (pre.length + 1) cap')) b t u := fun h1 h2 hb => (hkeep _ h1 h2).trans (boxed_ext hb hE1)
        refine ⟨(others_ext hE1).trans hk2, (kps_ext hE1 (by omega)).trans ⟨hkeep _ (by omega) (by omega), hkeep _ (by omega) (by omega), hkeep _ (by omega) (by omega)⟩, ⟨⟨_, hv2, by simpa using hr2⟩, hB (by omega) (by omega) c0, hB (by omega) (by omega) c1, hB (by omega) (by omega) c2⟩, ⟨?_, ?_⟩, ?_, ?_⟩
        · rw [List.all_append, Hg.out.1]; simp [Hx.out]
        · have := Hg.out.2; have := Hh6.out; simp; omega
        · exact Below.trans (hE.trans hE1) (hN ▸ hb2)
        · have := Below.size hb2; have := hE1.size; omega
    · have hx' : nameOk x.data.toList = false := by simpa [nameB] using hx
      have hN1 := fun W => (callsIn_wide (n := 3 - 1 - 1 - 1)).2 (Name_any x W hxs)
      rw [hx'] at hN1
      have Hbad := Lib.hid (show ¬ ((pre ++ [x]).all nameB = true ∧ (pre ++ [x]).length ≤ 6) from fun h => by have := h.1; rw [List.all_append, Bool.and_eq_true] at this; exact hx (by simpa using this.2))
      clear hx hx'
      gi_wp2_with (first | (refine ⟨trivial, ?_⟩; gi_at_call 52; refine (CallsIn.inRound l (hN1 _)).mono ?_; rintro e W1 ⟨rfl, hE1⟩; have hvc := (boxed_ext hv hE1).cell; have c0c := (boxed_ext c0 hE1).cell) | (refine ⟨trivial, ?_⟩; gi_at_call 19; refine (CallsIn.inRound l (callsIn_wide.2 (fail_At_c _ _ _ _))).mono ?_; rintro e W2 ⟨⟨a, rfl, hEr⟩, hE2⟩; have d1 := boxed_ext c1 (hE1.trans hE2); have d2 := boxed_ext c2 (hE1.trans hE2); have c1c := d1.cell; have c1f := d1.frozen; have c2c := d2.cell; have c2f := d2.frozen))
      exact ⟨((others_ext (hE1.trans hE2)).trans (KeepsOthers.setCell _ _ _)).trans (KeepsOthers.setCell _ _ _), rfl, Hbad.out, (d1.set _).other (by omega) _, ⟨_, (d2.other (by omega) _).set _, errN_box (errN_box hEr d1 _) (d2.other (by omega) _) _⟩, ((hE.trans (hE1.trans hE2)).setCell (by simp; omega) _).setCell (by simp; omega) _⟩
  case done =>
    rintro D xs W hD rfl ⟨⟨⟨v, hv, hrow⟩, c0, c1, c2⟩, hg, hE, hlt⟩ hK
    have hvc := hv.cell
    have c1c := c1.cell
    have c1f := c1.frozen
    have c2c := c2.cell
    have c2f := c2.frozen
    have Hg := Lib.hid hg
    clear hg
    obtain ⟨A, cp, rfl⟩ := own_form hrow
    gi_wp2_with fail
    have f1 := (c1.set (.slice A (pieces 47 r).length cp)).other (B' := N + 1 + 1) (by omega) .nilIface
    have f2 := (c2.other (B' := N + 1) (by omega) (.slice A (pieces 47 r).length cp)).set .nilIface
    have hr := ownsRow_setCell_below (ownsRow_setCell_below hrow (a := ⟨N + 1, 0, none⟩) (by show N + 1 < N + 7; omega) (.slice A (pieces 47 r).length cp)) (a := ⟨N + 1 + 1, 0, none⟩) (by show N + 1 + 1 < N + 7; omega) .nilIface
    have hKf := (KeepsOthers.setCell (W.setCell ⟨N + 1, 0, none⟩ (.slice A (pieces 47 r).length cp)) ⟨N + 1 + 1, 0, none⟩ .nilIface).same D _ ((KeepsOthers.setCell W ⟨N + 1, 0, none⟩ (.slice A (pieces 47 r).length cp)).same D _ hK rfl) rfl
    have hEf := (hE.setCell (p := ⟨N + 1, 0, none⟩) (by simp; omega) (.slice A (pieces 47 r).length cp)).setCell (p := ⟨N + 1 + 1, 0, none⟩) (by simp; omega) .nilIface
    clear c0 c1 c2 c1c c1f c2c c2f hrow hE hlt hK hvc hv
    generalize (W.setCell ⟨N + 1, 0, none⟩ (.slice A (pieces 47 r).length cp)).setCell ⟨N + 1 + 1, 0, none⟩ .nilIface = Wf at f1 f2 hr hKf hEf ⊢
    refine ⟨by simp, .inl ⟨_, _, rfl, run_takeDeferred hKf, ?_⟩⟩
    have g1 := cell_kept f1.cell (grownBy_putObj' Wf D (.deferred none)) (fun r e => by cases e; exact ⟨_, hKf, rfl⟩)
    have g2 := cell_kept f2.cell (grownBy_putObj' Wf D (.deferred none)) (fun r e => by cases e; exact ⟨_, hKf, rfl⟩)
    refine ⟨.tuple #[.slice A (pieces 47 r).length cp, .nilIface], by simp [results, Tryz.f35, go_sem, g1, g2], ?_⟩
    rw [SplitIf, if_pos Hg.out]
    exact ⟨_, rfl, RdS.of_own (ownsRow_putObj hr _ hKf rfl) (by have := Hg.out.2; omega), Below.trans hEf (belowK_b (w := w) (Nat.le_refl _) Wf D _ _ (by omega) hKf rfl rfl), fun b hb => by
      have := (hr.lt b hb).1
      omega⟩
  case stop =>
    rintro D c pre W hD hpre ⟨rfl, hbad, c1, ⟨v, c2, hv⟩, hE⟩ hK
    have Hbad := Lib.hid hbad
    clear hbad
    have c1c := c1.cell
    have c2c := c2.cell
    gi_wp2_with fail
    refine ⟨by simp, .inl ⟨_, _, rfl, run_takeDeferred hK, ?_⟩⟩
    have g1 := cell_kept c1c (grownBy_putObj' W D (.deferred none)) (fun r e => by cases e; exact ⟨_, hK, rfl⟩)
    have g2 := cell_kept c2c (grownBy_putObj' W D (.deferred none)) (fun r e => by cases e; exact ⟨_, hK, rfl⟩)
    have hv2 : ErrN (W.putObj D (.deferred none)) 1 v 2 := ErrN_old hv (fun b x hx => cell_kept hx (grownBy_putObj' W D (.deferred none)) (fun r e => by cases e; exact ⟨_, hK, rfl⟩))
    refine ⟨.tuple #[.slice none 0 0, v], by simp [results, Tryz.f35, go_sem, g1, g2], ?_⟩
    have Hb2 : ¬ ((pieces 47 r).all nameB = true ∧ (pieces 47 r).length ≤ 6) := fun h => Hbad.out ⟨by
      rw [List.all_eq_true]
      exact fun y hy => List.all_eq_true.1 h.1 y (hpre.subset hy), Nat.le_trans hpre.length_le h.2⟩
    rw [SplitIf, if_neg Hb2]
    exact ⟨_, rfl, hv2, Below.trans hE (belowK_b (w := w) (Nat.le_refl _) W D _ _ (by omega) hK rfl rfl)⟩

/-- path.Split, for every text; the names lie in new memory. -/
theorem Split_own (p : ByteArray) (w : World) (hs : p.size ≤ 140737488355328) :
    (∀ xs, names p = some xs → Calls Tryz.prog 35 #[.string p] w (SplitNew xs w)) ∧
    (names p = none → Calls Tryz.prog 35 #[.string p] w (SplitBad w)) := by
  rcases hp : p.data.toList with _ | ⟨c, r⟩
  · have hn : names p = none := by simp [names, splitP, hp]
    exact ⟨fun xs h => (by rw [hn] at h; cases h), fun _ => Split_bare p w (by rw [hp]; simp [Lib.hasPrefix])⟩
  · by_cases hc : c = 47
    · subst hc
      rcases r with _ | ⟨d, r⟩
      · have hn : names p = some [] := by simp [names, splitP, hp]
        have he : p = ⟨#[47]⟩ := by rw [← B_toList p, hp]; rfl
        subst he
        exact ⟨fun xs h => by rw [hn] at h; cases h; exact Split_root w, fun h => by rw [hn] at h; cases h⟩
      · have h1 := Split_path p (B (d :: r)) w hs (by rw [hp, toList_B]) (by rw [toList_B]; simp)
        have hpc : pieces 47 (B (d :: r)) = (segs 47 (d :: r)).map B := by rw [pieces, toList_B]
        have hall : (pieces 47 (B (d :: r))).all nameB = (segs 47 (d :: r)).all nameOk := by
          rw [hpc, List.all_map]
          exact congrArg (List.all _) (funext fun x => by simp [nameB, toList_B])
        have hlen : (pieces 47 (B (d :: r))).length = (segs 47 (d :: r)).length := by rw [hpc, List.length_map]
        rw [show SplitIf (pieces 47 (B (d :: r))) w = fun e w' => SplitIf (pieces 47 (B (d :: r))) w e w' from rfl] at h1
        by_cases hg : (segs 47 (d :: r)).all nameOk = true ∧ (segs 47 (d :: r)).length ≤ 6
        · have hn : names p = some (pieces 47 (B (d :: r))) := by
            rw [names, hp, splitP, if_neg (by simp)]
            simp [hg, hpc]
          refine ⟨fun xs h => ?_, fun h => by rw [hn] at h; cases h⟩
          rw [hn] at h
          cases h
          refine h1.mono fun e w' h => ?_
          rw [SplitIf, hall, hlen, if_pos hg] at h
          exact h
        · have hn : names p = none := by
            rw [names, hp, splitP, if_neg (by simp)]
            simp only [true_and]
            rw [if_neg hg]
            rfl
          refine ⟨fun xs h => (by rw [hn] at h; cases h), fun _ => ?_⟩
          refine h1.mono fun e w' h => ?_
          rw [SplitIf, hall, hlen, if_neg hg] at h
          exact h
    · have hn : names p = none := by simp [names, splitP, hp, hc]
      refine ⟨fun xs h => (by rw [hn] at h; cases h), fun _ => Split_bare p w ?_⟩
      rw [hp]
      simp only [Lib.hasPrefix, List.isPrefixOf]
      simp
      exact fun e => hc e.symm

/-- path.Split, for every text. -/
theorem Split_any (p : ByteArray) (w : World) (hs : p.size ≤ 140737488355328) :
    (∀ xs, names p = some xs → Calls Tryz.prog 35 #[.string p] w (SplitOk xs w)) ∧
    (names p = none → Calls Tryz.prog 35 #[.string p] w (SplitBad w)) :=
  ⟨fun xs h => ((Split_own p w hs).1 xs h).mono fun _ _ => SplitNew.ok, (Split_own p w hs).2⟩
end Go.Proofs.YthadldnojdjlnaaGreatDoor

/-! Path -/
namespace Go.Proofs.YthadldnojdjlnaaGreatDoor
open Go Go.RowKit Go.Shelf Go.Proofs

/-- How many names; -1: it is no path. -/
def deep (p : ByteArray) : Int := match names p with
  | none => -1
  | some xs => xs.length

set_option maxHeartbeats 1000000 in
theorem Deep_any (p : ByteArray) (w : World) (hs : p.size ≤ 140737488355328) :
    Calls Tryz.prog 99 #[.string p] w fun e w' => e = .returned (.int .i64 (deep p)) ∧ Ext w w' := by
  obtain ⟨h1, h2⟩ := Split_any p w hs
  rcases hn : names p with _ | xs
  · have hd : deep p = -1 := by simp [deep, hn]
    rw [hd]
    have H := h2 hn
    clear h1 h2 hn hd
    go_enter Tryz.func99, Tryz.ntmps99
    go_wp2_with (go_at_call 35; refine H.mono ?_; rintro e w' ⟨v, rfl, hv, hE⟩; rcases ErrN_ne hv with ⟨a, rfl⟩ | rfl)
    all_goals go_wp2
    all_goals go_ret
    all_goals exact ⟨rfl, hE⟩
  · have hd : deep p = xs.length := by simp [deep, hn]
    rw [hd]
    have H := h1 xs hn
    clear h1 h2 hn hd
    go_enter Tryz.func99, Tryz.ntmps99
    go_wp2_with (go_at_call 35; refine H.mono ?_; rintro e w' ⟨v, rfl, ⟨A, c, rfl, hc⟩, hE⟩)
    go_ret
    exact ⟨rfl, hE⟩

set_option maxHeartbeats 1000000 in
theorem Join_ok (v : Value) (xs : List ByteArray) (w : World) (hv : RdS w v xs) (hall : xs.all nameB = true) (hl : xs.length ≤ 6) :
    Calls Tryz.prog 37 #[v] w fun e w' => e = .returned (.tuple #[.string (pathOf xs), .nilIface]) ∧ Ext w w' := by
  obtain ⟨A, c, rfl, hc1, hc2, hc3, hc4⟩ := hv
  by_cases h0 : xs = []
  · subst h0
    have hp : pathOf [] = ⟨#[47]⟩ := by rw [pathOf, if_pos rfl]
    rw [hp]
    go_enter Tryz.func37, Tryz.ntmps37
    go_wp2
    go_ret2
    exact ⟨rfl, Ext.refl _⟩
  · obtain ⟨b, o, rfl, hcell⟩ := hc4 h0
    have hn0 : 0 < xs.length := List.length_pos_iff.2 h0
    have hb : b < w.heap.size := by
      obtain ⟨cs, hr, hu⟩ := hcell 0 (xs[0]) (by simp [hn0])
      exact World.block_lt_of_cell? w ⟨b, _, none⟩ (hu 0 (.string xs[0]) (by rw [show cs = _ from hr]; rfl))
    have hjl := names_join_length hall
    have HJ := Tryz.strings_Join b o c xs ⟨#[47]⟩ w (fun j x hj => by
      obtain ⟨cs, hr, hu⟩ := hcell j x hj
      have := hu 0 (.string x) (by rw [show cs = _ from hr]; rfl)
      simpa using this) hb (by omega) hc1 (by show (Lib.join _ [47]).length ≤ _; omega)
    have hp : pathOf xs = ⟨#[47]⟩ ++ ⟨(Lib.join (xs.map (·.data.toList)) (⟨#[47]⟩ : ByteArray).data.toList).toArray⟩ := by
      rw [pathOf, if_neg h0]
      exact ByteArray.ext (by simp [B])
    have hsz := pathOf_size hall hl
    have HS := fun w => (Split_any (pathOf xs) w (by omega)).1 xs (names_pathOf hall hl)
    have H0 : ((xs.length : Int) == 0) = false := by simp; omega
    have Hp := Lib.hid hp
    have hjl2 : (Lib.join (List.map (fun x => x.data.toList) xs) [47]).length ≤ 54 := by omega
    clear hp hcell hc4 hc3 h0 hjl
    go_enter Tryz.func37, Tryz.ntmps37
    go_wp2_with (go_at_call 54; refine HJ.mono ?_; rintro e w' ⟨rfl, hE⟩)
    rw [← Hp.out]
    refine (HS _).mono ?_
    rintro e w2 ⟨v, rfl, ⟨A2, c2, rfl, hrest⟩, hE2⟩
    clear hrest
    go_wp2
    go_ret2
    exact ⟨rfl, Ext.trans hE hE2⟩

def ParentBad (c : Int) (w : World) (e : Ending) (w' : World) : Prop := ∃ a, e = .returned (.tuple #[.string ⟨#[]⟩, .string ⟨#[]⟩, .iface 86 (.pointer (some ⟨a, 0, none⟩))]) ∧ ErrN w' 1 (.iface 86 (.pointer (some ⟨a, 0, none⟩))) c ∧ Ext w w'
def ParentOk (d x : ByteArray) (w : World) (e : Ending) (w' : World) : Prop := e = .returned (.tuple #[.string d, .string x, .nilIface]) ∧ Ext w w'

theorem ErrN_one {w : World} {v : Value} {c : Int} (h : ErrN w 1 v c) : ∃ a, v = .iface 86 (.pointer (some ⟨a, 0, none⟩)) := by
  obtain ⟨a, _, rfl, _⟩ := h
  exact ⟨a, rfl⟩

set_option maxHeartbeats 1000000 in
theorem Parent_none (p : ByteArray) (w : World) (hs : p.size ≤ 140737488355328) (hn : names p = none) : Calls Tryz.prog 69 #[.string p] w (ParentBad 2 w) := by
  have H := (Split_any p w hs).2 hn
  clear hn
  go_enter Tryz.func69, Tryz.ntmps69
  go_wp2_with (go_at_call 35; refine H.mono ?_; rintro e w' ⟨v, rfl, hv, hE⟩; obtain ⟨a, rfl⟩ := ErrN_one hv)
  go_ret3
  exact ⟨_, rfl, hv, hE⟩

set_option maxHeartbeats 1000000 in
theorem Parent_root (p : ByteArray) (w : World) (hs : p.size ≤ 140737488355328) (hn : names p = some []) : Calls Tryz.prog 69 #[.string p] w (ParentBad 1 w) := by
  have H := (Split_any p w hs).1 [] hn
  clear hn
  go_enter Tryz.func69, Tryz.ntmps69
  go_wp2_with (first | (go_at_call 35; refine H.mono ?_; rintro e w' ⟨v, rfl, ⟨A, c, rfl, hc⟩, hE⟩) | (go_at_call 19; refine (fail_At_c _ _ _ _).mono ?_; rintro e w2 ⟨⟨a, rfl, hv⟩, hE2⟩))
  go_ret3
  exact ⟨_, rfl, hv, hE.trans hE2⟩

set_option maxHeartbeats 2000000 in
theorem Parent_some (p : ByteArray) (xs : List ByteArray) (x : ByteArray) (w : World) (hs : p.size ≤ 140737488355328) (hn : names p = some (xs ++ [x])) : Calls Tryz.prog 69 #[.string p] w (ParentOk (pathOf xs) x w) := by
  have H := (Split_any p w hs).1 _ hn
  obtain ⟨hall, hl, _⟩ := names_some hn
  clear hn
  rw [List.all_append, Bool.and_eq_true] at hall
  rw [List.length_append, List.length_singleton] at hl
  have HJ := fun v w h => Join_ok v xs w h hall.1 (by omega)
  go_enter Tryz.func69, Tryz.ntmps69
  go_wp2_with (go_at_call 35; refine H.mono ?_; rintro e W1 ⟨v, rfl, hv, hE⟩; obtain ⟨b, o, c, rfl, hc1, hc2, hcell⟩ := RdS.open_ hv (by simp); have hl1 := hcell xs.length x (by simp); have hpre := Rd.left hv; rw [List.length_append, List.length_singleton] at hc1; clear hv hcell)
  refine (HJ _ _ hpre).mono ?_
  rintro e W2 ⟨rfl, hE2⟩
  have hl2 := hE2.cell hl1
  clear hl1 hpre
  go_wp2_with fail
  go_quiet (fail)
  go_wp2
  go_ret3
  exact ⟨rfl, (hE.trans hE2).drewN _⟩
end Go.Proofs.YthadldnojdjlnaaGreatDoor
