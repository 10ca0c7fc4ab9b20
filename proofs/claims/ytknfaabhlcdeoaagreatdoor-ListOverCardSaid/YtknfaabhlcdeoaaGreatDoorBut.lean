/- Worlds that have grown, where some blocks may have turned; no program. -/
import Derived.Test.YtknfaabhlcdeoaaGreatDoorBlk
import Derived.Test.YtknfaabhlcdeoaaGreatDoorNumb
import Derived.Test.YtknfaabhlcdeoaaGreatDoorRd
import Derived.Test.YtknfaabhlcdeoaaGreatDoorErrCode
namespace Go.Proofs.YtknfaabhlcdeoaaGreatDoor
open Go Go.RowKit

/-- All that lay in w lies in w', but for the blocks that S names. -/
structure But (S : Nat → Prop) (w w' : World) : Prop where
  os : w'.os = w.os
  tape : w'.tape = w.tape
  output : w'.output = w.output
  size : w.heap.size ≤ w'.heap.size
  block : ∀ k, k < w.heap.size → ¬ S k → w'.heap[k]? = w.heap[k]?

theorem But.of_ext {S : Nat → Prop} {w w' : World} (h : Ext w w') : But S w w' := ⟨Below.os h, Below.tape h, Below.output h, h.size, fun k hk _ => Below.block h k hk⟩
theorem But.refl (S : Nat → Prop) (w : World) : But S w w := .of_ext (Ext.refl w)
theorem But.trans {S : Nat → Prop} {a b c : World} (h : But S a b) (k : But S b c) : But S a c :=
  ⟨k.os.trans h.os, k.tape.trans h.tape, k.output.trans h.output, Nat.le_trans h.size k.size, fun i hi hs => (k.block i (Nat.lt_of_lt_of_le hi h.size) hs).trans (h.block i hi hs)⟩
theorem But.alloc {S : Nat → Prop} {a w : World} (h : But S a w) (o : Obj) : But S a (w.alloc o) := h.trans (.of_ext ((Ext.refl w).alloc o))
theorem But.ext {S : Nat → Prop} {a b c : World} (h : But S a b) (k : Ext b c) : But S a c := h.trans (.of_ext k)
theorem But.cell {S : Nat → Prop} {w w' : World} (h : But S w w') {p : Addr} {v : Value} (hp : ¬ S p.block) (hc : w.cell? p = some v) : w'.cell? p = some v := by
  have := h.block p.block (World.block_lt_of_cell? w p hc) hp
  rw [World.cell?] at hc ⊢
  rw [this]
  exact hc
theorem Blk.but {S : Nat → Prop} {w w' : World} {b : Nat} {t : TypeId} {cs : Array Value} (h : Blk w b t cs) (hb : But S w w') (hs : ¬ S b) : Blk w' b t cs := (hb.block b h.lt hs).trans h
/-- What was there before S's blocks is as it was. -/
theorem But.old {S : Nat → Prop} {a w w' : World} (he : Ext a w) (h : But S w w') (hs : ∀ k, S k → a.heap.size ≤ k) : Ext a w' :=
  ⟨h.os.trans (Below.os he), h.tape.trans (Below.tape he), h.output.trans (Below.output he), Nat.le_trans he.size h.size, fun k hk => (h.block k (Nat.lt_of_lt_of_le hk he.size) fun e => Nat.not_lt.2 (hs k e) hk).trans (Below.block he k hk)⟩
theorem But.setCell {S : Nat → Prop} {a w : World} (h : But S a w) {p : Addr} (hp : S p.block) (v : Value) : But S a (w.setCell p v) := by
  refine h.trans ⟨rfl, rfl, rfl, by simp [World.setCell], fun k hk hs => ?_⟩
  show (w.heap.modify p.block _)[k]? = _
  rw [Array.getElem?_modify, if_neg fun e => hs (by rw [← e]; exact hp)]
theorem But.setNew {S : Nat → Prop} {a w : World} (h : But S a w) {p : Addr} (hp : a.heap.size ≤ p.block) (v : Value) : But S a (w.setCell p v) := by
  refine ⟨h.os, h.tape, h.output, Nat.le_trans h.size (by simp [World.setCell]), fun k hk hs => ?_⟩
  rw [← h.block k hk hs]
  show (w.heap.modify p.block _)[k]? = _
  rw [Array.getElem?_modify, if_neg (by omega)]
theorem But.grown {S : Nat → Prop} {a w w' : World} {row : Option Nat} (h : But S a w) (hg : w.grownBy w' row) (hr : ∀ k, row = some k → S k ∨ a.heap.size ≤ k) : But S a w' := by
  refine ⟨hg.os.trans h.os, hg.tape.trans h.tape, hg.output.trans h.output, Nat.le_trans h.size hg.size, fun k hk hs => ?_⟩
  rw [← h.block k hk hs]
  refine hg.block k (Nat.lt_of_lt_of_le hk h.size) fun e => ?_
  rcases hr k e.symm with h1 | h1
  · exact hs h1
  · omega
theorem But.mono {S S' : Nat → Prop} {w w' : World} (h : But S w w') (hs : ∀ k, k < w.heap.size → S k → S' k) : But S' w w' := ⟨h.os, h.tape, h.output, h.size, fun k hk hn => h.block k hk fun e => hn (hs k hk e)⟩

/-- A slice that lies in none of S's blocks. -/
def Off (S : Nat → Prop) (v : Value) : Prop := ∀ b o n c, v = .slice (some ⟨b, o, none⟩) n c → ¬ S b
theorem Rd.but {α : Type} {R : World → α → List Value → Prop} {sz : Nat} {S : Nat → Prop} {w w' : World} {v : Value} {xs : List α} (hR : ∀ w w' x cs, R w x cs → R w' x cs) (h : Rd R sz w v xs) (hb : But S w w') (ho : Off S v) : Rd R sz w' v xs := by
  obtain ⟨A, c, rfl, h1, h2, hl, h3⟩ := h
  refine ⟨A, c, rfl, h1, h2, hl, fun hne => ?_⟩
  obtain ⟨b, o, rfl, hc⟩ := h3 hne
  have hs := ho b o _ _ rfl
  refine ⟨b, o, rfl, fun j x hj => ?_⟩
  obtain ⟨cs, hr, hu⟩ := hc j x hj
  exact ⟨cs, hR _ _ _ _ hr, fun i u hi => hb.cell hs (hu i u hi)⟩
theorem Off.none {S : Nat → Prop} (n c : Nat) : Off S (.slice none n c) := fun _ _ _ _ h => by cases h
/-- A row of blocks that are new lies off S, if S's blocks are old. -/
theorem Off.own {S : Nat → Prop} {w : World} {base e sz n : Nat} {v : Value} {xs : List Value} (h : w.ownsRow base e sz v n xs) (hs : ∀ k, S k → k < base) : Off S v := by
  intro b o n' c hv hb
  rcases h.2 with ⟨rfl, h0⟩ | ⟨g, cap, cur, rfl, hg, r⟩
  · cases hv
  · cases hv
    have := hs _ hb
    omega
end Go.Proofs.YtknfaabhlcdeoaaGreatDoor
