/- Joined: Ops of the document in memory; What an op makes of the upper layer of a stack, and that the stack shows it, in plain Lean; Stacks that are appended to: layers behind layers; slices; edit's remove, make, file, done; Package pins: a table of handles -/
import Derived.Test.YtneefmgidplbcaaGreatDoorJE2
import Derived.Lib.SliceRun
import Derived.Test.YtneefmgidplbcaaGreatDoorJE6
import Derived.Test.YtneefmgidplbcaaGreatDoorJE1
import Derived.Test.YtneefmgidplbcaaGreatDoorJE3
import Derived.Laws.AppendOwnNone
import Derived.Maps.AppendAt
import Derived.Deep.AppendLies
import Derived.Deep.RegionLaw
import Derived.Deep.RegionHeld3
import Derived.Maps.OwnOps
import Derived.WalkArith
/-! TOp -/
namespace Go.Proofs.YtneefmgidplbcaaGreatDoor
section
open Go Go.RowKit Go.Shelf Go.Proofs

structure OpT where
  act : Int
  p : ByteArray
  q : ByteArray
  n : Int
  s : ByteArray

def OpT.fits (x : OpT) : Prop := x.p.size ≤ 140737488355328 ∧ x.q.size ≤ 140737488355328 ∧ x.s.size ≤ 140737488355328
def RO (_ : World) (x : OpT) (cs : List Value) : Prop := cs = [.int .i64 x.act, .string x.p, .string x.q, .int .i64 x.n, .string x.s] ∧ x.fits
theorem RO.stays : Stays RO := fun _ _ _ _ _ h => h
abbrev RdO := Rd RO 5

theorem rdO_form {w : World} {v : Value} {l : List OpT} {n : Nat} (hv : RdO w v l) (hn : n = l.length) :
    ∃ A c, v = .slice A n c ∧ n ≤ c ∧ c ≤ 9223372036854775807 ∧ Hid (l ≠ [] → ∃ b o, A = some ⟨b, o, none⟩ ∧
      ∀ (j : Nat) (h : j < l.length), w.cell? ⟨b, o + j * 5, Option.none⟩ = some (.int .i64 l[j].act) ∧ w.cell? ⟨b, o + j * 5 + 1, Option.none⟩ = some (.string l[j].p) ∧ w.cell? ⟨b, o + j * 5 + 2, Option.none⟩ = some (.string l[j].q) ∧ w.cell? ⟨b, o + j * 5 + 3, Option.none⟩ = some (.int .i64 l[j].n) ∧ w.cell? ⟨b, o + j * 5 + 4, Option.none⟩ = some (.string l[j].s) ∧ l[j].fits) := by
  by_cases h0 : l = []
  · obtain ⟨A, c, e, h1, h2, _⟩ := hv
    rw [← hn] at e h1
    exact ⟨A, c, e, h1, h2, Lib.hid fun h => absurd h0 h⟩
  · obtain ⟨b, o, c, e, h1, h2, hc⟩ := Rd.open_ hv h0
    rw [← hn] at e h1
    refine ⟨_, c, e, h1, h2, Lib.hid fun _ => ⟨b, o, rfl, fun j hj => ?_⟩⟩
    obtain ⟨cs, ⟨hr, hf⟩, hu⟩ := hc j l[j] (List.getElem?_eq_getElem hj)
    subst hr
    exact ⟨hu 0 _ rfl, hu 1 _ rfl, hu 2 _ rfl, hu 3 _ rfl, hu 4 _ rfl, hf⟩

def opSmall (x : OpT) : Bool := decide (x.p.size ≤ 100) && (decide (x.q.size ≤ 100) && decide (x.s.size ≤ 600))

set_option maxHeartbeats 4000000 in
set_option maxRecDepth 20000 in
theorem OFew_any (x : OpT) (w : World) :
    Calls Tryz.prog 22 #[.agg #[.int .i64 x.act, .string x.p, .string x.q, .int .i64 x.n, .string x.s]] w fun e w' => e = .returned (.int .i64 (oneI (opSmall x))) ∧ Ext w w' := by
  obtain ⟨act, p, q, n, s⟩ := x
  rcases hb : opSmall ⟨act, p, q, n, s⟩ with _ | _
  · by_cases h1 : (100 : Int) < p.size
    · clear hb
      go_enter Tryz.func22, Tryz.ntmps22
      go_wp2
      go_ret
      exact ⟨rfl, (by repeat (first | exact Ext.refl _ | assumption | refine Ext.alloc ?_ _ | refine Ext.drew ?_ | refine Ext.drewN ?_ _ | refine Ext.setCell ?_ (by first | omega | (simp; done) | (simp; omega)) _ | refine Ext.trans ?_ (by assumption)))⟩
    · by_cases h2 : (100 : Int) < q.size
      · clear hb
        go_enter Tryz.func22, Tryz.ntmps22
        go_wp2
        go_ret
        exact ⟨rfl, (by repeat (first | exact Ext.refl _ | assumption | refine Ext.alloc ?_ _ | refine Ext.drew ?_ | refine Ext.drewN ?_ _ | refine Ext.setCell ?_ (by first | omega | (simp; done) | (simp; omega)) _ | refine Ext.trans ?_ (by assumption)))⟩
      · have h3 : (600 : Int) < s.size := by
          simp [opSmall] at hb
          omega
        clear hb
        go_enter Tryz.func22, Tryz.ntmps22
        go_wp2
        go_ret
        exact ⟨rfl, (by repeat (first | exact Ext.refl _ | assumption | refine Ext.alloc ?_ _ | refine Ext.drew ?_ | refine Ext.drewN ?_ _ | refine Ext.setCell ?_ (by first | omega | (simp; done) | (simp; omega)) _ | refine Ext.trans ?_ (by assumption)))⟩
  · simp [opSmall] at hb
    obtain ⟨h1, h2, h3⟩ := hb
    have h1' : ¬ (100 : Int) < p.size := by omega
    have h2' : ¬ (100 : Int) < q.size := by omega
    have h3' : ¬ (600 : Int) < s.size := by omega
    clear h1 h2 h3
    go_enter Tryz.func22, Tryz.ntmps22
    go_wp2
    go_ret
    exact ⟨rfl, (by repeat (first | exact Ext.refl _ | assumption | refine Ext.alloc ?_ _ | refine Ext.drew ?_ | refine Ext.drewN ?_ _ | refine Ext.setCell ?_ (by first | omega | (simp; done) | (simp; omega)) _ | refine Ext.trans ?_ (by assumption)))⟩

theorem and1023 (z : Int) : ∃ m : Nat, m < 1024 ∧ bits .and .i64 z 1023 = (m : Int) := by
  have hlt : ((BitVec.ofInt 64 z) &&& (BitVec.ofInt 64 1023)).toNat < 1024 := by
    rw [BitVec.toNat_and]
    exact Nat.lt_of_le_of_lt Nat.and_le_right (by decide)
  refine ⟨((BitVec.ofInt 64 z) &&& (BitVec.ofInt 64 1023)).toNat, hlt, ?_⟩
  have h : bits .and .i64 z 1023 = IntKind.i64.wrap (((BitVec.ofInt 64 z) &&& (BitVec.ofInt 64 1023)).toNat : Int) := rfl
  rw [h, IntWalk.i64_in _ ⟨by omega, by omega⟩]

end

section
open Go.ChangeShapes Go.WideShapes Go.RowKit Go

theorem Tryz.cellsOp : Tryz.prog.cellsOf 57 = 5 := by kernel_rfl
set_option maxRecDepth 20000 in
set_option maxHeartbeats 4000000 in
theorem op_trod {H : Type} {enc : TypeId × Value → H} {w : World} {base : Nat} {spare : Nat → Bool} {held : Bool} {n : Nat} {cs : List Value} {d : DataW H} {pl : List MemPlace}
    (h : DataW.trod enc Tryz.prog w base spare held n 57 cs = some (d, pl)) (hw : FitD 57 d) : ∃ x : OpT, RO w x cs := by
  obtain ⟨xs, m, _, hxe, hl, hx, hf⟩ := DataW.trod_struct Tryz.underlying57 h
  rw [Tryz.cellsOp] at hl
  match cs, hl with
  | [c0, c1, c2, c3, c4], _ =>
    have g0 := hf 0 _ rfl
    have g1 := hf 1 _ rfl
    have g2 := hf 2 _ rfl
    have g3 := hf 3 _ rfl
    have g4 := hf 4 _ rfl
    match xs, hx with
    | [y0, y1, y2, y3, y4], _ =>
      simp [Tryz.cellsStrL, Tryz.cellsIntL] at g0 g1 g2 g3 g4
      obtain ⟨z0, e0, x0, _⟩ := DataW.trod_int Tryz.underlying3 g0
      obtain ⟨s1, e1, x1, _⟩ := DataW.trod_string Tryz.underlying9 g1
      obtain ⟨s2, e2, x2, _⟩ := DataW.trod_string Tryz.underlying9 g2
      obtain ⟨z3, e3, x3, _⟩ := DataW.trod_int Tryz.underlying3 g3
      obtain ⟨s4, e4, x4, _⟩ := DataW.trod_string Tryz.underlying9 g4
      cases e0
      cases e1
      cases e2
      cases e3
      cases e4
      subst x0
      subst x1
      subst x2
      subst x3
      subst x4
      cases hxe
      have hr := reachBytes_lt
      have k1 : s1.data.toList.length ≤ reachBytes := hw _ (by
        rw [DataW.weights, Tryz.underlying57]
        simp [DataW.weightsEach, DataW.weights])
      have k2 : s2.data.toList.length ≤ reachBytes := hw _ (by
        rw [DataW.weights, Tryz.underlying57]
        simp [DataW.weightsEach, DataW.weights])
      have k4 : s4.data.toList.length ≤ reachBytes := hw _ (by
        rw [DataW.weights, Tryz.underlying57]
        simp [DataW.weightsEach, DataW.weights])
      rw [Array.length_toList] at k1 k2 k4
      refine ⟨⟨z0, s1, s2, z3, s4⟩, rfl, ?_, ?_, ?_⟩
      · show s1.data.size ≤ _
        omega
      · show s2.data.size ≤ _
        omega
      · show s4.data.size ≤ _
        omega

instance inhOpT : Inhabited OpT := ⟨⟨0, ⟨#[]⟩, ⟨#[]⟩, 0, ⟨#[]⟩⟩⟩

theorem ops_in {H : Type} {enc : TypeId × Value → H} {W : World} {hd : Bool} {fuel : Nat} {A : Option Addr} {n c : Nat} {d : DataW H} {p : List MemPlace}
    (h : DataW.trod enc Tryz.prog W 0 (fun _ => true) hd fuel 53 [.slice A n c] = some (d, p)) (hw : FitD 53 d) : ∃ l, RdO W (.slice A n c) l :=
  rd_of_trod Tryz.underlying53 Tryz.cellsOp (by omega) (by_ := 64) (by kernel_rfl) (by omega) (fun x cs h => by rw [h.1]; rfl) (fun n cs d pl h hw => op_trod h hw) h hw
end

section
open Go Go.RowKit Go.Shelf Go.Proofs

def doT (t : List Ent) (m : Nat) (x : OpT) : Except Int (List Ent) :=
  if m = 0 then madeT t x.p 1 else if m = 1 then madeT t x.p 2 else if m = 2 then writeT t x.p x.n x.s else if m = 3 then cutT t x.p x.n else if m = 4 then unlinkT t x.p else if m = 5 then rmdirT t x.p else renameT t x.p x.q

theorem TAns.pair {r : Except Int (List Ent)} {w w' : World} {e : Ending} (h : TAns r w e w') : ∃ a b, e = .returned (.tuple #[a, b]) := by
  rcases r with c | l
  · obtain ⟨v, n, h, _⟩ := h
    exact ⟨_, _, h⟩
  · obtain ⟨v, h, _⟩ := h
    exact ⟨_, _, h⟩
theorem TAns.back {r : Except Int (List Ent)} {w W w' : World} {e : Ending} (h : TAns r W e w') (he : Ext w W) : TAns r w e w' := by
  rcases r with c | l
  · obtain ⟨v, n, h1, h2, h3⟩ := h
    exact ⟨v, n, h1, h2, he.trans h3⟩
  · obtain ⟨v, h1, h2, h3⟩ := h
    exact ⟨v, h1, h2, he.trans h3⟩

/-! ### The plain law -/

theorem withT_code {t : List Ent} {e : Ent} {c : Int} (h : withT t e = .error c) : c ≠ 0 := by
  rw [withT] at h
  split at h
  · cases h
  · cases h; decide
theorem doT_code {t : List Ent} {m : Nat} {x : OpT} {c : Int} (h : doT t m x = .error c) : c ≠ 0 := by
  rw [doT] at h
  split at h
  · exact madeT_code h
  split at h
  · exact madeT_code h
  split at h
  · rw [writeT] at h
    split at h
    · rename_i hf
      cases h
      exact fileT_code hf
    · split at h
      · cases h; decide
      · exact withT_code h
  split at h
  · rw [cutT] at h
    split at h
    · rename_i hf
      cases h
      exact fileT_code hf
    · split at h
      · cases h; decide
      · exact withT_code h
  split at h
  · rw [unlinkT] at h
    split at h
    · rename_i hf
      cases h
      exact fileT_code hf
    · cases h
  split at h
  · rw [rmdirT] at h
    split at h
    · cases h; decide
    · rename_i cc hf
      split at h
      · split at h
        · cases h
        · cases h; decide
      · cases h
        exact fileT_code hf
  · exact renameT_code h

theorem doT_tree {t l : List Ent} {m : Nat} {x : OpT} (ht : treeOk t = true) (h : doT t m x = .ok l) : treeOk l = true := by
  rw [doT] at h
  split at h
  · exact (made_all h (.inl rfl)).2.2.2.1
  split at h
  · exact (made_all h (.inr rfl)).2.2.2.1
  split at h
  · rw [writeT] at h
    split at h
    · cases h
    · rename_i e hf
      split at h
      · cases h
      · rename_i hn
        obtain ⟨_, hx, _, hk, _⟩ := fileT_ok hf
        have hd := entOk_data ((treeOk_iff.1 ht).2.2 e hx).1 hk
        have hw := withT_set ht hx hk (d := writtenT e.data x.n.toNat x.s) (by rw [written_size]; omega)
        have h : withT t (setD e (writtenT e.data x.n.toNat x.s)) = .ok l := h
        rw [hw.1] at h
        cases h
        exact hw.2
  split at h
  · rw [cutT] at h
    split at h
    · cases h
    · rename_i e hf
      split at h
      · cases h
      · rename_i hn
        obtain ⟨_, hx, _, hk, _⟩ := fileT_ok hf
        have hw := withT_set ht hx hk (d := filledT e.data x.n.toNat) (by rw [filledT_size]; omega)
        have h : withT t (setD e (filledT e.data x.n.toNat)) = .ok l := h
        rw [hw.1] at h
        cases h
        exact hw.2
  split at h
  · rw [unlinkT] at h
    split at h
    · cases h
    · rename_i e hf
      cases h
      obtain ⟨_, hx, hpx, hk, _⟩ := fileT_ok hf
      exact tree_del ht fun y hy => .inl (by rw [← hpx]; exact file_leaf ht hx (by omega) y hy)
  split at h
  · rw [rmdirT] at h
    split at h
    · cases h
    · split at h
      · split at h
        · rename_i hin
          cases h
          refine tree_del ht fun y hy => .inl fun hd => ?_
          obtain ⟨ys, z, hn, hdir, _⟩ := ent_names ((treeOk_iff.1 ht).2.2 y hy).1
          have h1 : inP x.p y = some z := inP_iff.2 ⟨ys, hn, by rw [← hdir, hd]⟩
          have h2 : z ∈ inT t x.p := List.mem_filterMap.2 ⟨y, hy, h1⟩
          rw [hin] at h2
          cases h2
        · cases h
      · cases h
  · obtain ⟨_, _, _, _, hz, _⟩ := moved h
    exact hz

end

end Go.Proofs.YtneefmgidplbcaaGreatDoor

/-! EditL -/
namespace Go.Proofs.YtneefmgidplbcaaGreatDoor
open Go Go.RowKit

/-- edit's done; t is the tree then. -/
def doneU (low : List (List Ent)) (t l : List Ent) (m : Nat) (x : OpT) : List Ent :=
  if m = 1 then makeU l x.p else if m = 6 then fileU t (removeU low l x.p) x.q else if m = 4 ∨ m = 5 then removeU low l x.p else fileU t l x.p

theorem find_ext {a b : List Ent} (ha : Rising a) (hb : Rising b) (h : ∀ q, findT a q = findT b q) : a = b := rising_ext ha hb fun x => by
  constructor
  · intro hx
    have := findT_of ha hx
    rw [h] at this
    exact (findT_some this).1
  · intro hx
    have := findT_of hb hx
    rw [← h] at this
    exact (findT_some this).1

variable {A : ByteArray → Option Ent} {l t t' : List Ent} {p : ByteArray} {ys : List ByteArray} {z : ByteArray}

theorem data_of (ht : treeOk t = true) {e : Ent} (he : findT t p = some e) (hk : e.kind = 1) : dataT t p = e.data := by
  obtain ⟨h1, rfl⟩ := findT_some he
  rw [dataT, readT_of ht h1 hk]

theorem file_step (hr : Rising l) (hn : names p = some (ys ++ [z])) (ht : treeOk t' = true) {e : Ent} (he : findT t' p = some e) (hk : e.kind = 1) (hT : ∀ q, q ≠ p → findT t' q = stepL l q (A q)) (hu : layerOk (fileU t' l p) = true) (q : ByteArray) :
    stepL (fileU t' l p) q (A q) = findT t' q := by
  have hd := data_of ht he hk
  have hee : e = ⟨p, 1, e.data⟩ := by
    obtain ⟨_, h2⟩ := findT_some he
    cases e
    simp at h2 hk ⊢
    exact ⟨h2, hk⟩
  rw [fileU, hd] at hu ⊢
  refine put_file hr hu hn ht (fun q => ?_) q
  by_cases e1 : q = p
  · rw [if_pos e1, e1, he, ← hee]
  · rw [if_neg e1, hT q e1]

theorem names_last {ns : List ByteArray} (h0 : ns ≠ []) (h : names p = some ns) : ∃ ys z, names p = some (ys ++ [z]) := ⟨ns.dropLast, ns.getLast h0, by rw [h, List.dropLast_concat_getLast]⟩

theorem fileT_find {e : Ent} (h : fileT t p = .ok e) : treeOk t = true ∧ findT t p = some e ∧ e.kind = 1 ∧ e.path = p ∧ ∃ ys z, names p = some (ys ++ [z]) := by
  obtain ⟨ht, h1, rfl, h3, _⟩ := fileT_ok h
  obtain ⟨ys, z, h4, _⟩ := ent_names ((treeOk_iff.1 ht).2.2 e h1).1
  exact ⟨ht, findT_of (treeOk_rising ht) h1, h3, rfl, ys, z, h4⟩

theorem fileT_dir (h : fileT t p = .error 5) : treeOk t = true ∧ ∃ e, findT t p = some e ∧ e.kind = 2 ∧ ∃ ys z, names p = some (ys ++ [z]) := by
  rw [fileT] at h
  split at h
  · rename_i ht
    split at h
    · cases h
    · rename_i hp
      split at h
      · rename_i c hc
        cases h
        rw [atT] at hc
        split at hc
        · cases hc
        · split at hc
          · cases hc
          · split at hc <;> cases hc
      · rename_i e he
        split at h
        · rename_i hk
          obtain ⟨h1, rfl⟩ := atT_mem hp he
          obtain ⟨ys, z, h4, _⟩ := ent_names ((treeOk_iff.1 ht).2.2 e h1).1
          exact ⟨ht, e, findT_of (treeOk_rising ht) h1, hk, ys, z, h4⟩
        · cases h
  · cases h

/-- Where a directory has no names, nothing lies under it. -/
theorem in_none (ht : treeOk t = true) {ns : List ByteArray} (hn : names p = some ns) (hin : inT t p = []) {q : ByteArray} (hu : underB q p = true) : findT t q = none := by
  obtain ⟨cs, rest, r0, rfl, rfl, hv⟩ := under_names hu
  rcases hf : findT t (pathOf (cs ++ rest)) with _ | e
  · rfl
  · rcases rest with _ | ⟨r, rest⟩
    · exact absurd rfl r0
    · have hx : ∃ x, findT t (pathOf (cs ++ [r])) = some x := by
        by_cases h0 : rest = []
        · subst h0
          exact ⟨e, hf⟩
        · have e1 : cs ++ r :: rest = (cs ++ [r]) ++ rest := by simp
          rw [e1] at hf hv
          have := List.length_pos_iff.2 h0
          obtain ⟨u, h1, _⟩ := treeF_up (treeF_of ht) (by simp) (rest.length - 1) rest (by omega) hv e hf
          exact ⟨u, h1⟩
      obtain ⟨x, hx⟩ := hx
      obtain ⟨h1, h2⟩ := findT_some hx
      have hv1 : ValN (cs ++ [r]) := by
        have e1 : cs ++ r :: rest = (cs ++ [r]) ++ rest := by simp
        rw [e1] at hv
        exact hv.left
      have h3 : inP (pathOf cs) x = some r := inP_iff.2 ⟨cs, by rw [h2]; exact hv1.names, rfl⟩
      have h4 : r ∈ inT t (pathOf cs) := List.mem_filterMap.2 ⟨x, h1, h3⟩
      rw [hin] at h4
      cases h4

/-- What is done shows. -/
theorem done_ok {low : List (List Ent)} {up : List Ent} {m : Nat} {x : OpT} (hst : stackOk (low ++ [up]) = true) (hm : m < 7) (hdo : doT (foldT (low ++ [up])) m x = .ok t') (hu : layerOk (doneU low t' up m x) = true) :
    foldT (low ++ [doneU low t' up m x]) = t' := by
  obtain ⟨ht, _, hF⟩ := fold_show hst
  obtain ⟨_, ha⟩ := stackOk_layers hst
  have hl := ha up (by simp)
  have hr := layerOk_rising hl
  have hlow : ∀ x ∈ low, layerOk x = true := fun x hx => ha x (by simp [hx])
  have hA := show_tree hlow
  have hT : ∀ q, findT (foldT (low ++ [up])) q = stepL up q (showL low q) := fun q => by rw [hF, showL_snoc]
  generalize foldT (low ++ [up]) = t at *
  have htr := treeOk_rising ht
  have ht' := doT_tree ht hdo
  obtain ⟨ht2, _, hF2⟩ := fold_show (stack_app hst hu)
  refine find_ext (treeOk_rising ht2) (treeOk_rising ht') fun q => ?_
  rw [hF2, showL_snoc]
  clear ht2 hF2
  rw [doT] at hdo
  have h7 : m = 0 ∨ m = 1 ∨ m = 2 ∨ m = 3 ∨ m = 4 ∨ m = 5 ∨ m = 6 := by omega
  rcases h7 with rfl | rfl | rfl | rfl | rfl | rfl | rfl
  · -- create
    have hdo : madeT t x.p 1 = .ok t' := hdo
    have hu : layerOk (fileU t' up x.p) = true := hu
    show stepL (fileU t' up x.p) q (showL low q) = _
    obtain ⟨_, hp, rfl, _, hf⟩ := made_all hdo (.inl rfl)
    obtain ⟨⟨ys, z, hn⟩, _⟩ := place_zero hp ht
    exact file_step hr hn ht' (by rw [findT_ins htr, if_pos rfl]) rfl (fun q hq => by rw [findT_ins htr, if_neg hq, hT]) hu q
  · -- mkdir
    have hdo : madeT t x.p 2 = .ok t' := hdo
    show stepL (makeU up x.p) q (showL low q) = _
    obtain ⟨_, hp, rfl, _, hf⟩ := made_all hdo (.inr rfl)
    obtain ⟨⟨ys, z, hn⟩, _⟩ := place_zero hp ht
    exact put_dir hA hl hn ht' (by rw [← hT, hf]) (fun q => by
      rw [findT_ins htr, ← hT]) q
  · -- write
    have hdo : writeT t x.p x.n x.s = .ok t' := hdo
    have hu : layerOk (fileU t' up x.p) = true := hu
    show stepL (fileU t' up x.p) q (showL low q) = _
    rw [writeT] at hdo
    split at hdo
    · cases hdo
    · rename_i e hf
      split at hdo
      · cases hdo
      · obtain ⟨_, h1, h2, h3, ys, z, h4⟩ := fileT_find hf
        have hdo : withT t (setD e (writtenT e.data x.n.toNat x.s)) = .ok t' := hdo
        rw [withT] at hdo
        split at hdo
        · cases hdo
          exact file_step hr h4 ht' (e := setD e (writtenT e.data x.n.toNat x.s)) (by rw [findT_ins htr]; exact if_pos h3.symm) h2 (fun q hq => by rw [findT_ins htr, hT]; exact if_neg (by rw [show (setD e (writtenT e.data x.n.toNat x.s)).path = x.p from h3]; exact hq)) hu q
        · cases hdo
  · -- cut
    have hdo : cutT t x.p x.n = .ok t' := hdo
    have hu : layerOk (fileU t' up x.p) = true := hu
    show stepL (fileU t' up x.p) q (showL low q) = _
    rw [cutT] at hdo
    split at hdo
    · cases hdo
    · rename_i e hf
      split at hdo
      · cases hdo
      · obtain ⟨_, h1, h2, h3, ys, z, h4⟩ := fileT_find hf
        have hdo : withT t (setD e (filledT e.data x.n.toNat)) = .ok t' := hdo
        rw [withT] at hdo
        split at hdo
        · cases hdo
          exact file_step hr h4 ht' (e := setD e (filledT e.data x.n.toNat)) (by rw [findT_ins htr]; exact if_pos h3.symm) h2 (fun q hq => by rw [findT_ins htr, hT]; exact if_neg (by rw [show (setD e (filledT e.data x.n.toNat)).path = x.p from h3]; exact hq)) hu q
        · cases hdo
  · -- unlink
    have hdo : unlinkT t x.p = .ok t' := hdo
    show stepL (removeU low up x.p) q (showL low q) = _
    rw [unlinkT] at hdo
    split at hdo
    · cases hdo
    · rename_i e hf
      cases hdo
      obtain ⟨_, h1, h2, h3, ys, z, h4⟩ := fileT_find hf
      exact (remove_ok hst h4 ht hT h1 (fun q hq => treeF_below (treeF_of ht) h4 (by simp) (fun d hd => by rw [h1] at hd; cases hd; omega) hq)).2 q
  · -- rmdir
    have hdo : rmdirT t x.p = .ok t' := hdo
    show stepL (removeU low up x.p) q (showL low q) = _
    rw [rmdirT] at hdo
    split at hdo
    · cases hdo
    · rename_i c hf
      split at hdo
      · rename_i hc
        subst hc
        split at hdo
        · rename_i hin
          cases hdo
          obtain ⟨_, e, h1, h2, ys, z, h4⟩ := fileT_dir hf
          exact (remove_ok hst h4 ht hT h1 (fun q hq => in_none ht h4 hin hq)).2 q
        · cases hdo
      · cases hdo
  · -- rename
    have hdo : renameT t x.p x.q = .ok t' := hdo
    have hu : layerOk (fileU t' (removeU low up x.p) x.q) = true := hu
    show stepL (fileU t' (removeU low up x.p) x.q) q (showL low q) = _
    obtain ⟨e, hf, _, hz, _, hfz, _, hne, _⟩ := moved hdo
    obtain ⟨_, h1, h2, h3, ys, z, h4⟩ := fileT_find hf
    obtain ⟨_, g1, g2, g3, ys', z', g4⟩ := fileT_find hfz
    obtain ⟨hr1, hT1⟩ := remove_ok hst h4 ht hT h1 (fun q hq => treeF_below (treeF_of ht) h4 (by simp) (fun d hd => by rw [h1] at hd; cases hd; omega) hq)
    refine file_step hr1 g4 ht' g1 g2 (fun q hq => ?_) hu q
    rw [hT1, hz, findT_ins (rising_delT htr _)]
    exact if_neg hq

/-! ### Over no lower layers -/

def noWhite (l : List Ent) : Prop := ∀ x ∈ l, x.kind ≤ 2

theorem put_kinds {e : Ent} (hr : Rising l) (hl : noWhite l) (he : e.kind ≤ 2) : noWhite (putU l e) := by
  intro x hx
  obtain ⟨h1, h2⟩ := put_find hr e
  have h3 := findT_of h1 hx
  rw [h2] at h3
  split at h3
  · cases h3
    exact he
  · split at h3
    · rename_i y hy
      cases h3
      exact hl x (findT_some hy).1
    · split at h3
      · have : x.kind = 2 := by rw [← Option.some.inj h3]
        omega
      · cases h3
theorem make_kinds (hr : Rising l) (hl : noWhite l) (p : ByteArray) : noWhite (makeU l p) := by
  refine put_kinds hr hl ?_
  rw [if_neg]
  · exact Int.le_refl _
  · rw [whiteB]
    split
    · rename_i x hx
      have := hl x (findT_some hx).1
      simp
      omega
    · simp
theorem out_kinds (hl : noWhite l) (p : ByteArray) : noWhite (outU l p) := fun x hx => hl x (List.mem_filter.1 hx).1
theorem remove_nil (hl : layerOk l = true) (hn : names p = some (ys ++ [z])) : removeU [] l p = outU l p := by
  rw [removeU, if_neg]
  have hlo := out_layer hl p
  have hst : stackOk ([] ++ [outU l p]) = true := stackOk_of (by simp) (by simpa using hlo)
  rw [shows_show hst hn (by simp), showL_snoc, showL_nil, stepL_none (by rw [out_find (layerOk_rising hl), if_pos (.inl rfl)])]
  split <;> simp

theorem lower_keep {up : List Ent} {m : Nat} {x : OpT} (hl : layerOk up = true) (hk : noWhite up) (hm : m < 7) (hdo : doT (foldT [up]) m x = .ok t') : noWhite (doneU [] t' up m x) := by
  have hr := layerOk_rising hl
  rw [doT] at hdo
  have h7 : m = 0 ∨ m = 1 ∨ m = 2 ∨ m = 3 ∨ m = 4 ∨ m = 5 ∨ m = 6 := by omega
  rcases h7 with rfl | rfl | rfl | rfl | rfl | rfl | rfl
  · exact put_kinds hr hk (show (1 : Int) ≤ 2 by decide)
  · exact make_kinds hr hk x.p
  · exact put_kinds hr hk (show (1 : Int) ≤ 2 by decide)
  · exact put_kinds hr hk (show (1 : Int) ≤ 2 by decide)
  · have hdo : unlinkT (foldT [up]) x.p = .ok t' := hdo
    show noWhite (removeU [] up x.p)
    rw [unlinkT] at hdo
    split at hdo
    · cases hdo
    · rename_i e hf
      obtain ⟨_, h1, h2, h3, ys, z, h4⟩ := fileT_find hf
      rw [remove_nil hl h4]
      exact out_kinds hk _
  · have hdo : rmdirT (foldT [up]) x.p = .ok t' := hdo
    show noWhite (removeU [] up x.p)
    rw [rmdirT] at hdo
    split at hdo
    · cases hdo
    · rename_i c hf
      split at hdo
      · rename_i hc
        subst hc
        obtain ⟨_, e, h1, h2, ys, z, h4⟩ := fileT_dir hf
        rw [remove_nil hl h4]
        exact out_kinds hk _
      · cases hdo
  · have hdo : renameT (foldT [up]) x.p x.q = .ok t' := hdo
    show noWhite (fileU t' (removeU [] up x.p) x.q)
    obtain ⟨e, hf, _, hz, _, hfz, _, hne, _⟩ := moved hdo
    obtain ⟨_, h1, h2, h3, ys, z, h4⟩ := fileT_find hf
    rw [remove_nil hl h4]
    exact put_kinds (out_rising hr _) (out_kinds hk _) (show (1 : Int) ≤ 2 by decide)

/-- A layer without whiteouts is a tree. -/
theorem tree_layer (hl : layerOk l = true) (hk : noWhite l) : treeOk l = true := by
  obtain ⟨h1, h2, h3⟩ := layerOk_iff.1 hl
  refine treeOk_iff.2 ⟨by omega, h2, fun x hx => ⟨(h3 x hx).1, hk x hx, ?_⟩⟩
  rcases (h3 x hx).2 with h4 | ⟨y, hy, h5, h6⟩
  · exact .inl h4
  · refine .inr ⟨y, hy, h5, ?_⟩
    have := hk y hy
    simp only [holds, Bool.or_eq_true, beq_iff_eq] at h6
    omega

/-! ### Far from its paths nothing is turned -/

def nearB (r a b : ByteArray) : Bool := decide (r = a) || decide (r = b) || underB r a || underB r b || underB a r || underB b r

theorem put_far {e : Ent} (hr : Rising l) {r : ByteArray} (h1 : r ≠ e.path) (h2 : underB e.path r = false) : findT (putU l e) r = findT l r := by
  rw [(put_find hr e).2, if_neg h1]
  rcases findT l r with _ | y
  · dsimp only
    rw [if_neg]
    intro h
    obtain ⟨i, hi, rfl⟩ := upB_iff.1 h
    rcases hn : names e.path with _ | ns
    · rw [namesD, hn] at hi
      simp at hi
    · rw [names_D hn] at hi h2
      obtain ⟨hv, hp⟩ := ValN.of hn
      rw [← List.take_append_drop (i + 1) ns] at hv
      have := under_app hv (by intro h3; have := congrArg List.length h3; rw [List.length_drop, List.length_nil] at this; omega)
      rw [List.take_append_drop, hp, h2] at this
      cases this
  · rfl
theorem out_far (hr : Rising l) {r : ByteArray} (h1 : r ≠ p) (h2 : underB r p = false) : findT (outU l p) r = findT l r := by
  rw [out_find hr, if_neg]
  rintro (h | h)
  · exact h1 h
  · rw [h2] at h; cases h
theorem remove_far (low : List (List Ent)) (hr : Rising l) {r : ByteArray} (h1 : r ≠ p) (h2 : underB r p = false) (h3 : underB p r = false) : findT (removeU low l p) r = findT l r ∧ Rising (removeU low l p) := by
  rw [removeU]
  split
  · exact ⟨by rw [put_far (out_rising hr p) (e := ⟨p, 3, ⟨#[]⟩⟩) h1 h3, out_far hr h1 h2], (put_find (out_rising hr p) _).1⟩
  · exact ⟨out_far hr h1 h2, out_rising hr p⟩

theorem touch {low : List (List Ent)} {up : List Ent} {m : Nat} {x : OpT} (hr : Rising up) {q : ByteArray} (hq : q = if m = 6 then x.q else x.p) {r : ByteArray} (hn : nearB r x.p q = false) : findT (doneU low t' up m x) r = findT up r := by
  simp only [nearB, Bool.or_eq_false_iff, decide_eq_false_iff_not] at hn
  obtain ⟨⟨⟨⟨⟨h1, h2⟩, h3⟩, h4⟩, h5⟩, h6⟩ := hn
  rw [doneU]
  split
  · exact put_far hr h1 h5
  · split
    · rename_i h7
      rw [if_pos h7] at hq
      subst hq
      obtain ⟨h8, h9⟩ := remove_far low hr h1 h3 h5
      rw [fileU, put_far h9 h2 h6, h8]
    · split
      · exact (remove_far low hr h1 h3 h5).1
      · exact put_far hr h1 h5

/-! ### A file in a layer of its own -/

theorem dirs_nil {ns : List ByteArray} (hv : ValN ns) : ∀ k, k ≤ ns.length → (dirsU [] ns k).length = k
  | 0, _ => rfl
  | k + 1, hk => by
    have ih := dirs_nil hv k (by omega)
    obtain ⟨hr, hf⟩ := dirs_find (l := []) List.Pairwise.nil ns k
    have hnone : findT (dirsU [] ns k) (pathOf (ns.take (k + 1))) = none := by
      rw [hf]
      show (if upB ns k (pathOf (ns.take (k + 1))) = true then _ else none) = none
      rw [if_neg]
      intro h
      obtain ⟨i, hi, he⟩ := upB_iff.1 h
      have := congrArg List.length ((hv.take _).inj (hv.take _) he)
      rw [List.length_take, List.length_take] at this
      omega
    rw [dirsU, hnone]
    dsimp only
    rw [insT_len, delT_none (findT_none hnone), ih]

theorem put_nil {d : ByteArray} (hn : names p = some (ys ++ [z])) (hd : d.size ≤ 256) : layerOk (putU [] ⟨p, 1, d⟩) = true ∧ (putU [] ⟨p, 1, d⟩).length = ys.length + 1 := by
  have hn0 : Rising [] := List.Pairwise.nil
  obtain ⟨hv, hp⟩ := ValN.of hn
  have hlen6 := hv.2
  rw [List.length_append, List.length_singleton] at hlen6
  obtain ⟨hr, hf⟩ := put_find hn0 (⟨p, 1, d⟩ : Ent)
  have hlen : (putU [] ⟨p, 1, d⟩).length = ys.length + 1 := by
    obtain ⟨hr2, hf2⟩ := dirs_find hn0 (ys ++ [z]) ys.length
    have hnone : findT (dirsU [] (ys ++ [z]) ys.length) p = none := by
      rw [hf2]
      show (if upB (ys ++ [z]) ys.length p = true then _ else none) = none
      rw [if_neg]
      intro h
      obtain ⟨i, hi, he⟩ := upB_iff.1 h
      rw [← hp] at he
      have := congrArg List.length (hv.inj (hv.take _) he)
      rw [List.length_take, List.length_append, List.length_singleton] at this
      omega
    rw [putU, names_D hn, List.length_append, List.length_singleton, Nat.add_sub_cancel, insT_len, delT_none (findT_none hnone), dirs_nil hv _ (by rw [List.length_append, List.length_singleton]; omega)]
  refine ⟨layerOk_iff.2 ⟨by omega, hr, fun x hx => ?_⟩, hlen⟩
  have hfx := findT_of hr hx
  have hdir : ∀ q i, 1 ≤ i → i ≤ ys.length + 1 → q = pathOf ((ys ++ [z]).take i) → HoldIn (putU [] ⟨p, 1, d⟩) q := by
    intro q i h1 h2 hq
    have hvt := hv.take i
    have htl : (ys ++ [z]).take i = (ys ++ [z]).take (i - 1) ++ [(ys ++ [z])[i - 1]'(by simp; omega)] := by
      have := List.take_append_getElem (l := ys ++ [z]) (i := i - 1) (by simp; omega)
      rw [show i - 1 + 1 = i by omega] at this
      exact this.symm
    rw [htl] at hvt hq
    have hdd : dirOf q = pathOf ((ys ++ [z]).take (i - 1)) := by
      rw [hq]
      exact names_dir hvt.names
    by_cases h0 : i = 1
    · left
      rw [hdd, h0]
      rfl
    · right
      have hfind : findT (putU [] ⟨p, 1, d⟩) (pathOf (ys.take (i - 1))) = some ⟨pathOf (ys.take (i - 1)), 2, ⟨#[]⟩⟩ := by
        rw [hf, if_neg (up_not hn (by omega)).1]
        show (if upB (namesD p) ((namesD p).length - 1) (pathOf (ys.take (i - 1))) = true then _ else none) = _
        rw [if_pos ((up_take hn).2 ⟨i - 1, by omega, by omega, rfl⟩)]
      obtain ⟨g1, g2⟩ := findT_some hfind
      refine ⟨_, g1, ?_, rfl⟩
      rw [hdd, List.take_append_of_le_length (by omega)]
  rw [hf] at hfx
  split at hfx
  · rename_i hxp
    have hx2 := Option.some.inj hfx
    rw [← hx2]
    refine ⟨entOk_new hn (.inl rfl) hd (fun h => by omega), hdir p (ys.length + 1) (by omega) (by omega) ?_⟩
    rw [List.take_of_length_le (by simp), hp]
  · rename_i hne
    have hfx : (if upB (namesD p) ((namesD p).length - 1) x.path = true then some (⟨x.path, 2, ⟨#[]⟩⟩ : Ent) else none) = some x := hfx
    split at hfx
    · rename_i hup
      obtain ⟨i, h1, h2, h3⟩ := (up_take hn).1 hup
      have hx2 := Option.some.inj hfx
      rw [← hx2]
      have htl : ys.take i = ys.take (i - 1) ++ [ys[i - 1]'(by omega)] := by
        have := List.take_append_getElem (l := ys) (i := i - 1) (by omega)
        rw [show i - 1 + 1 = i by omega] at this
        exact this.symm
      refine ⟨?_, ?_⟩
      · refine entOk_new (ys := ys.take (i - 1)) (z := ys[i - 1]'(by omega)) ?_ (.inr rfl) (by decide) (fun _ => rfl)
        rw [h3, ← htl]
        exact (hv.left.take i).names
      · refine hdir x.path i h1 (by omega) ?_
        rw [h3, List.take_append_of_le_length h2]
    · cases hfx
end Go.Proofs.YtneefmgidplbcaaGreatDoor

/-! StkApp -/
namespace Go.Proofs.YtneefmgidplbcaaGreatDoor
open Go Go.RowKit Go.Shelf Go.Proofs

theorem info_lay : (Tryz.prog.info? 54).map (fun i => (i.zero, i.size, i.bytes)) = some (some (.slice none 0 0), 1, 24) := by kernel_rfl

/-- The layers' values. -/
theorem stk_vals {w : World} {v : Value} {s : List (List Ent)} (h : RdK w v s) :
    ∃ (A : Option Addr) (c : Nat) (us : List Value), v = .slice A s.length c ∧ us.length = s.length ∧ (∀ (j : Nat) (h : j < us.length) (h' : j < s.length), RdE w us[j] s[j]) ∧
      (us ≠ [] → ∃ b o, A = some ⟨b, o, none⟩ ∧ ∀ (j : Nat) (h : j < us.length), w.cell? ⟨b, o + j, none⟩ = some us[j]) := by
  by_cases h0 : s = []
  · subst h0
    obtain ⟨A, c, rfl, _⟩ := h
    exact ⟨A, c, [], rfl, rfl, fun j h => by simp at h, fun h => absurd rfl h⟩
  · obtain ⟨b, o, c, rfl, _, _, hc⟩ := RdK.open_ h h0
    have hch : ∀ j, j < s.length → ∃ u : Value, w.cell? ⟨b, o + j, none⟩ = some u ∧ ∀ h : j < s.length, RdE w u s[j] := fun j hj => by
      obtain ⟨u, h1, h2⟩ := hc j hj
      exact ⟨u, h1, fun _ => h2⟩
    obtain ⟨f, hf⟩ : ∃ f : Nat → Value, ∀ j, j < s.length → w.cell? ⟨b, o + j, none⟩ = some (f j) ∧ ∀ h : j < s.length, RdE w (f j) s[j] := by
      refine ⟨fun j => if h : j < s.length then Classical.choose (hch j h) else undef, fun j hj => ?_⟩
      simp only [dif_pos hj]
      exact Classical.choose_spec (hch j hj)
    refine ⟨_, c, (List.range s.length).map f, rfl, by simp, fun j h h' => ?_, fun _ => ⟨b, o, rfl, fun j h => ?_⟩⟩
    · simp only [List.getElem_map, List.getElem_range]
      exact (hf j h').2 h'
    · simp only [List.getElem_map, List.getElem_range]
      exact (hf j (by simpa using h)).1

theorem rdE_one {w : World} {v : Value} {l : List Ent} (h : RdE w v l) : v.oneCell' = true := by
  obtain ⟨A, c, rfl, _⟩ := h
  rfl

theorem rdK_own {w : World} {base e : Nat} {v : Value} {us : List Value} {s : List (List Ent)} (h : w.ownsRow base e 1 v us.length us) (hl : us.length = s.length) (hb : us.length ≤ 1000000) (hr : ∀ (j : Nat) (h : j < us.length) (h' : j < s.length), RdE w us[j] s[j]) : RdK w v s := by
  rw [hl] at h hb
  refine Rd.of_own h (by omega) fun j x hj => ?_
  obtain ⟨hjs, hx⟩ := List.getElem?_eq_some_iff.1 hj
  have hju : j < us.length := by omega
  refine ⟨[us[j]], ⟨us[j], rfl, by rw [← hx]; exact hr j hju hjs⟩, fun i u hi => ?_⟩
  rcases i with _ | i
  · simp at hi
    subst hi
    simp [List.getElem?_eq_getElem hju]
  · simp at hi

theorem run_append_none_any {w : World} (base : Nat) (ty : TypeId) (c : Nat) (v : Value) (n : Nat) (xs : List Value) (hown : w.ownsRow base 54 1 v n xs) :
    (Builtin.append_ #[22, 22] ty #[v, .slice none 0 c]).run Tryz.prog w = .ok v w := by
  obtain ⟨i0, hi, hz0, hz1, hz2⟩ := info_parts info_lay
  rcases hown.2 with ⟨rfl, rfl⟩ | ⟨g, cap, cur, rfl, _, _, hnc, _⟩
  · simp [Builtin.append_, run_underlying Tryz.underlying22, sizeOf, typeInfo, hi, Builtin.lenOf, Builtin.firstCells]
  · simp [Builtin.append_, run_underlying Tryz.underlying22, sizeOf, typeInfo, hi, Builtin.lenOf, Builtin.firstCells, hnc, storeCells]

/-- Layers behind layers. -/
theorem append_stack {w : World} {ops : Array Oper} {rest : List Oper} {o : Oper} {a : Act} {Q : Exit → Act → World → Prop} (hgd : o.guard = none) (s x : Operand)
    (ho : o.op = .call { callee := .builtin .append, args := #[s, x], argTypes := #[22, 22] }) (base : Nat) (hbase : base ≤ w.heap.size) (v : Value) (n : Nat) (xs : List Value) (hs : a.eval s = v) (hown : w.ownsRow base 54 1 v n xs)
    (A : Option Addr) (c : Nat) (us : List Value) (hx : a.eval x = .slice A us.length c) (hA : us ≠ [] → ∃ b o, A = some ⟨b, o, none⟩ ∧ ∀ (j : Nat) (h : j < us.length), w.cell? ⟨b, o + j, none⟩ = some us[j]) (h1 : ∀ u ∈ us, u.oneCell' = true) (hn : n + us.length ≤ 1000000)
    (h : ∀ v' w', w'.ownsRow base 54 1 v' (n + us.length) (xs ++ us) → w.grownBy w' v.ownBlock → wpList Tryz.prog ops Q rest (a.put o.dst v') w') : wpList Tryz.prog ops Q (o :: rest) a w := by
  obtain ⟨i0, hi, hz0, hz1, hz2⟩ := info_parts info_lay
  rcases A with _ | ad
  · have h0 : us = [] := Classical.byContradiction fun e => by
      obtain ⟨b, o, e2, _⟩ := hA e
      cases e2
    subst h0
    refine wpList_plain hgd fun K hK => ?_
    have hrun := run_append_none_any (w := w) base o.type c v n xs hown
    unfold Oper.wp
    simp only [List.length_nil] at hx
    simp [execOp, ho, resolve, invoke, builtin, hs, hx, hrun, Result.andThen]
    exact hK _ _ (h v w (by simpa using hown) ⟨rfl, rfl, rfl, Nat.le_refl _, fun _ _ _ => rfl⟩)
  · exact wpList_append_own w hgd _ _ 22 ho base 54 i0 (.slice none 0 0) 1 24 Tryz.underlying22 hi hz0 hz1 hz2 rfl (by decide) v n xs hs hown ad us.length c us hx (by omega) (fun j u hj => by
      have hjl := (List.getElem?_eq_some_iff.1 hj).1
      obtain ⟨b, o, e, hc⟩ := hA (List.ne_nil_of_length_pos (by omega))
      cases e
      rw [Addr.add_lit]
      rw [hc j hjl, ← hj, List.getElem?_eq_getElem hjl]) h1 (by unfold maxLen; omega) (by omega) hbase fun v' w' h2 h3 _ => h v' w' h2 h3

/-- A layer of one entry, and its slice, as the code lays them. -/
theorem lay_blocks (W : World) (x : Ent) :
    Blk ((W.alloc (.cells #[.string x.path, .int .i64 x.kind, .string x.data] 66)).alloc (.cells #[.slice (some ⟨W.heap.size, 0, none⟩) 1 1] 54)) W.heap.size 66 #[.string x.path, .int .i64 x.kind, .string x.data] ∧
      Blk ((W.alloc (.cells #[.string x.path, .int .i64 x.kind, .string x.data] 66)).alloc (.cells #[.slice (some ⟨W.heap.size, 0, none⟩) 1 1] 54)) (W.heap.size + 1) 54 #[.slice (some ⟨W.heap.size, 0, none⟩) 1 1] := by
  refine ⟨(Blk.new W _ _).ext ((Ext.refl _).alloc _), ?_⟩
  have := Blk.new (W.alloc (.cells #[.string x.path, .int .i64 x.kind, .string x.data] 66)) 54 #[.slice (some ⟨W.heap.size, 0, none⟩) 1 1]
  rw [World.size_alloc] at this
  exact this

/-- A stack with one layer more. -/
theorem stk_snoc {w W : World} {base e n : Nat} {v lv : Value} {us : List Value} {s : List (List Ent)} {l : List Ent} (hown : W.ownsRow base e 1 v (n + 1) (us ++ [lv])) (hn : n = s.length) (hul : us.length = s.length) (hb : n ≤ 100000)
    (hur : ∀ (j : Nat) (h : j < us.length) (h' : j < s.length), RdE w us[j] s[j]) (hE : Ext w W) (hl : RdE W lv l) : RdK W v (s ++ [l]) := by
  refine rdK_own (us := us ++ [lv]) (by rw [List.length_append, List.length_singleton, hul, ← hn]; exact hown) (by simp [hul]) (by rw [List.length_append, List.length_singleton]; omega) fun j h h' => ?_
  rw [List.length_append, List.length_singleton] at h
  by_cases hj : j < us.length
  · rw [List.getElem_append_left hj, List.getElem_append_left (by omega)]
    exact (hur j hj (by omega)).ext hE
  · have : j = us.length := by omega
    subst this
    rw [List.getElem_append_right (by omega), List.getElem_append_right (by omega)]
    simpa using hl
end Go.Proofs.YtneefmgidplbcaaGreatDoor

/-! CloneK -/
namespace Go.Proofs.YtneefmgidplbcaaGreatDoor
open Go Go.RowKit Go.Shelf Go.Proofs

/-- What Clone answers: a row of layers' slices. -/
def CloneKAns (s : List (List Ent)) (w : World) (e : Ending) (w' : World) : Prop :=
  ∃ v us, e = .returned v ∧ us.length = s.length ∧ w'.ownsRow w.heap.size 54 1 v us.length us ∧ (∀ (j : Nat) (h : j < us.length) (h' : j < s.length), RdE w us[j] s[j]) ∧ Ext w w'

set_option maxHeartbeats 4000000 in
theorem CloneK_any (v : Value) (s : List (List Ent)) (w : World) (hv : RdK w v s) (hl : s.length ≤ 100000) :
    Calls Tryz.prog 50 #[v] w (CloneKAns s w) := by
  have q := fun (w : World) (a : Option Addr) (n c n' c' : Nat) => Lib.run_eql_slice_nil (P := Tryz.prog) w _ _ a n c n' c' Tryz.underlying22
  obtain ⟨A, c, us, rfl, hul, hur, hua⟩ := stk_vals hv
  obtain ⟨hc1, hc2⟩ : s.length ≤ c ∧ c ≤ 9223372036854775807 := by
    obtain ⟨A', c', e, h1, h2, _⟩ := hv
    cases e
    exact ⟨h1, h2⟩
  rcases A with _ | ad
  · have h0 : us = [] := Classical.byContradiction fun e => by
      obtain ⟨b, o, h, _⟩ := hua e
      cases h
    subst h0
    clear hv hua
    go_enter Tryz.func50, Tryz.ntmps50
    go_wp2
    go_ret
    exact ⟨_, [], rfl, hul, World.ownsRow_nil _ _ _ _, fun j h => by simp at h, Ext.refl _⟩
  · obtain ⟨n, hn⟩ : ∃ n, s.length = n := ⟨_, rfl⟩
    have Hul := Lib.hid hul
    have Hn := Lib.hid hn
    have h1 : Hid (∀ u ∈ us, u.oneCell' = true) := Lib.hid fun u hu => by
      obtain ⟨j, hj, rfl⟩ := List.getElem_of_mem hu
      exact rdE_one (hur j hj (by omega))
    have hE0 : Ext w (w.alloc (.cells #[] 54)) := (Ext.refl w).alloc _
    have Hua : Hid (us ≠ [] → ∃ b o, some ad = some ⟨b, o, none⟩ ∧ ∀ (j : Nat) (h : j < us.length), (w.alloc (.cells #[] 54)).cell? ⟨b, o + j, none⟩ = some us[j]) := Lib.hid fun h => by
      obtain ⟨b, o, e, hc⟩ := hua h
      exact ⟨b, o, e, fun j hj => hE0.cell (hc j hj)⟩
    have Hur := Lib.hid hur
    rw [hn] at hl hc1 ⊢
    clear hv hua hur hul hn
    go_enter Tryz.func50, Tryz.ntmps50
    go_wp2_with (at_builtin; refine append_stack rfl _ _ rfl w.heap.size (by simp) _ 0 [] rfl (World.ownsRow_made w #[] 0 (Nat.le_refl _) (Nat.zero_le _) rfl) (some ad) c us (by rw [Hul.out, Hn.out]; rfl) Hua.out h1.out (by have := Hul.out; have := Hn.out; omega) ?_; intro v' w1 hown hgrow)
    have hE1 : Ext w w1 := Ext.grown hE0 hgrow (fun k hk => by cases hk; exact Nat.le_refl _)
    have hown' : w1.ownsRow w.heap.size 54 1 v' us.length us := by simpa using hown
    obtain ⟨A', c', rfl⟩ := own_form hown'
    have Hown := Lib.hid hown'
    clear hown hown' hgrow
    go_wp2
    go_ret
    exact ⟨_, us, rfl, Hul.out, Hown.out, Hur.out, hE1⟩

/-- A layer behind a row of layers, as a step of a region that draws its order. -/
theorem stepK {w : World} {ops : Array Oper} {o : Oper} {a : Act} {K : Act → World → Prop} {Q : Exit → Act → World → Prop} {E : Prop} (hgd : o.guard = none) (s x : Operand)
    (ho : o.op = .call { callee := .builtin .append, args := #[s, x], argTypes := #[22, 22] }) (base : Nat) (v : Value) (n : Nat) (xs : List Value) (hown : w.ownsRow base 54 1 v n xs) (hs : a.eval s = v)
    (ad : Addr) (m c : Nat) (news : List Value) (hx : a.eval x = .slice (some ad) m c) (hl : news.length = m) (hnews : ∀ j u, news[j]? = some u → w.cell? (ad.add j) = some u) (h1 : ∀ u ∈ news, u.oneCell' = true)
    (hn : n + m ≤ 1000000) (hbase : base ≤ w.heap.size)
    (h : ∀ v' w', w'.ownsRow base 54 1 v' (n + m) (xs ++ news) → w.grownBy w' v.ownBlock → K (a.put o.dst v') w') : if Region.wanted o (yielded ops a.tmps) = true then Oper.wp Tryz.prog o a w K Q else E := by
  obtain ⟨i0, hi, hz0, hz1, hz2⟩ := info_parts info_lay
  have hw : Region.wanted o (yielded ops a.tmps) = true := by simp [Region.wanted, hgd]
  rw [if_pos hw]
  exact wp_append_own w s x 22 ho base 54 i0 (.slice none 0 0) 1 24 Tryz.underlying22 hi hz0 hz1 hz2 rfl (by decide) v n xs hs hown ad m c news hx (by omega) hnews h1 (by unfold maxLen; omega) (by omega) hbase fun v' w' h2 h3 _ => h v' w' h2 h3
end Go.Proofs.YtneefmgidplbcaaGreatDoor

/-! EditR -/
namespace Go.Proofs.YtneefmgidplbcaaGreatDoor
open Go Go.RowKit Go.Shelf Go.Proofs Go.Sort

set_option maxHeartbeats 2000000 in
theorem uprem1_any (cb : Nat) (p : ByteArray) (x : Ent) (W : World) (hy : p.size ≤ 70368744177664) (hx : x.fits) (hq : W.cell? ⟨cb, 0, none⟩ = some (.string p)) :
    Calls Tryz.prog 135 #[.agg #[.string x.path, .int .i64 x.kind, .string x.data], .pointer (some ⟨cb, 0, none⟩)] W fun e w' => e = .returned (.bool (decide (x.path = p) || underB x.path p)) ∧ Ext W w' := by
  have HU := fun w => Under_any x.path p w hx.1 hy
  have hq2 := Lib.cell?_alloc_some (.cells #[.string x.path, .int .i64 x.kind, .string x.data] 66) hq
  have hp := beq_path x.path p
  obtain ⟨d, hd⟩ : ∃ d, decide (x.path = p) = d := ⟨_, rfl⟩
  rw [hd] at hp ⊢
  clear hd
  rcases d with _ | _
  · go_enter Tryz.func135, Tryz.ntmps135
    go_wp2_with (go_at_call 62; refine (HU _).mono ?_; rintro e w1 ⟨rfl, hE1⟩)
    go_ret
    exact ⟨by first | rfl | simp, by exact (by repeat (first | exact Ext.refl _ | assumption | refine Ext.alloc ?_ _ | refine Ext.drew ?_ | refine Ext.drewN ?_ _ | refine Ext.setCell ?_ (by first | omega | (simp; done) | (simp; omega)) _ | refine Ext.trans ?_ (by assumption)))⟩
  · go_enter Tryz.func135, Tryz.ntmps135
    go_wp2
    go_ret
    exact ⟨by first | rfl | simp, by exact (by repeat (first | exact Ext.refl _ | assumption | refine Ext.alloc ?_ _ | refine Ext.drew ?_ | refine Ext.drewN ?_ _ | refine Ext.setCell ?_ (by first | omega | (simp; done) | (simp; omega)) _ | refine Ext.trans ?_ (by assumption)))⟩

/-- What stays while DeleteFunc runs. -/
def RemQ (ub pb : Nat) (lv v : Value) (p : ByteArray) (w1 : World) (W : World) : Prop := But (Sv ub v) w1 W ∧ Blk W ub 112 #[lv, v] ∧ W.cell? ⟨pb, 0, none⟩ = some (.string p)

theorem asks_uprem {ub pb : Nat} {lv v : Value} {p : ByteArray} {w1 : World} (hy : p.size ≤ 70368744177664) : Asks 135 pb (fun x => decide (x.path = p) || underB x.path p) (RemQ ub pb lv v p w1) where
  enter := enters_of Tryz.func135 (by kernel_rfl) rfl
  call := fun x W hx hq => uprem1_any pb p x W hy hx hq.2.2
  ext := fun W W' h he => ⟨h.1.ext he, h.2.1.ext he, he.cell h.2.2⟩

theorem remQ_set {ub pb gb j : Nat} {lv v u : Value} {p : ByteArray} {w1 W : World} (hv : v.ownBlock = some gb) (hne : v.ownBlock ≠ some ub) (hnp : v.ownBlock ≠ some pb) (h : RemQ ub pb lv v p w1 W) : RemQ ub pb lv v p w1 (W.setCell ⟨gb, j, none⟩ u) := by
  refine ⟨h.1.setCell (.inr hv) _, (Below.heap_setCell _ _ _ _ (fun e => hne (hv.trans (by first | exact congrArg some e | exact congrArg some e.symm)))).trans h.2.1, ?_⟩
  refine (World.cell?_setCell_other _ _ _ _ (fun e => hnp ?_)).trans h.2.2
  cases e
  exact hv

theorem up_rem {w0 w W2 : World} {ub pb : Nat} {lv v v2 : Value} {l : List Ent} {p : ByteArray} {o : Obj} (h : Up w0 ub lv v l w) (hrow : W2.ownsRow w0.heap.size 66 3 v2 (outU l p).length (flatE (outU l p))) (hE : Ext w0 W2)
    (hQ : RemQ ub pb lv v p (w.alloc o) W2) (hob : v2.ownBlock = v.ownBlock) (hpb : pb ≠ ub) :
    Up w0 ub lv v2 (outU l p) (W2.setCell ⟨ub, 1, none⟩ v2) ∧ Moved ub v w v2 (W2.setCell ⟨ub, 1, none⟩ v2) ∧ (W2.setCell ⟨ub, 1, none⟩ v2).cell? ⟨pb, 0, none⟩ = some (.string p) := by
  have hb2 := hQ.2.1
  refine ⟨⟨hb2.set 1 v2, row_other hrow (blk_row hb2 hrow (by decide)) _, hE.setCell h.at_ _, h.at_, fun x hx => h.fits x (List.mem_filter.1 hx).1⟩, ⟨?_, .inl hob⟩, ?_⟩
  · exact ((But.of_ext ((Ext.refl w).alloc o)).trans (hQ.1.mono fun k _ hk => hk)).setCell (.inl rfl) _
  · exact (World.cell?_setCell_other _ _ _ _ (fun e => hpb (by first | exact congrArg Addr.block e | exact (congrArg Addr.block e).symm))).trans hQ.2.2

/-- A stack with another layer, as the code lays it. -/
theorem rdK_snoc {w W : World} {base e : Nat} {v lv : Value} {us : List Value} {s : List (List Ent)} {l : List Ent} (hown : W.ownsRow base e 1 v (us.length + 1) (us ++ [lv])) (hul : us.length = s.length) (hb : s.length ≤ 100000)
    (hur : ∀ (j : Nat) (h : j < us.length) (h' : j < s.length), RdE w us[j] s[j]) (hE : Ext w W) (hl : RdE W lv l) : RdK W v (s ++ [l]) := by
  rw [hul] at hown
  exact stk_snoc hown rfl hul hb hur hE hl

set_option maxHeartbeats 16000000 in
set_option maxRecDepth 20000 in
theorem uRemove_any {w0 w : World} {ub : Nat} {lv v : Value} {l : List Ent} (low : List (List Ent)) (p : ByteArray) (ns : List ByteArray) (h : Up w0 ub lv v l w) (hlow : RdK w0 lv low) (hll : low.length ≤ 1000) (hl : l.length ≤ 9000) (hr : Rising l) (hn : names p = some ns) (h0 : ns ≠ []) :
    Calls Tryz.prog 92 #[.pointer (some ⟨ub, 0, none⟩), .string p] w (UpAns w0 ub lv v (removeU low l p) w) := by
  have hps : p.size ≤ 55 := by
    obtain ⟨hv, rfl⟩ := ValN.of hn
    exact pathOf_size hv.1 hv.2
  have hE1 : Ext w (w.alloc (.cells #[.string p] 9)) := (Ext.refl w).alloc _
  have h1 := h.step hE1
  have hold := h.old (Nat.le_refl w.heap.size)
  have hq1 : RemQ ub w.heap.size lv v p (w.alloc (.cells #[.string p] 9)) (w.alloc (.cells #[.string p] 9)) := ⟨But.refl _ _, h1.blk, (Blk.new w 9 #[.string p]).one.1⟩
  have hD := DelF_any (asks_uprem (by omega)) w0.heap.size v (fun W gb j u hgb hq => remQ_set hgb h.ne hold.2 hq) l w0 (w.alloc (.cells #[.string p] 9)) h1.ext (Nat.le_refl _) h1.row (by omega) h.fits hq1
  have hol : (outU l p).length ≤ l.length := List.length_filter_le _ _
  obtain ⟨⟨b0, f0⟩, ⟨b1, f1⟩⟩ := h1.blk.two
  have H := Lib.hid h
  have H1 := Lib.hid h1
  have Hr := Lib.hid hr
  have Hn := Lib.hid hn
  have H0 := Lib.hid h0
  have Hlow := Lib.hid hlow
  have Hold := Lib.hid hold
  obtain ⟨pb, hpb⟩ : ∃ pb, w.heap.size = pb := ⟨_, rfl⟩
  have Hpb := Lib.hid hpb
  obtain ⟨A, c, rfl⟩ := own_form h.row
  obtain ⟨Al, cl, usl, rfl, _, _, _⟩ := stk_vals hlow
  clear h h1 hr hn h0 hlow hold hq1 hpb
  go_enter Tryz.func92, Tryz.ntmps92
  go_upto_region 2 with (go_at_call 112; refine hD.mono ?_; rintro e W2 ⟨v2, rfl, hrow2', hE2, hQ2, hob2⟩; have hrow2 : W2.ownsRow w0.heap.size 66 3 v2 (outU l p).length (flatE (outU l p)) := hrow2'; clear hrow2'; obtain ⟨⟨c0, _⟩, ⟨c1, d1⟩⟩ := hQ2.2.1.two; obtain ⟨A2, c2, rfl⟩ := own_form hrow2)
  obtain ⟨hup3, hmv3, hp3⟩ := up_rem H.out hrow2 hE2 hQ2 hob2 (by rw [Hpb.out]; have := Hold.out.1; rw [Hpb.out] at this; exact this)
  rw [Hpb.out] at hp3 ⊢
  obtain ⟨n2, hn2⟩ : ∃ n2, (outU l p).length = n2 := ⟨_, rfl⟩
  have Hn2 := Lib.hid hn2
  rw [hn2] at hup3 hmv3 hp3 hol ⊢
  clear hrow2 hE2 hQ2 hob2 c0 c1 d1 hD b0 b1 f0 f1 hn2
  generalize W2.setCell ⟨ub, 1, none⟩ (.slice A2 n2 c2) = W3 at hup3 hmv3 hp3 ⊢
  obtain ⟨⟨b0, _⟩, ⟨b1, _⟩⟩ := hup3.blk.two
  have Hup3 := Lib.hid hup3
  have Hmv3 := Lib.hid hmv3
  have HCl := fun (W : World) (he : Ext W3 W) => CloneK_any (.slice Al low.length cl) low W (Hlow.out.ext (Hup3.out.ext.trans he)) (by omega)
  have HSh := fun (W : World) (v' : Value) (h : RdK W v' (low ++ [outU l p])) => Shows_any v' (low ++ [outU l p]) p W h (by omega)
  have hrd3 : Hid (∀ W, Ext W3 W → RdE W (.slice A2 n2 c2) (outU l p)) := Lib.hid fun W he => (Hup3.out.rd (by rw [Hn2.out]; omega)).ext he
  have nB : Hid (∀ W, Ext (W3.alloc (.cells #[.slice A2 n2 c2] 54)) W → ∀ j u, [Value.slice A2 n2 c2][j]? = some u → W.cell? ((⟨W3.heap.size, 0, none⟩ : Addr).add j) = some u) := Lib.hid fun W h => World.news_of_block (cs := #[.slice A2 n2 c2]) (t := 54) (fr := (0, 0)) ((Blk.new W3 54 #[.slice A2 n2 c2]).ext h)
  obtain ⟨sb, hsb⟩ : ∃ sb, showsE (low ++ [outU l p]) p = sb := ⟨_, rfl⟩
  rw [hsb] at HSh
  have Hsb := Lib.hid hsb
  have HP : Hid (∀ W, Ext W3 W → Calls Tryz.prog 134 #[.pointer (some ⟨ub, 0, none⟩), .agg #[.string p, .int .i64 3, .string ⟨#[]⟩]] W (UpAns w0 ub (.slice Al low.length cl) (.slice A2 n2 c2) (putU (outU l p) ⟨p, 3, ⟨#[]⟩⟩) W)) := Lib.hid fun W he =>
    uPut_any ⟨p, 3, ⟨#[]⟩⟩ ns (Hup3.out.step he) (by rw [Hn2.out]; omega) (out_rising Hr.out p) Hn.out H0.out ⟨by show p.size ≤ _; omega, by show (0 : Nat) ≤ _; omega⟩
  clear hup3 hmv3 hsb
  go_region_held3 (fun w' => w'.cell? ⟨ub, 0, none⟩ = some (.slice Al low.length cl) ∧ w'.cell? ⟨ub, 1, none⟩ = some (.slice A2 n2 c2) ∧ w'.cell? ⟨pb, 0, none⟩ = some (.string p))
    (first | go_keep | exact ⟨hE9.cell b0, hE9.cell b1, hE9.cell hp3⟩ | exact ⟨hE10.cell b0, hE10.cell b1, hE10.cell hp3⟩ | exact ⟨hE11.cell b0, hE11.cell b1, hE11.cell hp3⟩)
    (first
      | (go_at_call 50; refine (HCl _ (by exact (by repeat (first | exact Ext.refl _ | assumption | refine Ext.alloc ?_ _ | refine Ext.drew ?_ | refine Ext.drewN ?_ _ | refine Ext.setCell ?_ (by first | omega | (simp; done) | (simp; omega)) _ | refine Ext.trans ?_ (by assumption))))).mono ?_; rintro e W9 ⟨v9, us9, rfl, hul9, hown9, hur9, hE9'⟩; have hE9 : Ext W3 W9 := Ext.trans (by exact (by repeat (first | exact Ext.refl _ | assumption | refine Ext.alloc ?_ _ | refine Ext.drew ?_ | refine Ext.drewN ?_ _ | refine Ext.setCell ?_ (by first | omega | (simp; done) | (simp; omega)) _ | refine Ext.trans ?_ (by assumption)))) hE9'; have Hul9 := Lib.hid hul9; clear hul9)
      | (go_at_call 136; refine (HSh _ _ hrk).mono ?_; rintro e W11 ⟨rfl, hE11'⟩; have hE11 : Ext W3 W11 := Ext.trans (by exact (by repeat (first | exact Ext.refl _ | assumption | refine Ext.alloc ?_ _ | refine Ext.drew ?_ | refine Ext.drewN ?_ _ | refine Ext.setCell ?_ (by first | omega | (simp; done) | (simp; omega)) _ | refine Ext.trans ?_ (by assumption)))) hE11')
      | (refine stepK (w := W9) rfl _ _ rfl _ _ us9.length us9 hown9 (by first | (simp [Act.eval]; done) | fail) ⟨W3.heap.size, 0, none⟩ 1 1 [.slice A2 n2 c2] (by first | (simp [Act.eval]; done) | fail) rfl (nB.out _ (Ext.trans (Ext.drew (Ext.refl _)) hE9')) (by simp [Value.oneCell']) (by rw [Hul9.out]; omega) (Ext.size hE9') ?_; intro v10 W10 hown10 hgrow10; have hE10' := Ext.grown (hE9') hgrow10 (fun i hi => (hown9.lt i hi).1); have hE10 : Ext W3 W10 := Ext.trans (by exact (by repeat (first | exact Ext.refl _ | assumption | refine Ext.alloc ?_ _ | refine Ext.drew ?_ | refine Ext.drewN ?_ _ | refine Ext.setCell ?_ (by first | omega | (simp; done) | (simp; omega)) _ | refine Ext.trans ?_ (by assumption)))) hE10'; have hrk := rdK_snoc hown10 Hul9.out (by omega) hur9 hE10' (hrd3.out _ hE10); obtain ⟨A10, c10, rfl⟩ := own_form hown10)
      | (refine stepK (w := W9.alloc (.cells #[.slice A2 n2 c2] 54)) rfl _ _ rfl _ _ us9.length us9 (own_ext hown9 ((Ext.refl W9).alloc _)) (by first | (simp [Act.eval]; done) | fail) ⟨W9.heap.size, 0, none⟩ 1 1 [.slice A2 n2 c2] (by first | (simp [Act.eval]; done) | fail) rfl (World.news_of_block (cs := #[.slice A2 n2 c2]) (t := 54) (fr := (0, 0)) (Blk.new W9 54 #[.slice A2 n2 c2])) (by simp [Value.oneCell']) (by rw [Hul9.out]; omega) (Ext.size (Ext.trans hE9' ((Ext.refl W9).alloc _))) ?_; intro v10 W10 hown10 hgrow10; have hE10' := Ext.grown (Ext.trans hE9' ((Ext.refl W9).alloc _)) hgrow10 (fun i hi => (hown9.lt i hi).1); have hE10 : Ext W3 W10 := Ext.trans (by exact (by repeat (first | exact Ext.refl _ | assumption | refine Ext.alloc ?_ _ | refine Ext.drew ?_ | refine Ext.drewN ?_ _ | refine Ext.setCell ?_ (by first | omega | (simp; done) | (simp; omega)) _ | refine Ext.trans ?_ (by assumption)))) hE10'; have hrk := rdK_snoc hown10 Hul9.out (by omega) hur9 hE10' (hrd3.out _ hE10); obtain ⟨A10, c10, rfl⟩ := own_form hown10))
  all_goals
    have hq11 := hE11.cell hp3
    rcases sb with _ | _
    · go_wp2
      go_end0
      rw [removeU, if_neg (by rw [Hsb.out]; simp)]
      exact ⟨rfl, _, Hup3.out.step hE11, Hmv3.out.trans (Moved.of_ext hE11)⟩
    · go_wp2_with (go_at_call 134; refine (HP.out _ hE11).mono ?_; rintro e W12 ⟨rfl, v12, hup12, hmv12⟩)
      go_end0
      rw [removeU, if_pos Hsb.out]
      exact ⟨rfl, v12, hup12, Hmv3.out.trans ((Moved.of_ext hE11).trans hmv12)⟩

set_option maxHeartbeats 8000000 in
set_option maxRecDepth 20000 in
theorem uMake_any {w0 w : World} {ub : Nat} {lv v : Value} {l : List Ent} (p : ByteArray) (ns : List ByteArray) (h : Up w0 ub lv v l w) (hl : l.length ≤ 9000) (hr : Rising l) (hn : names p = some ns) (h0 : ns ≠ []) :
    Calls Tryz.prog 91 #[.pointer (some ⟨ub, 0, none⟩), .string p] w (UpAns w0 ub lv v (makeU l p) w) := by
  have hps : p.size ≤ 55 := by
    obtain ⟨hv, rfl⟩ := ValN.of hn
    exact pathOf_size hv.1 hv.2
  have HA := fun (W : World) (he : Ext w W) => uAt_any p (h.step he) (by omega)
  have HP : ∀ (k : Int) W, Ext w W → Calls Tryz.prog 134 #[.pointer (some ⟨ub, 0, none⟩), .agg #[.string p, .int .i64 k, .string ⟨#[]⟩]] W (UpAns w0 ub lv v (putU l ⟨p, k, ⟨#[]⟩⟩) W) := fun k W he =>
    uPut_any ⟨p, k, ⟨#[]⟩⟩ ns (h.step he) (by omega) hr hn h0 ⟨by show p.size ≤ _; omega, by show (0 : Nat) ≤ _; omega⟩
  have HPh := Lib.hid HP
  have H := Lib.hid h
  have hmk : makeU l p = putU l ⟨p, if whiteB l p = true then 4 else 2, ⟨#[]⟩⟩ := rfl
  obtain ⟨R, hR⟩ : ∃ R, makeU l p = R := ⟨_, rfl⟩
  rw [hR] at hmk ⊢
  rcases hf : findT l p with _ | x
  · rw [idx_neg hf] at HA
    have hw : whiteB l p = false := by rw [whiteB, hf]
    rw [hw] at hmk
    have Hmk : Hid (R = putU l ⟨p, 2, ⟨#[]⟩⟩) := Lib.hid hmk
    have hlt1 : ¬ ((0 : Int) ≤ -1) := by decide
    obtain ⟨A, c, rfl⟩ := own_form h.row
    clear HP hf hw hmk hR h
    go_enter Tryz.func91, Tryz.ntmps91
    go_wp2_with (first
      | (go_at_call 133; refine (HA _ (Ext.refl _)).mono ?_; rintro e W1 ⟨rfl, hE1⟩)
      | (go_at_call 134; refine (HPh.out 2 _ hE1).mono ?_; rintro e W2 ⟨rfl, v2, hup2, hmv2⟩))
    go_end0
    rw [Hmk.out]
    exact ⟨rfl, v2, hup2, (Moved.of_ext hE1).trans hmv2⟩
  · obtain ⟨k, hk, hidx, hx⟩ := idxP_find hf
    rw [hidx] at HA
    obtain ⟨gb, cap, hvr⟩ : ∃ gb cap, v = .slice (some ⟨gb, 0, none⟩) l.length cap := by
      rcases h.row.2 with ⟨_, h1⟩ | ⟨gb, cap, cur, e, _⟩
      · omega
      · exact ⟨gb, cap, e⟩
    subst hvr
    have hj0 := ents_cells l k x (by rw [List.getElem?_eq_getElem hk, hx])
    have c1 : Hid (∀ W, Ext w W → W.cell? ⟨gb, k * 3 + 1, none⟩ = some (.int .i64 x.kind)) := Lib.hid fun W he => he.cell ((h.row.cellAt (k * 3 + 1) (by omega)).trans (hj0 1 _ rfl))
    have hge : (0 : Int) ≤ (k : Int) := by omega
    have hkl : (k : Int) < (l.length : Int) := by omega
    by_cases h3 : x.kind = 3
    · have hw : whiteB l p = true := by rw [whiteB, hf]; simp [h3]
      rw [hw] at hmk
      have Hmk : Hid (R = putU l ⟨p, 4, ⟨#[]⟩⟩) := Lib.hid hmk
      have h3' : (x.kind == 3) = true := by simpa using h3
      clear HP hf hw hmk hR h h3 hidx hx hj0
      go_enter Tryz.func91, Tryz.ntmps91
      go_wp2_with (first
        | (go_at_call 133; refine (HA _ (Ext.refl _)).mono ?_; rintro e W1 ⟨rfl, hE1⟩; have c1' := c1.out _ hE1; obtain ⟨⟨b0, _⟩, ⟨b1, _⟩⟩ := (H.out.step hE1).blk.two)
        | (go_at_call 134; refine (HPh.out 4 _ hE1).mono ?_; rintro e W2 ⟨rfl, v2, hup2, hmv2⟩))
      go_end0
      rw [Hmk.out]
      exact ⟨rfl, v2, hup2, (Moved.of_ext hE1).trans hmv2⟩
    · have hw : whiteB l p = false := by rw [whiteB, hf]; simp [h3]
      rw [hw] at hmk
      have Hmk : Hid (R = putU l ⟨p, 2, ⟨#[]⟩⟩) := Lib.hid hmk
      have h3' : (x.kind == 3) = false := by simpa using h3
      clear HP hf hw hmk hR h h3 hidx hx hj0
      go_enter Tryz.func91, Tryz.ntmps91
      go_wp2_with (first
        | (go_at_call 133; refine (HA _ (Ext.refl _)).mono ?_; rintro e W1 ⟨rfl, hE1⟩; have c1' := c1.out _ hE1; obtain ⟨⟨b0, _⟩, ⟨b1, _⟩⟩ := (H.out.step hE1).blk.two)
        | (go_at_call 134; refine (HPh.out 2 _ hE1).mono ?_; rintro e W2 ⟨rfl, v2, hup2, hmv2⟩))
      go_end0
      rw [Hmk.out]
      exact ⟨rfl, v2, hup2, (Moved.of_ext hE1).trans hmv2⟩

theorem dataT_size {t : List Ent} {p : ByteArray} : (dataT t p).size ≤ 256 := by
  rw [dataT]
  split
  · rename_i d hd
    obtain ⟨e, hf, rfl⟩ := readT_ok hd
    obtain ⟨ht, he, _, hk, _⟩ := fileT_ok hf
    exact entOk_data ((treeOk_iff.1 ht).2.2 e he).1 hk
  · decide

set_option maxHeartbeats 8000000 in
set_option maxRecDepth 20000 in
theorem uFile_any {w0 w : World} {ub : Nat} {lv v tv : Value} {l t : List Ent} (p : ByteArray) (ns : List ByteArray) (h : Up w0 ub lv v l w) (ht : RdE w0 tv t) (hl : l.length ≤ 10000) (hr : Rising l) (hn : names p = some ns) (h0 : ns ≠ []) :
    Calls Tryz.prog 93 #[.pointer (some ⟨ub, 0, none⟩), tv, .string p] w (UpAns w0 ub lv v (fileU t l p) w) := by
  have hps : p.size ≤ 55 := by
    obtain ⟨hv, rfl⟩ := ValN.of hn
    exact pathOf_size hv.1 hv.2
  have HP : ∀ (d : ByteArray) W, d.size ≤ 256 → Ext w W → Calls Tryz.prog 134 #[.pointer (some ⟨ub, 0, none⟩), .agg #[.string p, .int .i64 1, .string d]] W (UpAns w0 ub lv v (putU l ⟨p, 1, d⟩) W) := fun d W hd he =>
    uPut_any ⟨p, 1, d⟩ ns (h.step he) (by omega) hr hn h0 ⟨by show p.size ≤ _; omega, by show d.size ≤ _; omega⟩
  have HPh := Lib.hid HP
  have H := Lib.hid h
  have HR := tRead_any tv t p w (ht.ext h.ext) (by omega)
  have hds := dataT_size (t := t) (p := p)
  have hfile : fileU t l p = putU l ⟨p, 1, dataT t p⟩ := rfl
  obtain ⟨R, hR⟩ : ∃ R, fileU t l p = R := ⟨_, rfl⟩
  rw [hR] at hfile ⊢
  obtain ⟨A, c, rfl, _, _, _⟩ := rdE_form ht rfl
  rcases hd : readT t p with cc | d
  · rw [hd] at HR
    have hdt : dataT t p = ⟨#[]⟩ := by rw [dataT, hd]
    rw [hdt] at hfile
    have Hfile : Hid (R = putU l ⟨p, 1, ⟨#[]⟩⟩) := Lib.hid hfile
    clear HP h ht hd hdt hfile hR hds
    go_enter Tryz.func93, Tryz.ntmps93
    go_wp2_with (first
      | (go_at_call 35; refine HR.mono ?_; rintro e W1 ⟨v1, rfl, hv1, hE1⟩)
      | (go_at_call 134; refine (HPh.out ⟨#[]⟩ _ (by decide) hE1).mono ?_; rintro e W2 ⟨rfl, v2, hup2, hmv2⟩))
    go_end0
    rw [Hfile.out]
    exact ⟨rfl, v2, hup2, (Moved.of_ext hE1).trans hmv2⟩
  · rw [hd] at HR
    have hdt : dataT t p = d := by rw [dataT, hd]
    rw [hdt] at hfile hds
    have Hfile : Hid (R = putU l ⟨p, 1, d⟩) := Lib.hid hfile
    clear HP h ht hd hdt hfile hR
    go_enter Tryz.func93, Tryz.ntmps93
    go_wp2_with (first
      | (go_at_call 35; refine HR.mono ?_; rintro e W1 ⟨rfl, hE1⟩)
      | (go_at_call 134; refine (HPh.out d _ hds hE1).mono ?_; rintro e W2 ⟨rfl, v2, hup2, hmv2⟩))
    go_end0
    rw [Hfile.out]
    exact ⟨rfl, v2, hup2, (Moved.of_ext hE1).trans hmv2⟩
end Go.Proofs.YtneefmgidplbcaaGreatDoor

/-! Pins -/
namespace Go.Proofs.YtneefmgidplbcaaGreatDoor
open Go Go.RowKit Go.Shelf Go.Proofs Go.Maps

/-- Handles: number, data, the slice of texts. -/
abbrev LH := List (Int × ByteArray × Value)
def TabH (l : LH) : DataW Value := Tab (l.map fun x => (x.1, .agg #[.string x.2.1, x.2.2]))
def findH (l : LH) (id : Int) : Option (ByteArray × Value) := (l.find? fun x => decide (x.1 = id)).map (·.2)
def heldV : Option (ByteArray × Value) → Value
  | none => .agg #[.string ⟨#[]⟩, .slice none 0 0]
  | some x => .agg #[.string x.1, x.2]
/-- A table in memory: its own block, the map's, the last number, the handles. -/
structure PT (w : World) (tb bm n : Nat) (last : Int) (l : LH) : Prop where
  box : Blk w tb 82 #[.map (some bm), .int .i64 last]
  own : w.ownsMap Tryz.prog 3 RH bm n (TabH l)
  ne : tb ≠ bm

/-- The table's two blocks. -/
def Two (tb bm : Nat) (k : Nat) : Prop := k = tb ∨ k = bm

theorem PT.but {w w' : World} {tb bm n : Nat} {last : Int} {l : LH} {S : Nat → Prop} (h : PT w tb bm n last l) (hb : But S w w') (h1 : ¬ S tb) (h2 : ¬ S bm) : PT w' tb bm n last l := by
  refine ⟨h.box.but hb h1, ?_, h.ne⟩
  obtain ⟨es, clock, hh, r⟩ := h.own
  exact ⟨es, clock, (hb.block bm h.own.lt h2).trans hh, r⟩
theorem PT.ext {w w' : World} {tb bm n : Nat} {last : Int} {l : LH} (h : PT w tb bm n last l) (hb : Ext w w') : PT w' tb bm n last l :=
  h.but (S := fun _ => False) (.of_ext hb) id id

theorem law_int : Keyed Tryz.prog 3 := int_keyed Tryz.underlying3
theorem zero_handle (w : World) : (zeroValue 84).run Tryz.prog w = .ok (.agg #[.string ⟨#[]⟩, .slice none 0 0]) w := by kernel_rfl

theorem tabH_at (l : LH) (id : Int) : (TabH l).atKey (.int .i64 id) (.held (heldV none)) = .held (heldV (findH l id)) := by
  rw [TabH, tab_at]
  congr 1
  rw [findH, List.find?_map]
  cases h : List.find? (fun x => decide (x.1 = id)) l with
  | none =>
    have : List.find? ((fun x => decide (x.1 = id)) ∘ fun x : Int × ByteArray × Value => (x.1, Value.agg #[.string x.2.1, x.2.2])) l = none := h
    rw [this]; rfl
  | some x =>
    have : List.find? ((fun x => decide (x.1 = id)) ∘ fun x : Int × ByteArray × Value => (x.1, Value.agg #[.string x.2.1, x.2.2])) l = some x := h
    rw [this]; rfl
theorem tabH_has (l : LH) (id : Int) : Maps.has (TabH l) (.int .i64 id) = (findH l id).isSome := by
  rw [TabH, tab_has, findH, List.find?_map, Option.isSome_map, Option.isSome_map]
  rfl

theorem lookH {ops : Array Oper} {rest : List Oper} {o : Oper} {a : Act} {Q : Exit → Act → World → Prop} (w : World) (hg : o.guard = none) (m x : Operand) (hop : o.op = Op.lookup 80 m x true)
    (bm n : Nat) (l : LH) (hm : a.eval m = .map (some bm)) (hown : w.ownsMap Tryz.prog 3 RH bm n (TabH l)) (id : Int) (hx : a.eval x = .int .i64 id) (hw : (Lit.int .i64 id).wf = true)
    (v : Value) (ok : Bool) (hv : heldV (findH l id) = v) (hok : (findH l id).isSome = ok)
    (hK : wpList Tryz.prog ops Q rest (a.put o.dst (.tuple #[v, .bool ok])) w) : wpList Tryz.prog ops Q (o :: rest) a w := by
  refine wpList_lookup_own_ok w hg m x _ hop 3 84 law_int Tryz.underlying80 RH (zero_handle w) (.held (heldV none)) [] rfl bm n (TabH l) hm hown _ (.int .i64 id) hx (keyOf_int_mk Tryz.underlying3 hw) ?_
  intro u ps hu
  rw [tabH_at] at hu
  rw [tabH_has, hok]
  have : u = v := by
    rw [← hv]
    simp [RH] at hu
    exact hu.1
  rw [this]
  exact hK

/-- What has answers. -/
def HasNo (w : World) (e : Ending) (w' : World) : Prop := ∃ a, e = .returned (.tuple #[.agg #[.string ⟨#[]⟩, .slice none 0 0], .iface 135 (.pointer (some ⟨a, 0, none⟩))]) ∧ ErrN w' 1 (.iface 135 (.pointer (some ⟨a, 0, none⟩))) 14 ∧ Ext w w'
def HasYes (d : ByteArray) (r : Value) (w : World) (e : Ending) (w' : World) : Prop := e = .returned (.tuple #[.agg #[.string d, r], .nilIface]) ∧ Ext w w'

set_option maxHeartbeats 4000000 in
theorem has_no (tb bm n : Nat) (last id : Int) (l : LH) (w : World) (ht : PT w tb bm n last l) (hw : (Lit.int .i64 id).wf = true) (hf : findH l id = none) :
    Calls Tryz.prog 37 #[.pointer (some ⟨tb, 0, none⟩), .int .i64 id] w (HasNo w) := by
  go_enter Tryz.func37, Tryz.ntmps37
  go_upto_region 1 with (fail)
  have hR := Blk.new w 84 #[.string ⟨#[]⟩, .slice none 0 0]
  have hE1 := (Ext.refl w).alloc (.cells #[.string ⟨#[]⟩, .slice none 0 0] 84)
  obtain ⟨rb, hrb⟩ : ∃ rb, w.heap.size = rb := ⟨_, rfl⟩
  have hle : w.heap.size ≤ rb := by omega
  rw [hrb] at hR
  rw [hrb]
  have Hrb := Lib.hid hrb
  clear hrb
  generalize w.alloc (.cells #[.string ⟨#[]⟩, .slice none 0 0] 84) = W1 at hR hE1 ⊢
  have ht1 := ht.ext hE1
  have h0 := ht1.box.cell 0 rfl
  have hown := ht1.own
  clear ht1 ht
  go_wp2_with (first | (at_lookup; refine lookH _ rfl _ _ rfl bm n l rfl hown id rfl hw (heldV none) false (by rw [hf]) (by rw [hf]; rfl) ?_; simp only [heldV]) | (go_at_call 38; refine (fail_At_c _ _ _ _).mono ?_; rintro e W3 ⟨⟨a5, rfl, hEr⟩, hE3⟩; obtain ⟨⟨c0, d0⟩, ⟨c1, d1⟩⟩ := (hR.ext (Ext.trans (by exact (by repeat (first | exact Ext.refl _ | assumption | refine Ext.alloc ?_ _ | refine Ext.drew ?_ | refine Ext.drewN ?_ _ | refine Ext.setCell ?_ (by first | omega | (simp; done) | (simp; omega)) _ | refine Ext.trans ?_ (by assumption)))) hE3)).two))
  rw [setCell_same c0, setCell_same c1]
  refine bodyPost_ret (v := .tuple #[.agg #[.string ⟨#[]⟩, .slice none 0 0], .iface 135 (.pointer (some ⟨a5, 0, none⟩))]) (by simp [results, Tryz.f37, go_sem, c0, c1]) rfl ?_
  exact ⟨_, rfl, hEr, Ext.trans (by exact (by repeat (first | exact Ext.refl _ | assumption | refine Ext.alloc ?_ _ | refine Ext.drew ?_ | refine Ext.drewN ?_ _ | refine Ext.setCell ?_ (by first | omega | (simp; done) | (simp; omega)) _ | refine Ext.trans ?_ (by assumption)))) hE3⟩

set_option maxHeartbeats 4000000 in
theorem has_yes (tb bm n : Nat) (last id : Int) (l : LH) (d : ByteArray) (A : Option Addr) (m c : Nat) (w : World) (ht : PT w tb bm n last l) (hw : (Lit.int .i64 id).wf = true) (hf : findH l id = some (d, .slice A m c)) :
    Calls Tryz.prog 37 #[.pointer (some ⟨tb, 0, none⟩), .int .i64 id] w (HasYes d (.slice A m c) w) := by
  go_enter Tryz.func37, Tryz.ntmps37
  go_upto_region 1 with (fail)
  have hR := Blk.new w 84 #[.string ⟨#[]⟩, .slice none 0 0]
  have hE1 := (Ext.refl w).alloc (.cells #[.string ⟨#[]⟩, .slice none 0 0] 84)
  obtain ⟨rb, hrb⟩ : ∃ rb, w.heap.size = rb := ⟨_, rfl⟩
  have hle : w.heap.size ≤ rb := by omega
  rw [hrb] at hR
  rw [hrb]
  have Hrb := Lib.hid hrb
  clear hrb
  generalize w.alloc (.cells #[.string ⟨#[]⟩, .slice none 0 0] 84) = W1 at hR hE1 ⊢
  have ht1 := ht.ext hE1
  have h0 := ht1.box.cell 0 rfl
  have hown := ht1.own
  obtain ⟨⟨c0, d0⟩, ⟨c1, d1⟩⟩ := hR.two
  have hlt := hR.lt
  have hne : rb ≠ W1.heap.size := by omega
  clear ht1 ht
  go_wp2_with (at_lookup; refine lookH _ rfl _ _ rfl bm n l rfl hown id rfl hw (heldV (some (d, .slice A m c))) true (by rw [hf]) (by rw [hf]; rfl) ?_; simp only [heldV])
  refine bodyPost_ret (v := .tuple #[.agg #[.string d, .slice A m c], .nilIface]) (by simp [results, Tryz.f37, go_sem, c0, c1, hlt]) rfl ?_
  exact ⟨rfl, (by repeat (first | exact Ext.refl _ | assumption | refine Ext.alloc ?_ _ | refine Ext.drew ?_ | refine Ext.drewN ?_ _ | refine Ext.setCell ?_ (by first | omega | (simp; done) | (simp; omega)) _ | refine Ext.trans ?_ (by assumption)))⟩

set_option maxHeartbeats 2000000 in
theorem Count_any (tb bm n : Nat) (last : Int) (l : LH) (w : World) (ht : PT w tb bm n last l) :
    Calls Tryz.prog 20 #[.pointer (some ⟨tb, 0, none⟩)] w fun e w' => e = .returned (.int .i64 l.length) ∧ w = w' := by
  have h0 := ht.box.cell 0 rfl
  have hown := ht.own
  have hsz : Maps.size (TabH l) = l.length := by rw [TabH, tab_size, List.length_map]
  clear ht
  go_enter Tryz.func20, Tryz.ntmps20
  go_wp2_with (at_len; refine wpList_len_own _ rfl _ _ rfl 3 84 Tryz.underlying80 RH bm n (TabH l) rfl hown ?_; rw [hsz])
  go_ret
  exact ⟨rfl, rfl⟩

set_option maxHeartbeats 2000000 in
theorem New_any (w : World) :
    Calls Tryz.prog 10 #[] w fun e w' => ∃ tb bm, e = .returned (.pointer (some ⟨tb, 0, none⟩)) ∧ PT w' tb bm 0 0 [] ∧ w.heap.size ≤ tb ∧ w.heap.size ≤ bm ∧ Ext w w' := by
  have hmm := @run_makeMap Tryz.prog
  go_enter Tryz.func10, Tryz.ntmps10
  go_wp2
  go_ret
  have hb := Blk.new (w.alloc (.map #[] 0)) 82 #[.map (some w.heap.size), .int .i64 0]
  rw [World.size_alloc] at hb
  exact ⟨w.heap.size + 1, w.heap.size, rfl, ⟨hb, (World.ownsMap_made w _ _ _).alloc _, by omega⟩, by omega, by omega, (by repeat (first | exact Ext.refl _ | assumption | refine Ext.alloc ?_ _ | refine Ext.drew ?_ | refine Ext.drewN ?_ _ | refine Ext.setCell ?_ (by first | omega | (simp; done) | (simp; omega)) _ | refine Ext.trans ?_ (by assumption)))⟩

/-- What Read answers. -/
def ReadBad (c : Int) (w : World) (e : Ending) (w' : World) : Prop := ∃ a, e = .returned (.tuple #[.string ⟨#[]⟩, .iface 135 (.pointer (some ⟨a, 0, none⟩))]) ∧ ErrN w' 1 (.iface 135 (.pointer (some ⟨a, 0, none⟩))) c ∧ Ext w w'
def ReadOk (x : ByteArray) (w : World) (e : Ending) (w' : World) : Prop := e = .returned (.tuple #[.string x, .nilIface]) ∧ Ext w w'

set_option maxHeartbeats 4000000 in
theorem read_no (tb bm n : Nat) (last id at_ k : Int) (l : LH) (w : World) (ht : PT w tb bm n last l) (hw : (Lit.int .i64 id).wf = true) (hf : findH l id = none) :
    Calls Tryz.prog 11 #[.pointer (some ⟨tb, 0, none⟩), .int .i64 id, .int .i64 at_, .int .i64 k] w (ReadBad 14 w) := by
  have HH := fun w h => has_no tb bm n last id l w h hw hf
  have Ht := Lib.hid ht
  clear ht hf
  go_enter Tryz.func11, Tryz.ntmps11
  go_wp2_with (go_at_call 37; refine (HH _ Ht.out).mono ?_; rintro e W1 ⟨a5, rfl, hEr, hE1⟩)
  go_ret2
  exact ⟨_, rfl, hEr.below ((Ext.refl W1).alloc _).below, (by repeat (first | exact Ext.refl _ | assumption | refine Ext.alloc ?_ _ | refine Ext.drew ?_ | refine Ext.drewN ?_ _ | refine Ext.setCell ?_ (by first | omega | (simp; done) | (simp; omega)) _ | refine Ext.trans ?_ (by assumption)))⟩

set_option maxHeartbeats 4000000 in
theorem read_neg (tb bm n : Nat) (last id at_ k : Int) (l : LH) (d : ByteArray) (A : Option Addr) (m c : Nat) (w : World) (ht : PT w tb bm n last l) (hw : (Lit.int .i64 id).wf = true) (hf : findH l id = some (d, .slice A m c)) (hneg : at_ < 0 ∨ k < 0) :
    Calls Tryz.prog 11 #[.pointer (some ⟨tb, 0, none⟩), .int .i64 id, .int .i64 at_, .int .i64 k] w (ReadBad 1 w) := by
  have HH := fun w h => has_yes tb bm n last id l d A m c w h hw hf
  have Ht := Lib.hid ht
  clear ht hf
  go_enter Tryz.func11, Tryz.ntmps11
  by_cases hn : at_ < 0
  · go_wp2_with (first | (go_at_call 37; refine (HH _ Ht.out).mono ?_; rintro e W1 ⟨rfl, hE1⟩) | (go_at_call 38; refine (fail_At_c _ _ _ _).mono ?_; rintro e W3 ⟨⟨a5, rfl, hEr⟩, hE3⟩))
    go_ret2
    exact ⟨_, rfl, hEr, Ext.trans (by exact (by repeat (first | exact Ext.refl _ | assumption | refine Ext.alloc ?_ _ | refine Ext.drew ?_ | refine Ext.drewN ?_ _ | refine Ext.setCell ?_ (by first | omega | (simp; done) | (simp; omega)) _ | refine Ext.trans ?_ (by assumption)))) hE3⟩
  · have hk : k < 0 := by omega
    go_wp2_with (first | (go_at_call 37; refine (HH _ Ht.out).mono ?_; rintro e W1 ⟨rfl, hE1⟩) | (go_at_call 38; refine (fail_At_c _ _ _ _).mono ?_; rintro e W3 ⟨⟨a5, rfl, hEr⟩, hE3⟩))
    go_ret2
    exact ⟨_, rfl, hEr, Ext.trans (by exact (by repeat (first | exact Ext.refl _ | assumption | refine Ext.alloc ?_ _ | refine Ext.drew ?_ | refine Ext.drewN ?_ _ | refine Ext.setCell ?_ (by first | omega | (simp; done) | (simp; omega)) _ | refine Ext.trans ?_ (by assumption)))) hE3⟩

/-- A part of a text. -/
def part (d : ByteArray) (i n : Nat) : ByteArray := B ((d.data.toList.drop i).take n)

theorem part_is (d : ByteArray) (i k : Nat) : (d.extract (min (i : Int) (d.size : Int)).toNat d.size).extract 0 (min (k : Int) ((d.size - (min (i : Int) (d.size : Int)).toNat : Nat) : Int)).toNat = part d i k := by
  have e1 : (min (i : Int) (d.size : Int)).toNat = min i d.size := by omega
  rw [e1]
  have e2 : (min (k : Int) ((d.size - min i d.size : Nat) : Int)).toNat = min k (d.size - min i d.size) := by omega
  rw [e2]
  apply data_inj
  rw [part, toList_B, ByteArray.data_extract, ByteArray.data_extract, Array.toList_extract, Array.toList_extract, List.extract_eq_take_drop, List.extract_eq_take_drop]
  have hs : d.size = d.data.toList.length := rfl
  rw [hs]
  generalize d.data.toList = l
  apply List.ext_getElem?
  intro j
  simp only [List.getElem?_take, List.getElem?_drop]
  rcases Nat.lt_or_ge i l.length with h | h
  · have e3 : min i l.length = i := by omega
    rw [e3]
    rcases Nat.lt_or_ge (i + j) l.length with h2 | h2
    · by_cases hk : j < k
      · rw [if_pos (by omega), if_pos (by omega), if_pos hk, Nat.zero_add]
      · rw [if_neg (by omega), if_neg hk]
    · rw [List.getElem?_eq_none (l := l) (i := i + j) h2]
      by_cases h3 : j < min k (l.length - i) - 0
      · omega
      · rw [if_neg h3]
        split <;> rfl
  · have e3 : min i l.length = l.length := by omega
    rw [e3, if_neg (by omega), List.getElem?_eq_none (l := l) (i := i + j) (by omega)]
    split <;> rfl

set_option maxHeartbeats 4000000 in
theorem read_yes (tb bm n : Nat) (last id : Int) (i k : Nat) (l : LH) (d : ByteArray) (A : Option Addr) (m c : Nat) (w : World) (ht : PT w tb bm n last l) (hw : (Lit.int .i64 id).wf = true) (hf : findH l id = some (d, .slice A m c)) :
    Calls Tryz.prog 11 #[.pointer (some ⟨tb, 0, none⟩), .int .i64 id, .int .i64 i, .int .i64 k] w (ReadOk (part d i k) w) := by
  have HH := fun w h => has_yes tb bm n last id l d A m c w h hw hf
  have Ht := Lib.hid ht
  clear ht hf
  go_enter Tryz.func11, Tryz.ntmps11
  go_wp2_with (go_at_call 37; refine (HH _ Ht.out).mono ?_; rintro e W1 ⟨rfl, hE1⟩)
  go_ret2
  exact ⟨by rw [← part_is d i k]; rfl, (by repeat (first | exact Ext.refl _ | assumption | refine Ext.alloc ?_ _ | refine Ext.drew ?_ | refine Ext.drewN ?_ _ | refine Ext.setCell ?_ (by first | omega | (simp; done) | (simp; omega)) _ | refine Ext.trans ?_ (by assumption)))⟩

/-- What Close answers. -/
def CloseBad (w : World) (e : Ending) (w' : World) : Prop := ∃ a, e = .returned (.tuple #[.slice none 0 0, .iface 135 (.pointer (some ⟨a, 0, none⟩))]) ∧ ErrN w' 1 (.iface 135 (.pointer (some ⟨a, 0, none⟩))) 14 ∧ Ext w w'
def CloseOk (tb bm n : Nat) (last : Int) (l : LH) (r : Value) (w : World) (e : Ending) (w' : World) : Prop := e = .returned (.tuple #[r, .nilIface]) ∧ PT w' tb bm n last l ∧ But (Two tb bm) w w'

set_option maxHeartbeats 4000000 in
theorem close_no (tb bm n : Nat) (last id : Int) (l : LH) (w : World) (ht : PT w tb bm n last l) (hw : (Lit.int .i64 id).wf = true) (hf : findH l id = none) :
    Calls Tryz.prog 14 #[.pointer (some ⟨tb, 0, none⟩), .int .i64 id] w (CloseBad w) := by
  have HH := fun w h => has_no tb bm n last id l w h hw hf
  have Ht := Lib.hid ht
  clear ht hf
  go_enter Tryz.func14, Tryz.ntmps14
  go_wp2_with (go_at_call 37; refine (HH _ Ht.out).mono ?_; rintro e W1 ⟨a5, rfl, hEr, hE1⟩)
  go_ret2
  exact ⟨_, rfl, hEr.below ((Ext.refl W1).alloc _).below, (by repeat (first | exact Ext.refl _ | assumption | refine Ext.alloc ?_ _ | refine Ext.drew ?_ | refine Ext.drewN ?_ _ | refine Ext.setCell ?_ (by first | omega | (simp; done) | (simp; omega)) _ | refine Ext.trans ?_ (by assumption)))⟩

theorem tabH_del (l : LH) (id : Int) : (TabH l).del (.int .i64 id) = TabH (l.filter fun x => !decide (x.1 = id)) := by
  rw [TabH, tab_del, TabH, List.filter_map]
  rfl

set_option maxHeartbeats 4000000 in
theorem close_yes (tb bm n : Nat) (last id : Int) (l : LH) (d : ByteArray) (A : Option Addr) (m c : Nat) (w : World) (ht : PT w tb bm n last l) (hw : (Lit.int .i64 id).wf = true) (hf : findH l id = some (d, .slice A m c)) :
    Calls Tryz.prog 14 #[.pointer (some ⟨tb, 0, none⟩), .int .i64 id] w (CloseOk tb bm n last (l.filter fun x => !decide (x.1 = id)) (.slice A m c) w) := by
  have HH := fun w h => has_yes tb bm n last id l d A m c w h hw hf
  have Ht := Lib.hid ht
  clear ht hf
  go_enter Tryz.func14, Tryz.ntmps14
  go_upto_region 4 with (go_at_call 37; refine (HH _ Ht.out).mono ?_; rintro e W1 ⟨rfl, hE1⟩)
  have hX := Blk.new W1 84 #[.string d, .slice A m c]
  have hE2 := hE1.alloc (.cells #[.string d, .slice A m c] 84)
  have ht2 := Ht.out.ext hE2
  have hxb : W1.heap.size ≠ bm := by have := (Ht.out.ext hE1).own.lt; omega
  obtain ⟨xb, hx⟩ : ∃ xb, W1.heap.size = xb := ⟨_, rfl⟩
  rw [hx] at hX hxb ⊢
  clear hx
  generalize W1.alloc (.cells #[.string d, .slice A m c] 84) = W2 at hX hE2 ht2 ⊢
  have h0 := ht2.box.cell 0 rfl
  have hown := ht2.own
  have Ht2 := Lib.hid ht2
  clear ht2
  go_wp2_with (at_delete; refine wpList_delete_own _ rfl _ _ _ _ rfl 84 law_int Tryz.underlying80 RH bm n (TabH l) rfl hown _ _ rfl (keyOf_int_mk Tryz.underlying3 hw) ?_; intro W3 hown3 hturn; have hB : But (Two tb bm) W2 W3 := (But.refl _ W2).grown hturn.grown (by intro k hk; cases hk; exact .inl (.inr rfl)); have hX3 := (hX.but (S := fun k => k = bm) ((But.refl _ W2).grown hturn.grown (by intro k hk; cases hk; exact .inl rfl)) hxb).cell 1 rfl)
  go_ret2
  have hbox := Ht2.out.box.but (S := fun k => k = bm) ((But.refl _ W2).grown hturn.grown (by intro k hk; cases hk; exact .inl rfl)) Ht2.out.ne
  exact ⟨rfl, ⟨hbox, by rw [← tabH_del]; exact hown3, Ht2.out.ne⟩, (But.of_ext hE2).trans hB⟩
end Go.Proofs.YtneefmgidplbcaaGreatDoor
