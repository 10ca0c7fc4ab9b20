/- shalelaw11.TreeStays is true. -/
import Derived.Test.YtgemdfobkockaaaGreatDoorFew
import Derived.Lib.SliceRun
import Derived.Test.YtgemdfobkockaaaGreatDoorListArg
import Derived.Test.YtgemdfobkockaaaGreatDoorTBacks
namespace Go.Proofs.YtgemdfobkockaaaGreatDoor
section
open Go Go.RowKit Go.Shelf Go.Proofs

structure OpT where
  act : Int
  p : ByteArray
  q : ByteArray
  n : Int
  s : ByteArray

def OpT.fits (x : OpT) : Prop := x.p.size ≤ 140737488355328 ∧ x.q.size ≤ 140737488355328 ∧ x.s.size ≤ 140737488355328
def RO (_ : World) (x : OpT) (cs : List Value) : Prop := cs = [.int .i64 x.act, .string x.p, .string x.q, .int .i64 x.n, .string x.s] ∧ x.fits
theorem RO.stays : Stays RO := fun _ _ _ _ _ h => h
abbrev RdO := Rd RO 5

theorem rdO_form {w : World} {v : Value} {l : List OpT} {n : Nat} (hv : RdO w v l) (hn : n = l.length) :
    ∃ A c, v = .slice A n c ∧ n ≤ c ∧ c ≤ 9223372036854775807 ∧ Hid (l ≠ [] → ∃ b o, A = some ⟨b, o, none⟩ ∧
      ∀ (j : Nat) (h : j < l.length), w.cell? ⟨b, o + j * 5, Option.none⟩ = some (.int .i64 l[j].act) ∧ w.cell? ⟨b, o + j * 5 + 1, Option.none⟩ = some (.string l[j].p) ∧ w.cell? ⟨b, o + j * 5 + 2, Option.none⟩ = some (.string l[j].q) ∧ w.cell? ⟨b, o + j * 5 + 3, Option.none⟩ = some (.int .i64 l[j].n) ∧ w.cell? ⟨b, o + j * 5 + 4, Option.none⟩ = some (.string l[j].s) ∧ l[j].fits) := by
  by_cases h0 : l = []
  · obtain ⟨A, c, e, h1, h2, _⟩ := hv
    rw [← hn] at e h1
    exact ⟨A, c, e, h1, h2, Lib.hid fun h => absurd h0 h⟩
  · obtain ⟨b, o, c, e, h1, h2, hc⟩ := Rd.open_ hv h0
    rw [← hn] at e h1
    refine ⟨_, c, e, h1, h2, Lib.hid fun _ => ⟨b, o, rfl, fun j hj => ?_⟩⟩
    obtain ⟨cs, ⟨hr, hf⟩, hu⟩ := hc j l[j] (List.getElem?_eq_getElem hj)
    subst hr
    exact ⟨hu 0 _ rfl, hu 1 _ rfl, hu 2 _ rfl, hu 3 _ rfl, hu 4 _ rfl, hf⟩

def opSmall (x : OpT) : Bool := decide (x.p.size ≤ 100) && (decide (x.q.size ≤ 100) && decide (x.s.size ≤ 600))

set_option maxHeartbeats 4000000 in
set_option maxRecDepth 20000 in
theorem OFew_any (x : OpT) (w : World) :
    Calls Tryz.prog 49 #[.agg #[.int .i64 x.act, .string x.p, .string x.q, .int .i64 x.n, .string x.s]] w fun e w' => e = .returned (.int .i64 (oneI (opSmall x))) ∧ Ext w w' := by
  obtain ⟨act, p, q, n, s⟩ := x
  rcases hb : opSmall ⟨act, p, q, n, s⟩ with _ | _
  · by_cases h1 : (100 : Int) < p.size
    · clear hb
      go_enter Tryz.func49, Tryz.ntmps49
      go_wp2
      go_ret
      exact ⟨rfl, (by repeat (first | exact Ext.refl _ | assumption | refine Ext.alloc ?_ _ | refine Ext.drew ?_ | refine Ext.drewN ?_ _ | refine Ext.setCell ?_ (by first | omega | (simp; done) | (simp; omega)) _ | refine Ext.trans ?_ (by assumption)))⟩
    · by_cases h2 : (100 : Int) < q.size
      · clear hb
        go_enter Tryz.func49, Tryz.ntmps49
        go_wp2
        go_ret
        exact ⟨rfl, (by repeat (first | exact Ext.refl _ | assumption | refine Ext.alloc ?_ _ | refine Ext.drew ?_ | refine Ext.drewN ?_ _ | refine Ext.setCell ?_ (by first | omega | (simp; done) | (simp; omega)) _ | refine Ext.trans ?_ (by assumption)))⟩
      · have h3 : (600 : Int) < s.size := by
          simp [opSmall] at hb
          omega
        clear hb
        go_enter Tryz.func49, Tryz.ntmps49
        go_wp2
        go_ret
        exact ⟨rfl, (by repeat (first | exact Ext.refl _ | assumption | refine Ext.alloc ?_ _ | refine Ext.drew ?_ | refine Ext.drewN ?_ _ | refine Ext.setCell ?_ (by first | omega | (simp; done) | (simp; omega)) _ | refine Ext.trans ?_ (by assumption)))⟩
  · simp [opSmall] at hb
    obtain ⟨h1, h2, h3⟩ := hb
    have h1' : ¬ (100 : Int) < p.size := by omega
    have h2' : ¬ (100 : Int) < q.size := by omega
    have h3' : ¬ (600 : Int) < s.size := by omega
    clear h1 h2 h3
    go_enter Tryz.func49, Tryz.ntmps49
    go_wp2
    go_ret
    exact ⟨rfl, (by repeat (first | exact Ext.refl _ | assumption | refine Ext.alloc ?_ _ | refine Ext.drew ?_ | refine Ext.drewN ?_ _ | refine Ext.setCell ?_ (by first | omega | (simp; done) | (simp; omega)) _ | refine Ext.trans ?_ (by assumption)))⟩

theorem and1023 (z : Int) : ∃ m : Nat, m < 1024 ∧ bits .and .i64 z 1023 = (m : Int) := by
  have hlt : ((BitVec.ofInt 64 z) &&& (BitVec.ofInt 64 1023)).toNat < 1024 := by
    rw [BitVec.toNat_and]
    exact Nat.lt_of_le_of_lt Nat.and_le_right (by decide)
  refine ⟨((BitVec.ofInt 64 z) &&& (BitVec.ofInt 64 1023)).toNat, hlt, ?_⟩
  have h : bits .and .i64 z 1023 = IntKind.i64.wrap (((BitVec.ofInt 64 z) &&& (BitVec.ofInt 64 1023)).toNat : Int) := rfl
  rw [h, IntWalk.i64_in _ ⟨by omega, by omega⟩]

set_option maxHeartbeats 4000000 in
set_option maxRecDepth 20000 in
theorem OOf_any (x : OpT) (w : World) :
    Calls Tryz.prog 51 #[.agg #[.int .i64 x.act, .string x.p, .string x.q, .int .i64 x.n, .string x.s]] w fun e w' => (∃ m : Nat, m < 7 ∧ e = .returned (.agg #[.int .i64 m, .string x.p, .string x.q, .int .i64 x.n, .string x.s])) ∧ Ext w w' := by
  obtain ⟨m, hm, hand⟩ := and1023 x.act
  have hrem : Int.tmod (m : Int) 7 = ((m % 7 : Nat) : Int) := by rw [Int.tmod_eq_emod_of_nonneg (by omega)]; omega
  have hwr : IntKind.i64.wrap ((m % 7 : Nat) : Int) = ((m % 7 : Nat) : Int) := IntWalk.i64_in _ ⟨by omega, by omega⟩
  go_enter Tryz.func51, Tryz.ntmps51
  go_wp2
  refine bodyPost_ret (v := .agg #[.int .i64 ((m % 7 : Nat) : Int), .string x.p, .string x.q, .int .i64 x.n, .string x.s]) (by simp [results, Tryz.f51, go_sem]) rfl ?_
  exact ⟨⟨m % 7, Nat.mod_lt _ (by decide), rfl⟩, (by repeat (first | exact Ext.refl _ | assumption | refine Ext.alloc ?_ _ | refine Ext.drew ?_ | refine Ext.drewN ?_ _ | refine Ext.setCell ?_ (by first | omega | (simp; done) | (simp; omega)) _ | refine Ext.trans ?_ (by assumption)))⟩
end

section
open Go.ChangeShapes Go.WideShapes Go.RowKit Go

theorem Tryz.cellsOp : Tryz.prog.cellsOf 89 = 5 := by kernel_rfl
set_option maxRecDepth 20000 in
set_option maxHeartbeats 4000000 in
theorem op_trod {H : Type} {enc : TypeId × Value → H} {w : World} {base : Nat} {spare : Nat → Bool} {held : Bool} {n : Nat} {cs : List Value} {d : DataW H} {pl : List MemPlace}
    (h : DataW.trod enc Tryz.prog w base spare held n 89 cs = some (d, pl)) (hw : FitD 89 d) : ∃ x : OpT, RO w x cs := by
  obtain ⟨xs, m, _, hxe, hl, hx, hf⟩ := DataW.trod_struct Tryz.underlying89 h
  rw [Tryz.cellsOp] at hl
  match cs, hl with
  | [c0, c1, c2, c3, c4], _ =>
    have g0 := hf 0 _ rfl
    have g1 := hf 1 _ rfl
    have g2 := hf 2 _ rfl
    have g3 := hf 3 _ rfl
    have g4 := hf 4 _ rfl
    match xs, hx with
    | [y0, y1, y2, y3, y4], _ =>
      simp [Tryz.cellsStrL, Tryz.cellsIntL] at g0 g1 g2 g3 g4
      obtain ⟨z0, e0, x0, _⟩ := DataW.trod_int Tryz.underlying3 g0
      obtain ⟨s1, e1, x1, _⟩ := DataW.trod_string Tryz.underlying9 g1
      obtain ⟨s2, e2, x2, _⟩ := DataW.trod_string Tryz.underlying9 g2
      obtain ⟨z3, e3, x3, _⟩ := DataW.trod_int Tryz.underlying3 g3
      obtain ⟨s4, e4, x4, _⟩ := DataW.trod_string Tryz.underlying9 g4
      cases e0
      cases e1
      cases e2
      cases e3
      cases e4
      subst x0
      subst x1
      subst x2
      subst x3
      subst x4
      cases hxe
      have hr := reachBytes_lt
      have k1 : s1.data.toList.length ≤ reachBytes := hw _ (by
        rw [DataW.weights, Tryz.underlying89]
        simp [DataW.weightsEach, DataW.weights])
      have k2 : s2.data.toList.length ≤ reachBytes := hw _ (by
        rw [DataW.weights, Tryz.underlying89]
        simp [DataW.weightsEach, DataW.weights])
      have k4 : s4.data.toList.length ≤ reachBytes := hw _ (by
        rw [DataW.weights, Tryz.underlying89]
        simp [DataW.weightsEach, DataW.weights])
      rw [Array.length_toList] at k1 k2 k4
      refine ⟨⟨z0, s1, s2, z3, s4⟩, rfl, ?_, ?_, ?_⟩
      · show s1.data.size ≤ _
        omega
      · show s2.data.size ≤ _
        omega
      · show s4.data.size ≤ _
        omega

instance inhOpT : Inhabited OpT := ⟨⟨0, ⟨#[]⟩, ⟨#[]⟩, 0, ⟨#[]⟩⟩⟩

theorem ops_in {H : Type} {enc : TypeId × Value → H} {W : World} {hd : Bool} {fuel : Nat} {A : Option Addr} {n c : Nat} {d : DataW H} {p : List MemPlace}
    (h : DataW.trod enc Tryz.prog W 0 (fun _ => true) hd fuel 86 [.slice A n c] = some (d, p)) (hw : FitD 86 d) : ∃ l, RdO W (.slice A n c) l :=
  rd_of_trod Tryz.underlying86 Tryz.cellsOp (by omega) (by_ := 64) (by kernel_rfl) (by omega) (fun x cs h => by rw [h.1]; rfl) (fun n cs d pl h hw => op_trod h hw) h hw
end

section
open Go Go.RowKit Go.Shelf Go.Proofs

def doT (t : List Ent) (m : Nat) (x : OpT) : Except Int (List Ent) :=
  if m = 0 then madeT t x.p 1 else if m = 1 then madeT t x.p 2 else if m = 2 then writeT t x.p x.n x.s else if m = 3 then cutT t x.p x.n else if m = 4 then unlinkT t x.p else if m = 5 then rmdirT t x.p else renameT t x.p x.q

theorem TAns.pair {r : Except Int (List Ent)} {w w' : World} {e : Ending} (h : TAns r w e w') : ∃ a b, e = .returned (.tuple #[a, b]) := by
  rcases r with c | l
  · obtain ⟨v, n, h, _⟩ := h
    exact ⟨_, _, h⟩
  · obtain ⟨v, h, _⟩ := h
    exact ⟨_, _, h⟩
theorem TAns.back {r : Except Int (List Ent)} {w W w' : World} {e : Ending} (h : TAns r W e w') (he : Ext w W) : TAns r w e w' := by
  rcases r with c | l
  · obtain ⟨v, n, h1, h2, h3⟩ := h
    exact ⟨v, n, h1, h2, he.trans h3⟩
  · obtain ⟨v, h1, h2, h3⟩ := h
    exact ⟨v, h1, h2, he.trans h3⟩

set_option maxHeartbeats 8000000 in
set_option maxRecDepth 20000 in
theorem Do_any (v : Value) (t : List Ent) (m : Nat) (x : OpT) (w : World) (hv : RdE w v t) (hx : x.fits) (hm : m < 7) (hl : t.length ≤ 1000000) :
    Calls Tryz.prog 50 #[v, .agg #[.int .i64 m, .string x.p, .string x.q, .int .i64 x.n, .string x.s]] w (TAns (doT t m x) w) := by
  have Hv := Lib.hid hv
  obtain ⟨A, c, rfl, _, _, _⟩ := rdE_form hv rfl
  obtain ⟨hp, hq, hs⟩ := hx
  have H0 := fun w h => Create_any (.slice A t.length c) t x.p w h hp
  have H1 := fun w h => Mkdir_any (.slice A t.length c) t x.p w h hp
  have H2 := fun w h => Write_any (.slice A t.length c) t x.p x.n x.s w h hp
  have H3 := fun w h => Cut_any (.slice A t.length c) t x.p x.n w h hp
  have H4 := fun w h => Unlink_any (.slice A t.length c) t x.p w h hp hl
  have H5 := fun w h => Rmdir_any (.slice A t.length c) t x.p w h hp
  have H6 := fun w h => Rename_any (.slice A t.length c) t x.p x.q w h hp hq
  clear hv
  obtain ⟨K, hK⟩ : ∃ K, TAns (doT t m x) w = K := ⟨_, rfl⟩
  rw [hK]
  have HK := Lib.hid hK
  clear hK
  have h7 : m = 0 ∨ m = 1 ∨ m = 2 ∨ m = 3 ∨ m = 4 ∨ m = 5 ∨ m = 6 := by omega
  rcases h7 with rfl | rfl | rfl | rfl | rfl | rfl | rfl
  all_goals
    go_enter Tryz.func50, Tryz.ntmps50
    go_wp2_with (first
      | (go_at_call 40; refine (H0 _ (Hv.out.ext (by exact (by repeat (first | exact Ext.refl _ | assumption | refine Ext.alloc ?_ _ | refine Ext.drew ?_ | refine Ext.drewN ?_ _ | refine Ext.setCell ?_ (by first | omega | (simp; done) | (simp; omega)) _ | refine Ext.trans ?_ (by assumption)))))).mono ?_; rintro e W1 h1; obtain ⟨a, b, rfl⟩ := h1.pair; have hres := Lib.hid (h1.back (w := w) (by exact (by repeat (first | exact Ext.refl _ | assumption | refine Ext.alloc ?_ _ | refine Ext.drew ?_ | refine Ext.drewN ?_ _ | refine Ext.setCell ?_ (by first | omega | (simp; done) | (simp; omega)) _ | refine Ext.trans ?_ (by assumption))))); clear h1)
      | (go_at_call 47; refine (H1 _ (Hv.out.ext (by exact (by repeat (first | exact Ext.refl _ | assumption | refine Ext.alloc ?_ _ | refine Ext.drew ?_ | refine Ext.drewN ?_ _ | refine Ext.setCell ?_ (by first | omega | (simp; done) | (simp; omega)) _ | refine Ext.trans ?_ (by assumption)))))).mono ?_; rintro e W1 h1; obtain ⟨a, b, rfl⟩ := h1.pair; have hres := Lib.hid (h1.back (w := w) (by exact (by repeat (first | exact Ext.refl _ | assumption | refine Ext.alloc ?_ _ | refine Ext.drew ?_ | refine Ext.drewN ?_ _ | refine Ext.setCell ?_ (by first | omega | (simp; done) | (simp; omega)) _ | refine Ext.trans ?_ (by assumption))))); clear h1)
      | (go_at_call 41; refine (H2 _ (Hv.out.ext (by exact (by repeat (first | exact Ext.refl _ | assumption | refine Ext.alloc ?_ _ | refine Ext.drew ?_ | refine Ext.drewN ?_ _ | refine Ext.setCell ?_ (by first | omega | (simp; done) | (simp; omega)) _ | refine Ext.trans ?_ (by assumption)))))).mono ?_; rintro e W1 h1; obtain ⟨a, b, rfl⟩ := h1.pair; have hres := Lib.hid (h1.back (w := w) (by exact (by repeat (first | exact Ext.refl _ | assumption | refine Ext.alloc ?_ _ | refine Ext.drew ?_ | refine Ext.drewN ?_ _ | refine Ext.setCell ?_ (by first | omega | (simp; done) | (simp; omega)) _ | refine Ext.trans ?_ (by assumption))))); clear h1)
      | (go_at_call 38; refine (H3 _ (Hv.out.ext (by exact (by repeat (first | exact Ext.refl _ | assumption | refine Ext.alloc ?_ _ | refine Ext.drew ?_ | refine Ext.drewN ?_ _ | refine Ext.setCell ?_ (by first | omega | (simp; done) | (simp; omega)) _ | refine Ext.trans ?_ (by assumption)))))).mono ?_; rintro e W1 h1; obtain ⟨a, b, rfl⟩ := h1.pair; have hres := Lib.hid (h1.back (w := w) (by exact (by repeat (first | exact Ext.refl _ | assumption | refine Ext.alloc ?_ _ | refine Ext.drew ?_ | refine Ext.drewN ?_ _ | refine Ext.setCell ?_ (by first | omega | (simp; done) | (simp; omega)) _ | refine Ext.trans ?_ (by assumption))))); clear h1)
      | (go_at_call 43; refine (H4 _ (Hv.out.ext (by exact (by repeat (first | exact Ext.refl _ | assumption | refine Ext.alloc ?_ _ | refine Ext.drew ?_ | refine Ext.drewN ?_ _ | refine Ext.setCell ?_ (by first | omega | (simp; done) | (simp; omega)) _ | refine Ext.trans ?_ (by assumption)))))).mono ?_; rintro e W1 h1; obtain ⟨a, b, rfl⟩ := h1.pair; have hres := Lib.hid (h1.back (w := w) (by exact (by repeat (first | exact Ext.refl _ | assumption | refine Ext.alloc ?_ _ | refine Ext.drew ?_ | refine Ext.drewN ?_ _ | refine Ext.setCell ?_ (by first | omega | (simp; done) | (simp; omega)) _ | refine Ext.trans ?_ (by assumption))))); clear h1)
      | (go_at_call 48; refine (H5 _ (Hv.out.ext (by exact (by repeat (first | exact Ext.refl _ | assumption | refine Ext.alloc ?_ _ | refine Ext.drew ?_ | refine Ext.drewN ?_ _ | refine Ext.setCell ?_ (by first | omega | (simp; done) | (simp; omega)) _ | refine Ext.trans ?_ (by assumption)))))).mono ?_; rintro e W1 h1; obtain ⟨a, b, rfl⟩ := h1.pair; have hres := Lib.hid (h1.back (w := w) (by exact (by repeat (first | exact Ext.refl _ | assumption | refine Ext.alloc ?_ _ | refine Ext.drew ?_ | refine Ext.drewN ?_ _ | refine Ext.setCell ?_ (by first | omega | (simp; done) | (simp; omega)) _ | refine Ext.trans ?_ (by assumption))))); clear h1)
      | (go_at_call 42; refine (H6 _ (Hv.out.ext (by exact (by repeat (first | exact Ext.refl _ | assumption | refine Ext.alloc ?_ _ | refine Ext.drew ?_ | refine Ext.drewN ?_ _ | refine Ext.setCell ?_ (by first | omega | (simp; done) | (simp; omega)) _ | refine Ext.trans ?_ (by assumption)))))).mono ?_; rintro e W1 h1; obtain ⟨a, b, rfl⟩ := h1.pair; have hres := Lib.hid (h1.back (w := w) (by exact (by repeat (first | exact Ext.refl _ | assumption | refine Ext.alloc ?_ _ | refine Ext.drew ?_ | refine Ext.drewN ?_ _ | refine Ext.setCell ?_ (by first | omega | (simp; done) | (simp; omega)) _ | refine Ext.trans ?_ (by assumption))))); clear h1))
    rw [← HK.out]
    exact hres.out

/-! ### The plain law -/

theorem withT_code {t : List Ent} {e : Ent} {c : Int} (h : withT t e = .error c) : c ≠ 0 := by
  rw [withT] at h
  split at h
  · cases h
  · cases h; decide
theorem doT_code {t : List Ent} {m : Nat} {x : OpT} {c : Int} (h : doT t m x = .error c) : c ≠ 0 := by
  rw [doT] at h
  split at h
  · exact madeT_code h
  split at h
  · exact madeT_code h
  split at h
  · rw [writeT] at h
    split at h
    · rename_i hf
      cases h
      exact fileT_code hf
    · split at h
      · cases h; decide
      · exact withT_code h
  split at h
  · rw [cutT] at h
    split at h
    · rename_i hf
      cases h
      exact fileT_code hf
    · split at h
      · cases h; decide
      · exact withT_code h
  split at h
  · rw [unlinkT] at h
    split at h
    · rename_i hf
      cases h
      exact fileT_code hf
    · cases h
  split at h
  · rw [rmdirT] at h
    split at h
    · cases h; decide
    · rename_i cc hf
      split at h
      · split at h
        · cases h
        · cases h; decide
      · cases h
        exact fileT_code hf
  · exact renameT_code h

theorem doT_tree {t l : List Ent} {m : Nat} {x : OpT} (ht : treeOk t = true) (h : doT t m x = .ok l) : treeOk l = true := by
  rw [doT] at h
  split at h
  · exact (made_all h (.inl rfl)).2.2.2.1
  split at h
  · exact (made_all h (.inr rfl)).2.2.2.1
  split at h
  · rw [writeT] at h
    split at h
    · cases h
    · rename_i e hf
      split at h
      · cases h
      · rename_i hn
        obtain ⟨_, hx, _, hk, _⟩ := fileT_ok hf
        have hd := entOk_data ((treeOk_iff.1 ht).2.2 e hx).1 hk
        have hw := withT_set ht hx hk (d := writtenT e.data x.n.toNat x.s) (by rw [written_size]; omega)
        have h : withT t (setD e (writtenT e.data x.n.toNat x.s)) = .ok l := h
        rw [hw.1] at h
        cases h
        exact hw.2
  split at h
  · rw [cutT] at h
    split at h
    · cases h
    · rename_i e hf
      split at h
      · cases h
      · rename_i hn
        obtain ⟨_, hx, _, hk, _⟩ := fileT_ok hf
        have hw := withT_set ht hx hk (d := filledT e.data x.n.toNat) (by rw [filledT_size]; omega)
        have h : withT t (setD e (filledT e.data x.n.toNat)) = .ok l := h
        rw [hw.1] at h
        cases h
        exact hw.2
  split at h
  · rw [unlinkT] at h
    split at h
    · cases h
    · rename_i e hf
      cases h
      obtain ⟨_, hx, hpx, hk, _⟩ := fileT_ok hf
      exact tree_del ht fun y hy => .inl (by rw [← hpx]; exact file_leaf ht hx (by omega) y hy)
  split at h
  · rw [rmdirT] at h
    split at h
    · cases h
    · split at h
      · split at h
        · rename_i hin
          cases h
          refine tree_del ht fun y hy => .inl fun hd => ?_
          obtain ⟨ys, z, hn, hdir, _⟩ := ent_names ((treeOk_iff.1 ht).2.2 y hy).1
          have h1 : inP x.p y = some z := inP_iff.2 ⟨ys, hn, by rw [← hdir, hd]⟩
          have h2 : z ∈ inT t x.p := List.mem_filterMap.2 ⟨y, hy, h1⟩
          rw [hin] at h2
          cases h2
        · cases h
      · cases h
  · obtain ⟨_, _, _, _, hz, _⟩ := moved h
    exact hz

end

section
open Go Go.RowKit Go.Shelf Go.Proofs

set_option maxRecDepth 100000 in
set_option maxHeartbeats 8000000 in
/-- Where the law lets an input go. -/
theorem stays_let (v u : Value) (t : List Ent) (l : List OpT) (w : World) (hL : Laid w) (hv : RdE w v t) (hu : RdO w u l) (h : ¬ (sizeOk t = true ∧ l.length ≤ 40 ∧ treeOk t = true)) :
    Calls Tryz.prog 13 #[v, u] w fun e w' => e = .returned (.bool true) ∧ Ext w w' := by
  have Hv := Lib.hid hv
  have HL := Lib.hid hL
  obtain ⟨A, c, rfl, _, _, _⟩ := rdE_form hv rfl
  obtain ⟨A2, c2, rfl, _, _, _⟩ := rdO_form hu rfl
  clear hv hL hu
  rcases hf : sizeOk t with _ | _
  · have HF := fun w => tsize_no (v := .slice A t.length c) hf w
    clear hf h
    go_enter Tryz.func13, Tryz.ntmps13
    go_wp2_with (first | (go_at_call 34; refine (TAwake_any _ (HL.out.ext (by exact (by repeat (first | exact Ext.refl _ | assumption | refine Ext.alloc ?_ _ | refine Ext.drew ?_ | refine Ext.drewN ?_ _ | refine Ext.setCell ?_ (by first | omega | (simp; done) | (simp; omega)) _ | refine Ext.trans ?_ (by assumption)))))).mono ?_; rintro e W1 ⟨rfl, hE1⟩) | (go_at_call 35; refine (HF _ (Hv.out.ext (by exact (by repeat (first | exact Ext.refl _ | assumption | refine Ext.alloc ?_ _ | refine Ext.drew ?_ | refine Ext.drewN ?_ _ | refine Ext.setCell ?_ (by first | omega | (simp; done) | (simp; omega)) _ | refine Ext.trans ?_ (by assumption)))))).mono ?_; rintro e W2 ⟨rfl, hE2⟩))
    go_ret
    exact ⟨rfl, by exact (by repeat (first | exact Ext.refl _ | assumption | refine Ext.alloc ?_ _ | refine Ext.drew ?_ | refine Ext.drewN ?_ _ | refine Ext.setCell ?_ (by first | omega | (simp; done) | (simp; omega)) _ | refine Ext.trans ?_ (by assumption)))⟩
  · have HF := fun w => tsize_yes (v := .slice A t.length c) hf w
    by_cases hl : l.length ≤ 40
    · have ht : treeOk t = false := by
        cases ht : treeOk t
        · rfl
        · exact absurd ⟨hf, hl, ht⟩ h
      have hl' : ¬ (40 : Int) < (l.length : Int) := by omega
      have HT := fun w => Tree_no (v := .slice A t.length c) ht w
      clear hf h ht
      go_enter Tryz.func13, Tryz.ntmps13
      go_wp2_with (first | (go_at_call 34; refine (TAwake_any _ (HL.out.ext (by exact (by repeat (first | exact Ext.refl _ | assumption | refine Ext.alloc ?_ _ | refine Ext.drew ?_ | refine Ext.drewN ?_ _ | refine Ext.setCell ?_ (by first | omega | (simp; done) | (simp; omega)) _ | refine Ext.trans ?_ (by assumption)))))).mono ?_; rintro e W1 ⟨rfl, hE1⟩) | (go_at_call 35; refine (HF _ (Hv.out.ext (by exact (by repeat (first | exact Ext.refl _ | assumption | refine Ext.alloc ?_ _ | refine Ext.drew ?_ | refine Ext.drewN ?_ _ | refine Ext.setCell ?_ (by first | omega | (simp; done) | (simp; omega)) _ | refine Ext.trans ?_ (by assumption)))))).mono ?_; rintro e W2 ⟨rfl, hE2⟩) | (go_at_call 36; refine (HT _ (Hv.out.ext (by exact (by repeat (first | exact Ext.refl _ | assumption | refine Ext.alloc ?_ _ | refine Ext.drew ?_ | refine Ext.drewN ?_ _ | refine Ext.setCell ?_ (by first | omega | (simp; done) | (simp; omega)) _ | refine Ext.trans ?_ (by assumption)))))).mono ?_; rintro e W3 ⟨rfl, hE3⟩))
      go_ret
      exact ⟨rfl, by exact (by repeat (first | exact Ext.refl _ | assumption | refine Ext.alloc ?_ _ | refine Ext.drew ?_ | refine Ext.drewN ?_ _ | refine Ext.setCell ?_ (by first | omega | (simp; done) | (simp; omega)) _ | refine Ext.trans ?_ (by assumption)))⟩
    · have hl' : (40 : Int) < (l.length : Int) := by omega
      clear hf h
      go_enter Tryz.func13, Tryz.ntmps13
      go_wp2_with (first | (go_at_call 34; refine (TAwake_any _ (HL.out.ext (by exact (by repeat (first | exact Ext.refl _ | assumption | refine Ext.alloc ?_ _ | refine Ext.drew ?_ | refine Ext.drewN ?_ _ | refine Ext.setCell ?_ (by first | omega | (simp; done) | (simp; omega)) _ | refine Ext.trans ?_ (by assumption)))))).mono ?_; rintro e W1 ⟨rfl, hE1⟩) | (go_at_call 35; refine (HF _ (Hv.out.ext (by exact (by repeat (first | exact Ext.refl _ | assumption | refine Ext.alloc ?_ _ | refine Ext.drew ?_ | refine Ext.drewN ?_ _ | refine Ext.setCell ?_ (by first | omega | (simp; done) | (simp; omega)) _ | refine Ext.trans ?_ (by assumption)))))).mono ?_; rintro e W2 ⟨rfl, hE2⟩))
      go_ret
      exact ⟨rfl, by exact (by repeat (first | exact Ext.refl _ | assumption | refine Ext.alloc ?_ _ | refine Ext.drew ?_ | refine Ext.drewN ?_ _ | refine Ext.setCell ?_ (by first | omega | (simp; done) | (simp; omega)) _ | refine Ext.trans ?_ (by assumption)))⟩

def StaysRel (n : Nat) (w : World) (v0 v5 : Value) (wr : World) : Prop := ∃ (k : Nat) (t : List Ent), v5 = .int .i64 k ∧ k ≤ n ∧ Hid (treeOk t = true) ∧ Hid (RdE wr v0 t) ∧ Ext w wr
theorem stays_next {n k : Nat} {w wr : World} {v0 : Value} {t : List Ent} (hlt : k < n) (ht : Hid (treeOk t = true)) (hv : RdE wr v0 t) (hE : Ext w wr) :
    StaysRel n w v0 (.int .i64 ((k : Int) + 1)) wr ∧ n - (intOf (.int .i64 ((k : Int) + 1))).toNat < n - (intOf (.int .i64 (k : Int))).toNat :=
  ⟨⟨k + 1, t, by simp, by omega, ht, Lib.hid hv, hE⟩, by simp [intOf]; omega⟩

set_option maxRecDepth 100000 in
set_option maxHeartbeats 16000000 in
theorem stays_main (v u : Value) (t : List Ent) (l : List OpT) (w : World) (hL : Laid w) (hv : RdE w v t) (hu : RdO w u l) (hf : sizeOk t = true) (hl : l.length ≤ 40) (ht : treeOk t = true) :
    Calls Tryz.prog 13 #[v, u] w fun e w' => e = .returned (.bool true) ∧ Ext w w' := by
  have Hv := Lib.hid hv
  have HL := Lib.hid hL
  obtain ⟨A, c', rfl, _, _, _⟩ := rdE_form hv rfl
  obtain ⟨n, hn⟩ : ∃ n, n = l.length := ⟨_, rfl⟩
  have Hn := Lib.hid hn
  obtain ⟨A2, c2, rfl, hd1, hd2, Hcell⟩ := rdO_form hu hn
  have HF := fun w => tsize_yes (v := .slice A t.length c') hf w
  have HT := fun w => Tree_yes (v := .slice A t.length c') ht w
  have hn40 : ¬ (40 : Int) < (n : Int) := by omega
  have Ht := Lib.hid ht
  clear hf ht hv hL hu hn
  go_enter Tryz.func13, Tryz.ntmps13
  go_wp2_with (first | (go_at_call 34; refine (TAwake_any _ (HL.out.ext (by exact (by repeat (first | exact Ext.refl _ | assumption | refine Ext.alloc ?_ _ | refine Ext.drew ?_ | refine Ext.drewN ?_ _ | refine Ext.setCell ?_ (by first | omega | (simp; done) | (simp; omega)) _ | refine Ext.trans ?_ (by assumption)))))).mono ?_; rintro e W1 ⟨rfl, hE1⟩) | (go_at_call 35; refine (HF _ (Hv.out.ext (by exact (by repeat (first | exact Ext.refl _ | assumption | refine Ext.alloc ?_ _ | refine Ext.drew ?_ | refine Ext.drewN ?_ _ | refine Ext.setCell ?_ (by first | omega | (simp; done) | (simp; omega)) _ | refine Ext.trans ?_ (by assumption)))))).mono ?_; rintro e W2 ⟨rfl, hE2⟩) | (go_at_call 36; refine (HT _ (Hv.out.ext (by exact (by repeat (first | exact Ext.refl _ | assumption | refine Ext.alloc ?_ _ | refine Ext.drew ?_ | refine Ext.drewN ?_ _ | refine Ext.setCell ?_ (by first | omega | (simp; done) | (simp; omega)) _ | refine Ext.trans ?_ (by assumption)))))).mono ?_; rintro e W3 ⟨rfl, hE3⟩))
  have hE0 : Ext w W3 := by exact (by repeat (first | exact Ext.refl _ | assumption | refine Ext.alloc ?_ _ | refine Ext.drew ?_ | refine Ext.drewN ?_ _ | refine Ext.setCell ?_ (by first | omega | (simp; done) | (simp; omega)) _ | refine Ext.trans ?_ (by assumption)))
  have hv3 := Lib.hid (Hv.out.ext hE0)
  clear hE1 hE2 hE3
  go_loopw [0, 5] (fun v0 v5 wr => StaysRel n w v0 v5 wr) (fun _ i _ => n - (intOf i).toNat)
  case atStart => exact ⟨0, t, rfl, Nat.zero_le _, Ht, hv3, hE0⟩
  case round =>
    obtain ⟨k, t', rfl, hkn, ht', hr, hE⟩ := hrel
    obtain ⟨A0, c0, rfl, _, _, _⟩ := rdE_form hr.out rfl
    clear hE0 hv3
    by_cases hlt : k < n
    · have hh : k < l.length := by have := Hn.out; omega
      obtain ⟨b, o, rfl, hcell⟩ := Hcell.out (List.ne_nil_of_length_pos (by omega))
      obtain ⟨q0, q1, q2, q3, q4, hf⟩ := hcell k hh
      obtain ⟨x, hx⟩ : ∃ x, l[k]'hh = x := ⟨_, rfl⟩
      rw [hx] at q0 q1 q2 q3 q4 hf
      have g0 := hE.cell q0
      have g1 := hE.cell q1
      have g2 := hE.cell q2
      have g3 := hE.cell q3
      have g4 := hE.cell q4
      have HX := fun w => OFew_any x w
      clear q0 q1 q2 q3 q4 hx hcell
      rcases hs : opSmall x with _ | _
      · rw [hs] at HX
        clear hs
        go_wp2_with (go_at_call 49; refine (HX _).mono ?_; rintro e W4 ⟨rfl, hE4⟩)
        go_ret
        exact ⟨rfl, hE.trans hE4⟩
      · rw [hs] at HX
        clear hs
        go_wp2_with (first | (go_at_call 49; refine (HX _).mono ?_; rintro e W4 ⟨rfl, hE4⟩; have g0' := hE4.cell g0; have g1' := hE4.cell g1; have g2' := hE4.cell g2; have g3' := hE4.cell g3; have g4' := hE4.cell g4) | (go_at_call 51; refine (OOf_any x _).mono ?_; rintro e W5 ⟨⟨m, hm, rfl⟩, hE5⟩))
        have HD := fun w h => Do_any (.slice A0 t'.length c0) t' m x w h hf hm (by have := tree_small ht'.out; omega)
        have hE6 : Ext w W5 := (hE.trans hE4).trans hE5
        have hr6 := Lib.hid (hr.out.ext (hE4.trans hE5))
        rcases hdo : doT t' m x with cc | t2
        · have hc0 : (cc == 0) = false := by simpa using doT_code hdo
          have HD' : ∀ w, RdE w (.slice A0 t'.length c0) t' → Calls Tryz.prog 50 #[.slice A0 t'.length c0, .agg #[.int .i64 m, .string x.p, .string x.q, .int .i64 x.n, .string x.s]] w (TBad cc w) := fun w h => by
            have := HD w h
            rwa [hdo] at this
          clear hdo HD HX
          refine (HD' _ hr6.out).mono ?_
          rintro e W7 ⟨v7, n7, rfl, hEr, hE7⟩
          have hE8 := hE6.trans hE7
          go_wp2_with (go_at_call 18; refine (Code_err _ _ _ _ hEr (HL.out.ext hE8)).mono ?_; rintro e W9 ⟨rfl, hE9⟩)
          exact stays_next hlt ht' (hr6.out.ext (hE7.trans hE9)) (hE8.trans hE9)
        · have ht2 := Lib.hid (doT_tree ht'.out hdo)
          have HD' : ∀ w, RdE w (.slice A0 t'.length c0) t' → Calls Tryz.prog 50 #[.slice A0 t'.length c0, .agg #[.int .i64 m, .string x.p, .string x.q, .int .i64 x.n, .string x.s]] w (WithOk t2 w) := fun w h => by
            have := HD w h
            rwa [hdo] at this
          clear hdo HD HX
          refine (HD' _ hr6.out).mono ?_
          rintro e W7 ⟨v7, rfl, hr7, hE7⟩
          have hE8 := hE6.trans hE7
          have Hr7 := Lib.hid hr7
          have HT2 := fun w h => Tree_yes (v := v7) ht2.out w h
          clear hr7
          go_wp2_with (first | (go_at_call 18; (with_reducible refine (Code_nil _).mono ?_); rintro e W9 ⟨rfl, hE9⟩) | (go_at_call 36; refine (HT2 _ (Hr7.out.ext hE9)).mono ?_; rintro e W10 ⟨rfl, hE10⟩))
          exact stays_next hlt ht2 (Hr7.out.ext (hE9.trans hE10)) ((hE8.trans hE9).trans hE10)
    · go_wp2
      go_ret
      exact ⟨rfl, hE⟩

theorem TreeStays_any (v u : Value) (t : List Ent) (l : List OpT) (w : World) (hL : Laid w) (hv : RdE w v t) (hu : RdO w u l) :
    Calls Tryz.prog 13 #[v, u] w fun e w' => e = .returned (.bool true) ∧ Ext w w' := by
  by_cases h : sizeOk t = true ∧ l.length ≤ 40 ∧ treeOk t = true
  · exact stays_main v u t l w hL hv hu h.1 h.2.1 h.2.2
  · exact stays_let v u t l w hL hv hu h
end
end Go.Proofs.YtgemdfobkockaaaGreatDoor
