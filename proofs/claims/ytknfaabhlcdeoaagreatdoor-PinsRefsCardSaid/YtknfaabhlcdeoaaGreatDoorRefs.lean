/- pins.Table's Refs: the texts of all handles, in order of their numbers. -/
import Derived.Test.YtknfaabhlcdeoaaGreatDoorIter
import Derived.Test.YtknfaabhlcdeoaaGreatDoorOpen
import Derived.Laws.AppendOwnNone
namespace Go.Proofs.YtknfaabhlcdeoaaGreatDoor
open Go Go.RowKit Go.Shelf Go.Proofs Go.Maps Go.Sort

/-- slices.Sort's two contracts at this dump. -/
theorem sorts_in (m : Nat) : AnyZI.SortsIn Tryz.prog Tryz.sortedA_ren Fence.wide m :=
  ⟨fun blk off cap ss W hH hblk hsz => callsIn_wide.2 (Any.slices_Sort_int Tryz.lays189 blk off cap ss W hH hblk hsz),
   fun p cap W => callsIn_wide.2 (Any.slices_Sort_int_none Tryz.lays189 p cap W)⟩

theorem keys_tab (l : LH) : intKeys (TabH l) = l.map (·.1) := by
  simp [intKeys, TabH, Tab, Go.intOf]

theorem sorted_keys {l : List Int} {ss : List Int} (hl : l.Pairwise (· < ·)) (hp : ss.Perm l) : ss.mergeSort (fun x y => decide (x ≤ y)) = l := by
  refine List.Perm.eq_of_pairwise (le := fun a b : Int => a ≤ b) (fun a b _ _ h1 h2 => by omega) ?_ (hl.imp fun h => by omega) ((List.mergeSort_perm ss _).trans hp)
  have := List.pairwise_mergeSort (le := fun x y : Int => decide (x ≤ y)) (fun a b c h1 h2 => by simp at *; omega) (fun a b => by simp; omega) ss
  exact this.imp fun h => by simpa using h

/-- What slices.Sorted answers of the keys of a table: at the world in which the map's box has been laid. -/
def SortAns (l : LH) (w : World) (e : Ending) (w' : World) : Prop := ∃ v, e = .returned v ∧ w'.ownsRow w.heap.size 3 1 v l.length ((l.map (·.1)).map (Value.int .i64)) ∧ Ext w w'

theorem sorted_any (bm n : Nat) (l : LH) (w : World) (hown : w.ownsMap Tryz.prog 3 RH bm n (TabH l)) (hl : (l.map (·.1)).Pairwise (· < ·)) (hlen : l.length ≤ 1000000000) :
    Calls Tryz.prog 67 #[.func (.func 121) #[] #[.pointer (some ⟨w.heap.size, 0, none⟩)]] (w.alloc (.cells #[.map (some bm)] 106)) (SortAns l (w.alloc (.cells #[.map (some bm)] 106))) := by
  refine (callsIn_wide (n := 5)).1 ?_
  have hbl := hown.lt
  have hsz : Maps.size (TabH l) = l.length := by rw [TabH, tab_size, List.length_map]
  have hseq : SeqGives Fence.wide 2 Tryz.prog 121 #[.pointer (some ⟨w.heap.size, 0, none⟩)] encZ (fun ss => ss.Perm (intKeys (TabH l))) (Maps.size (TabH l)) (w.alloc (.cells #[.map (some bm)] 106)) :=
    AnyZI.keys_gives (ρ := Tryz.keysA_ren) { Tryz.keysA with } Fence.wide _ trivial rfl (by omega) w.heap.size bm n (TabH l) _ (by simp) (by simp) (own_but hown (.of_ext (S := fun _ => False) ((Ext.refl w).alloc _)) (fun h => h))
  have cS := AnyZI.sorted_in Tryz.sortedA Fence.wide 5 trivial trivial trivial trivial rfl (by omega) (sorts_in _) (enters_of Tryz.func120 (by kernel_rfl) rfl) 121 #[.pointer (some ⟨w.heap.size, 0, none⟩)] trivial (enters_of Tryz.func121 (by kernel_rfl) rfl) _ _ (by rw [hsz]; unfold maxLen; omega) (by rw [hsz]; omega) _ hseq
  change CallsIn _ _ Tryz.prog 67 _ _ _ at cS
  refine cS.mono ?_
  rintro e w' ⟨v, ss, rfl, hS, hrow, _, hb⟩
  rw [keys_tab] at hS
  have hll : ss.length = l.length := by rw [hS.length_eq, List.length_map]
  refine ⟨v, rfl, ?_, hb⟩
  rw [sorted_keys hl hS, hll] at hrow
  exact hrow

/-- The handles' slices read as lists of texts. -/
def RefsIn (w : World) (l : LH) (xss : List (List Ref)) : Prop :=
  xss.length = l.length ∧ ∀ (i : Nat) (h : i < l.length) (h' : i < xss.length), ∃ A c, (l[i]).2.2 = .slice A (xss[i]).length c ∧ RdR w (.slice A (xss[i]).length c) (xss[i]) ∧ (A = none → c = 0)

theorem rdR_news {w : World} {ad : Addr} {n c : Nat} {xs : List Ref} (h : RdR w (.slice (some ad) n c) xs) : ∀ (j : Nat) u, (xs.flatMap Ref.cells)[j]? = some u → w.cell? (ad.add j) = some u := by
  intro j u hj
  obtain ⟨A, c', e, _, _, _, hne⟩ := h
  cases e
  obtain ⟨j', x, i, hx, hxi, rfl⟩ := refs_at xs j u hj
  obtain ⟨b, o, e, hc⟩ := hne (by rintro rfl; simp at hx)
  cases e
  obtain ⟨cs, rfl, hu⟩ := hc j' x hx
  have := hu i u hxi
  rw [Addr.add_lit, ← Nat.add_assoc]
  exact this

theorem find_at {l : LH} (hl : (l.map (·.1)).Pairwise (· < ·)) {k : Nat} (hk : k < l.length) : findH l (l[k]).1 = some (l[k]).2 := by
  rw [findH]
  have : l.find? (fun x => decide (x.1 = (l[k]).1)) = some l[k] := by
    rw [List.find?_eq_some_iff_getElem]
    refine ⟨by simp, k, hk, rfl, fun j hj => ?_⟩
    have := List.pairwise_iff_getElem.1 hl j k (by simp; omega) (by simpa using hk) hj
    simp at this ⊢
    omega
  rw [this]
  rfl

theorem lookH1 {ops : Array Oper} {rest : List Oper} {o : Oper} {a : Act} {Q : Exit → Act → World → Prop} (w : World) (hg : o.guard = none) (m x : Operand) (hop : o.op = Op.lookup 106 m x false)
    (bm n : Nat) (l : LH) (hm : a.eval m = .map (some bm)) (hown : w.ownsMap Tryz.prog 3 RH bm n (TabH l)) (id : Int) (hx : a.eval x = .int .i64 id) (hw : (Lit.int .i64 id).wf = true)
    (v : Value) (hv : heldV (findH l id) = v) (hK : wpList Tryz.prog ops Q rest (a.put o.dst v) w) : wpList Tryz.prog ops Q (o :: rest) a w := by
  refine wpList_plain hg fun K' hK' => ?_
  obtain ⟨u, ps, hrun, hu⟩ := hown.lookup (t := 106) (e := 116) law_int Tryz.underlying106 (zero_handle w) (zd := .held (heldV none)) (zp := []) rfl (key := .int .i64 id) (keyOf_int_mk Tryz.underlying3 hw)
  rw [tabH_at, hv] at hu
  have hu2 : u = v := by
    simp [RH] at hu
    exact hu.1
  subst hu2
  unfold Oper.wp
  simp [execOp, hop, hm, hx, hrun, Result.andThen]
  exact hK' _ _ hK

theorem field_refs (d : ByteArray) (A : Option Addr) (n c : Nat) (w : World) : (Instr.field 116 (.agg #[.string d, .slice A n c]) 1).run Tryz.prog w = .ok (.slice A n c) w := by kernel_rfl

/-- What has been laid behind k handles. -/
def got (xss : List (List Ref)) (k : Nat) : List Ref := (xss.take k).flatten
theorem got_succ {xss : List (List Ref)} {k : Nat} (h : k < xss.length) : got xss (k + 1) = got xss k ++ xss[k] := by
  rw [got, got, ← List.take_append_getElem h, List.flatten_append]
  simp
theorem got_len (xss : List (List Ref)) (k : Nat) : (got xss k).length ≤ xss.flatten.length := by
  have : xss.flatten = got xss k ++ (xss.drop k).flatten := by rw [got, ← List.flatten_append, List.take_append_drop]
  rw [this, List.length_append]
  omega

def RefsRel (W5 : World) (xss : List (List Ref)) (n : Nat) (out i : Value) (wr : World) : Prop :=
  ∃ k : Nat, i = .int .i64 k ∧ k ≤ n ∧ wr.ownsRow W5.heap.size 47 3 out (got xss k).length ((got xss k).flatMap Ref.cells) ∧ Ext W5 wr

def RI (_ : World) (x : Int) (cs : List Value) : Prop := cs = [.int .i64 x]
theorem rdI_own {w : World} {base e : Nat} {v : Value} {xs : List Int} (h : w.ownsRow base e 1 v xs.length (xs.map (Value.int .i64))) (hl : xs.length ≤ 140737488355328) : Rd RI 1 w v xs :=
  Rd.of_own h hl fun j x hj => ⟨[.int .i64 x], rfl, fun i u hi => by
    rcases i with _ | i
    · simp at hi
      subst hi
      simp [hj]
    · simp at hi⟩

/-- What Refs answers. -/
def RefsAns (xs : List Ref) (w : World) (e : Ending) (w' : World) : Prop := ∃ v, e = .returned v ∧ RdR w' v xs ∧ Ext w w'

theorem refs_round {W5 : World} {xss : List (List Ref)} {n k : Nat} {out : Value} {wr : World} {xs : List Ref} (hlt : k < n) (Hgot : Hid (got xss (k + 1) = got xss k ++ xs))
    (hrow : wr.ownsRow W5.heap.size 47 3 out ((got xss k).length + xs.length) ((got xss k).flatMap Ref.cells ++ xs.flatMap Ref.cells)) (hE : Ext W5 wr) :
    RefsRel W5 xss n out (.int .i64 ((k : Int) + 1)) wr ∧ n - (intOf (.int .i64 ((k : Int) + 1))).toNat < n - (intOf (.int .i64 (k : Int))).toNat := by
  refine ⟨⟨k + 1, by simp, by omega, ?_, hE⟩, by simp [intOf]; omega⟩
  rw [Hgot.out, List.length_append, List.flatMap_append]
  exact hrow

set_option maxHeartbeats 8000000 in
set_option maxRecDepth 20000 in
theorem Refs_any (tb bm n : Nat) (last : Int) (l : LH) (xss : List (List Ref)) (w : World) (ht : PT w tb bm n last l) (hl : (l.map (·.1)).Pairwise (· < ·)) (hlen : l.length ≤ 1000000000) (hwf : ∀ y ∈ l, (Lit.int .i64 y.1).wf = true)
    (hx : RefsIn w l xss) (htot : xss.flatten.length ≤ 1000000000) :
    Calls Tryz.prog 26 #[.pointer (some ⟨tb, 0, none⟩)] w (RefsAns xss.flatten w) := by
  have hS := sorted_any bm n l w ht.own hl hlen
  have hK : ∀ mb W, Calls Tryz.prog 68 #[.map mb] W fun e w' => e = .returned (.func (.func 121) #[] #[.pointer (some ⟨W.heap.size, 0, none⟩)]) ∧ w' = W.alloc (.cells #[.map mb] 106) :=
    fun mb W => (callsIn_wide (n := 5)).1 (AnyZI.keys_in Tryz.keysA Fence.wide 5 trivial rfl mb W)
  have t0 := ht.box.cell 0 rfl
  have Ht := Lib.hid ht
  have Hl := Lib.hid hl
  have Hwf := Lib.hid hwf
  have Hx := Lib.hid hx
  have Htot := Lib.hid htot
  have Hlen := Lib.hid hlen
  clear ht hl hwf hx htot hlen
  go_enter Tryz.func26, Tryz.ntmps26
  go_upto_region 5 with (first | (go_at_call 68; ((with_reducible refine (hK _ _).mono ?_)); rintro e W1 ⟨rfl, rfl⟩) | (go_at_call 67; ((with_reducible refine hS.mono ?_)); rintro e W5 ⟨v, rfl, hrow, hE5⟩; obtain ⟨A, c, rfl⟩ := own_form hrow))
  have hI : Rd RI 1 W5 (.slice A l.length c) (l.map (·.1)) := rdI_own (by rw [List.length_map]; exact hrow) (by rw [List.length_map]; have := Hlen.out; omega)
  have HI := Lib.hid hI
  clear hrow hI
  have hE50 : Ext w W5 := Ext.trans (by exact (by repeat (first | exact Ext.refl _ | assumption | refine Ext.alloc ?_ _ | refine Ext.drew ?_ | refine Ext.drewN ?_ _ | refine Ext.setCell ?_ (by first | omega | (simp; done) | (simp; omega)) _ | refine Ext.trans ?_ (by assumption)))) hE5
  go_loopw [3, 15] (fun out i wr => RefsRel W5 xss l.length out i wr) (fun _ i _ => l.length - (intOf i).toNat)
  case atStart => exact ⟨0, rfl, Nat.zero_le _, by simp [got, World.ownsRow], Ext.refl _⟩
  case round =>
    obtain ⟨k, rfl, hkn, hrow, hE⟩ := hrel
    by_cases hlt : k < l.length
    · have hlt' : (k : Int) < (l.length : Int) := by omega
      have hkx : k < xss.length := by have := Hx.out.1; omega
      obtain ⟨b, o, c5, e5, hc5, hc6, hcell⟩ := Rd.open_ HI.out (List.ne_nil_of_length_pos (by rw [List.length_map]; omega))
      rw [List.length_map] at e5 hc5
      obtain ⟨rfl, _, rfl⟩ := Value.slice.inj e5
      clear e5
      obtain ⟨cs, rfl, hu⟩ := hcell k (l[k]).1 (by simp [List.getElem?_eq_getElem hlt])
      have g0 := hE.cell (hu 0 _ rfl)
      rw [Nat.mul_one, Nat.add_zero] at g0
      have ht := Ht.out.ext (hE50.trans hE)
      have t1 := ht.box.cell 0 rfl
      obtain ⟨A', c', er, hrd, hnil⟩ := Hx.out.2 k hlt hkx
      have hfind := find_at Hl.out hlt
      have hkwf := Hwf.out _ (List.getElem_mem hlt)
      have hheld : heldV (findH l (l[k]).1) = .agg #[.string (l[k]).2.1, .slice A' (xss[k]).length c'] := by rw [hfind, heldV, er]
      have Hown := Lib.hid ht.own
      have hrd' := Rd.ext (fun _ _ _ _ _ h => h) hrd (hE50.trans hE)
      have hlen' := Rd.len hrd
      have Hgot := Lib.hid (got_succ hkx)
      have Hle := Lib.hid (got_len xss (k + 1))
      have Hrow := Lib.hid hrow
      have Hrd := Lib.hid hrd'
      obtain ⟨key, hkey⟩ : ∃ key, (l[k]).1 = key := ⟨_, rfl⟩
      obtain ⟨dd, hdd⟩ : ∃ dd, (l[k]).2.1 = dd := ⟨_, rfl⟩
      obtain ⟨xs, hxs⟩ : ∃ xs, xss[k] = xs := ⟨_, rfl⟩
      rw [hkey, hdd, hxs] at hheld
      rw [hkey] at hkwf
      have Hheld := Lib.hid hheld
      rw [hkey] at g0
      rw [hxs] at Hrd Hgot hlen'
      clear hheld hfind hrd hrd' hrow hcell hu er ht hkey hdd hxs
      rcases A' with _ | ad
      · have hc0 := hnil rfl
        subst hc0
        have hx0 : xs = [] := by
          obtain ⟨_, _, _, _, _, _, h⟩ := Hrd.out
          exact Classical.byContradiction fun e => by obtain ⟨b, o, h', _⟩ := h e; simp_all
        subst hx0
        have Hheld := Lib.hid (by simpa using Hheld.out : heldV (findH l key) = .agg #[.string dd, .slice none 0 0])
        have hfd := field_refs dd
        go_wp2_with (first | (at_lookup; refine lookH1 _ rfl _ _ rfl bm n l rfl Hown.out key rfl hkwf _ Hheld.out ?_) | (at_builtin; refine wpList_append_own_none rfl _ _ 44 rfl W5.heap.size 47 _ 3 Tryz.underlying44 (info_parts info_ref).choose_spec.1 _ _ _ rfl Hrow.out rfl ?_))
        exact refs_round hlt Hgot (by simpa using Hrow.out) hE
      · obtain ⟨i0, hi, hz0, hz1, hz2⟩ := info_parts info_ref
        have hnews := rdR_news Hrd.out
        have Hnews := Lib.hid hnews
        have hones := Lib.hid (refs_one xs)
        have hsz := Htot.out
        have hsz2 := Hle.out
        rw [Hgot.out, List.length_append] at hsz2
        clear hnews
        have hfd := field_refs dd
        go_wp2_with (first | (at_lookup; refine lookH1 _ rfl _ _ rfl bm n l rfl Hown.out key rfl hkwf _ Hheld.out ?_) | (at_builtin; refine wpList_append_own _ rfl _ _ 44 rfl W5.heap.size 47 i0 (.agg #[.int .i64 0, .int .i64 0, .int .u32 0]) 3 24 Tryz.underlying44 hi hz0 hz1 hz2 rfl (by decide) _ _ _ rfl Hrow.out ad xs.length c' (xs.flatMap Ref.cells) rfl (refs_length xs) Hnews.out hones.out (by unfold maxLen; omega) (by omega) hE.size ?_; intro v' w1 hown hgrow hnil'))
        exact refs_round hlt Hgot hown (hE.grown hgrow (fun j hj => (Hrow.out.lt j hj).1))
    · have hlt' : ¬ (k : Int) < (l.length : Int) := by omega
      have hk : k = l.length := by omega
      have hfin : got xss k = xss.flatten := by rw [got, List.take_of_length_le (by have := Hx.out.1; omega)]
      rw [hfin] at hrow
      have Hrow := Lib.hid hrow
      have hE2 := hE50.trans hE
      clear hrow
      go_wp2
      go_ret
      exact ⟨_, rfl, Rd.of_own Hrow.out (by have := Htot.out; omega) fun j x hx => ⟨x.cells, rfl, refs_cells _ j x hx⟩, hE2⟩
end Go.Proofs.YtknfaabhlcdeoaaGreatDoor
