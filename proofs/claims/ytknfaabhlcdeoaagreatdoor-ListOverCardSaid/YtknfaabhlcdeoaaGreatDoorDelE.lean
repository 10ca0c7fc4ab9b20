/- slices.IndexFunc, Clone and DeleteFunc at entries. -/
import Derived.Test.YtknfaabhlcdeoaaGreatDoorSortE
import Derived.Test.YtknfaabhlcdeoaaGreatDoorFew
import Derived.Test.YtknfaabhlcdeoaaGreatDoorBut
import Derived.Laws.OwnMore
import Derived.Lib.SliceRun
import Derived.Maps.AppendAt
import Derived.Laws.IdiomCopy
namespace Go.Proofs.YtknfaabhlcdeoaaGreatDoor
open Go Go.RowKit Go.Shelf Go.Proofs

/-- A closure that asks entries, with one thing bound; what it leans on stays. -/
structure Asks (g cb : Nat) (p : Ent → Bool) (Q : World → Prop) : Prop where
  enter : ∀ args w, (callFunc g args).run Tryz.prog w = .ok (.enter g args) w
  call : ∀ (x : Ent) (W : World), x.fits → Q W → Calls Tryz.prog g #[.agg #[.string x.path, .int .i64 x.kind, .string x.data], .pointer (some ⟨cb, 0, none⟩)] W fun e w' => e = .returned (.bool (p x)) ∧ Ext W w'
  ext : ∀ W W', Q W → Ext W W' → Q W'

/-- The first that is meant, or -1. -/
def idxP (p : Ent → Bool) (l : List Ent) : Int := match l.findIdx? p with
  | some k => k
  | none => -1

theorem idxP_none {p : Ent → Bool} {l : List Ent} (h : ∀ x ∈ l, p x = false) : idxP p l = -1 := by
  have : l.findIdx? p = none := List.findIdx?_eq_none_iff.2 fun x hx => by simpa using h x hx
  rw [idxP, this]
theorem idxP_some {p : Ent → Bool} {l : List Ent} {k : Nat} (hk : k < l.length) (h : p l[k] = true) (hb : ∀ (t : Nat) (h : t < l.length), t < k → p l[t] = false) : idxP p l = k := by
  have : l.findIdx? p = some k := by
    rw [List.findIdx?_eq_some_iff_getElem]
    refine ⟨hk, h, fun j hj => ?_⟩
    simp [hb j (by omega) hj]
  rw [idxP, this]

set_option maxHeartbeats 2000000 in
theorem IdxE_any {g cb : Nat} {p : Ent → Bool} {Q : World → Prop} (hA : Asks g cb p Q) (v : Value) (l : List Ent) (w : World) (hv : RdE w v l) (hQ : Q w) :
    Calls Tryz.prog 153 #[v, .func (.func g) #[] #[.pointer (some ⟨cb, 0, none⟩)]] w fun e w' => e = .returned (.int .i64 (idxP p l)) ∧ Ext w w' := by
  obtain ⟨n, hn⟩ : ∃ n, n = l.length := ⟨_, rfl⟩
  have Hn := Lib.hid hn
  have hlen := Rd.len hv
  obtain ⟨A, c, rfl, hc1, hc2, Hcell⟩ := rdE_form hv hn
  rw [← hn] at hlen
  have eg := hA.enter
  clear hn hv
  go_enter Tryz.func153, Tryz.ntmps153
  go_wp2
  go_loopw [8] (fun i wr => ∃ k : Nat, i = .int .i64 k ∧ k ≤ n ∧ Hid (∀ (t : Nat) (h : t < l.length), t < k → p l[t] = false) ∧ Ext w wr) (fun i _ => n - (intOf i).toNat)
  case atStart => exact ⟨0, rfl, Nat.zero_le _, Lib.hid fun t _ h => absurd h (Nat.not_lt_zero t), Ext.refl _⟩
  case round =>
    obtain ⟨k, rfl, hkn, hall, hE⟩ := hrel
    by_cases hlt : k < n
    · have hh : k < l.length := by have := Hn.out; omega
      obtain ⟨b, o, rfl, hcell⟩ := Hcell.out (List.ne_nil_of_length_pos (by omega))
      obtain ⟨q0, q1, q2, hf⟩ := hcell k hh
      obtain ⟨x, hx⟩ : ∃ x, l[k]'hh = x := ⟨_, rfl⟩
      rw [hx] at q0 q1 q2 hf
      have g0 := hE.cell q0
      have g1 := hE.cell q1
      have g2 := hE.cell q2
      have Hx := Lib.hid hx
      have HC := hA.call x wr hf (hA.ext _ _ hQ hE)
      clear q0 q1 q2 hx hcell
      rcases hp : p x with _ | _
      · rw [hp] at HC
        have Hp := Lib.hid hp
        clear hp
        go_wp2_with (go_at_fn g; refine HC.mono ?_; rintro e W2 ⟨rfl, hE2⟩)
        refine ⟨⟨k + 1, by simp, by omega, Lib.hid fun t ht htk => ?_, hE.trans hE2⟩, by simp [intOf]; omega⟩
        by_cases e : t = k
        · subst e; rw [Hx.out]; exact Hp.out
        · exact hall.out t ht (by omega)
      · rw [hp] at HC
        have hi : idxP p l = k := idxP_some hh (by rw [Hx.out]; exact hp) hall.out
        clear hp
        go_wp2_with (go_at_fn g; refine HC.mono ?_; rintro e W2 ⟨rfl, hE2⟩)
        go_ret
        exact ⟨by first | rfl | (rw [hi]; rfl), hE.trans hE2⟩
    · have hi : idxP p l = -1 := idxP_none fun x hx => by
        obtain ⟨t, ht, rfl⟩ := List.getElem_of_mem hx
        exact hall.out t ht (by have := Hn.out; omega)
      go_wp2
      go_ret
      exact ⟨by first | rfl | (rw [hi]; rfl), hE⟩

theorem info_ent : (Tryz.prog.info? 33).map (fun i => (i.zero, i.size, i.bytes)) = some (some (.agg #[.string ⟨#[]⟩, .int .i64 0, .string ⟨#[]⟩]), 3, 40) := by kernel_rfl

theorem RdE.of_own {w : World} {base e : Nat} {v : Value} {xs : List Ent} (h : w.ownsRow base e 3 v xs.length (flatE xs)) (hl : xs.length ≤ 1000000000) (hf : ∀ x ∈ xs, x.fits) : RdE w v xs :=
  Rd.of_own h (by omega) fun j x hj => ⟨x.cells, ⟨rfl, hf x (List.mem_of_getElem? hj)⟩, ents_cells xs j x hj⟩
theorem RdE.fits {w : World} {v : Value} {xs : List Ent} (h : RdE w v xs) : ∀ x ∈ xs, x.fits := by
  intro x hx
  obtain ⟨j, hj, rfl⟩ := List.getElem_of_mem hx
  obtain ⟨b, o, c, _, _, _, hc⟩ := RdE.open_ h (List.ne_nil_of_mem hx)
  exact (hc j hj).2.2.2

/-- What Clone answers. -/
def CloneE (xs : List Ent) (w : World) (e : Ending) (w' : World) : Prop := ∃ v, e = .returned v ∧ w'.ownsRow w.heap.size 33 3 v xs.length (flatE xs) ∧ Ext w w'

set_option maxHeartbeats 4000000 in
theorem CloneE_any (v : Value) (xs : List Ent) (w : World) (hv : RdE w v xs) (hl : xs.length ≤ 1000000000) :
    Calls Tryz.prog 84 #[v] w (CloneE xs w) := by
  have q := fun (w : World) (a : Option Addr) (n c n' c' : Nat) => Lib.run_eql_slice_nil (P := Tryz.prog) w _ _ a n c n' c' Tryz.underlying34
  obtain ⟨A, c, rfl, h1, h2, h3, hne⟩ := id hv
  rcases A with _ | ad
  · have h0 : xs = [] := Classical.byContradiction fun e => by obtain ⟨b, o, h, _⟩ := hne e; cases h
    subst h0
    clear hv hne
    go_enter Tryz.func84, Tryz.ntmps84
    go_wp2
    go_ret
    exact ⟨_, rfl, World.ownsRow_nil _ _ _ _, Ext.refl _⟩
  · obtain ⟨i0, hi, hz0, hz1, hz2⟩ := info_parts info_ent
    have hnews : ∀ (j : Nat) u, (flatE xs)[j]? = some u → w.cell? (ad.add j) = some u := by
      intro j u hj
      obtain ⟨j', x, i, hx, hxi, rfl⟩ := ents_at xs j u hj
      obtain ⟨b, o, e, hc⟩ := hne (by rintro rfl; simp at hx)
      cases e
      obtain ⟨cs, ⟨rfl, _⟩, hu⟩ := hc j' x hx
      have := hu i u hxi
      rw [Addr.add_lit, ← Nat.add_assoc]
      exact this
    have Hnews := Lib.hid hnews
    obtain ⟨n, hn⟩ : ∃ n, n = xs.length := ⟨_, rfl⟩
    have Hn := Lib.hid hn
    have hlen := ents_length xs
    rw [← hn] at h1 h3 hl hlen ⊢
    clear hv hne hnews hn
    go_enter Tryz.func84, Tryz.ntmps84
    go_wp2_with (at_builtin; refine wpList_append_own _ rfl _ _ 34 rfl w.heap.size 33 i0 (.agg #[.string ⟨#[]⟩, .int .i64 0, .string ⟨#[]⟩]) 3 40 Tryz.underlying34 hi hz0 hz1 hz2 rfl (by decide) _ _ _ rfl (World.ownsRow_made w #[] 0 (Nat.le_refl _) (Nat.zero_le _) rfl) ad n c (flatE xs) rfl ?qc1 ?qc2 ?qc3 ?qc4 ?qc5 ?qc6 ?_)
    case qc1 => exact hlen
    case qc2 =>
      intro j u hj
      exact Lib.cell?_alloc_some _ (Hnews.out j u hj)
    case qc3 => exact ents_one xs
    case qc4 => unfold maxLen; omega
    case qc5 => omega
    case qc6 => simp
    intro v' w1 hown hgrow hnil
    have hown' : w1.ownsRow w.heap.size 33 3 v' n (flatE xs) := by simpa using hown
    obtain ⟨A', c', rfl⟩ := own_form hown'
    go_wp2
    go_ret
    refine ⟨_, rfl, by rw [← Hn.out]; exact hown', Ext.grown (by exact (by repeat (first | exact Ext.refl _ | assumption | refine Ext.alloc ?_ _ | refine Ext.drew ?_ | refine Ext.drewN ?_ _ | refine Ext.setCell ?_ (by first | omega | (simp; done) | (simp; omega)) _ | refine Ext.trans ?_ (by assumption)))) hgrow (by intro k hk; simp [Value.ownBlock] at hk; omega)⟩

/-! ### DeleteFunc -/

theorem own_cut {w : World} {base e g n cap i : Nat} {xs : List Value} (h : w.ownsRow base e 3 (.slice (some ⟨g, 0, none⟩) n cap) n xs) (hi : i ≤ n) : w.ownsRow base e 3 (.slice (some ⟨g, 0, none⟩) i cap) i (xs.take (i * 3)) := by
  obtain ⟨h1, h2⟩ := h
  rcases h2 with ⟨e1, _⟩ | ⟨g', cap', cur, e1, hb, hh, h3, h4, h5, h6⟩
  · cases e1
  · cases e1
    refine ⟨by rw [List.length_take, h1]; omega, .inr ⟨g, cap, cur, rfl, hb, hh, by omega, h4, h5, ?_⟩⟩
    rw [← h6, List.take_take, Nat.min_eq_left (by omega)]

theorem own_setCells {base e g n cap : Nat} : ∀ (L : List Value) (o : Nat) (w : World) (xs : List Value), w.ownsRow base e 3 (.slice (some ⟨g, 0, none⟩) n cap) n xs →
    ∃ xs', (w.setCells g o L).ownsRow base e 3 (.slice (some ⟨g, 0, none⟩) n cap) n xs' ∧ xs'.take o = xs.take o ∧ w.grownBy (w.setCells g o L) (some g)
  | [], o, w, xs, h => ⟨xs, h, rfl, ⟨rfl, rfl, rfl, Nat.le_refl _, fun _ _ _ => rfl⟩⟩
  | u :: L, o, w, xs, h => by
    obtain ⟨h1, h2⟩ := h.stored o u
    obtain ⟨xs', h3, h4, h5⟩ := own_setCells L (o + 1) _ _ h1
    refine ⟨xs', h3, ?_, h2.trans h5⟩
    have h6 := congrArg (List.take o) h4
    rw [List.take_take, List.take_take, Nat.min_eq_left (by omega), List.take_set_of_le (by omega)] at h6
    exact h6

/-- The zero cells of so many entries. -/
def zerosE (n : Nat) : List Value := (Builtin.zeroCells #[.string ⟨#[]⟩, .int .i64 0, .string ⟨#[]⟩] n).toList
theorem zerosE_len (n : Nat) : (zerosE n).length = n * 3 := by simp [zerosE, Builtin.zeroCells]
theorem zerosE_one (n : Nat) : ∀ v ∈ zerosE n, v.oneCell' = true := by
  intro v hv
  simp only [zerosE, Builtin.zeroCells, Array.toList_map, List.mem_map] at hv
  obtain ⟨i, _, rfl⟩ := hv
  have h3 : i % 3 = 0 ∨ i % 3 = 1 ∨ i % 3 = 2 := by omega
  rcases h3 with h | h | h <;> simp [h, Value.oneCell']

theorem run_clear_ents {w : World} {base g i n cap : Nat} {xs : List Value} (h : w.ownsRow base 33 3 (.slice (some ⟨g, 0, none⟩) n cap) n xs) (hi : i < n) (ty : TypeId) :
    (Builtin.clear_ #[34] ty #[.slice (some ⟨g, i * 3, none⟩) (n - i) (cap - i)]).run Tryz.prog w = .ok (.tuple #[]) (w.setCells g (i * 3) (zerosE (n - i))) := by
  have hv : ∀ w, (zeroValue 33).run Tryz.prog w = .ok (.agg #[.string ⟨#[]⟩, .int .i64 0, .string ⟨#[]⟩]) w := fun w => by kernel_rfl
  have hlen : xs.length = n * 3 := h.1
  have hst := run_storeCells_cells (P := Tryz.prog) g (i * 3) (zerosE (n - i)) 0 w (fun j hj => by
    rw [zerosE_len] at hj
    rw [Nat.add_zero, h.cellAt (i * 3 + j) (by omega), List.getElem?_eq_getElem (by omega)]
    rfl) (fun j hj => h.frozenAt _) (zerosE_one _)
  simp only [Nat.add_zero] at hst
  obtain ⟨m, hm⟩ : ∃ m, n - i = m + 1 := ⟨n - i - 1, by omega⟩
  rw [hm] at hst ⊢
  simp only [zerosE] at hst ⊢
  simp [Builtin.clear_, run_underlying Tryz.underlying34, hv, hst, Value.cells]

theorem flatE_cons (x : Ent) (xs : List Ent) : flatE (x :: xs) = x.cells ++ flatE xs := rfl
theorem flat_take (xs : List Ent) : ∀ i : Nat, (flatE xs).take (i * 3) = flatE (xs.take i) := by
  induction xs with
  | nil => intro i; simp [flatE]
  | cons x xs ih =>
    intro i
    rcases i with _ | i
    · simp [flatE]
    · have : x.cells.length = 3 := rfl
      rw [flatE_cons, List.take_succ_cons, flatE_cons, List.take_append, List.take_of_length_le (by omega), this, show (i + 1) * 3 - 3 = i * 3 by omega, ih]
theorem flat_set (xs : List Ent) (x : Ent) : ∀ i : Nat, i < xs.length → flatE (xs.set i x) = (((flatE xs).set (i * 3) (.string x.path)).set (i * 3 + 1) (.int .i64 x.kind)).set (i * 3 + 2) (.string x.data) := by
  induction xs with
  | nil => intro i h; simp at h
  | cons y xs ih =>
    intro i h
    rcases i with _ | i
    · rfl
    · have h1 := ih i (by simpa using h)
      rw [List.set_cons_succ, flatE_cons, h1, flatE_cons]
      have e1 : (i + 1) * 3 = i * 3 + 1 + 1 + 1 := by omega
      rw [e1]
      rfl

/-- The loop's relation. -/
def DelRel (p : Ent → Bool) (Q : World → Prop) (xs : List Ent) (base g n cap : Nat) (w0 : World) (s5 s6 : Value) (wr : World) : Prop :=
  ∃ (i j : Nat) (ys : List Ent), s5 = .int .i64 i ∧ s6 = .int .i64 j ∧ i < j ∧ j ≤ n ∧ ys.length = n ∧ wr.ownsRow base 33 3 (.slice (some ⟨g, 0, none⟩) n cap) n (flatE ys) ∧ Hid (ys.take i = (xs.take j).filter (fun x => !p x)) ∧ Hid (ys.drop j = xs.drop j) ∧ Ext w0 wr ∧ Q wr

theorem del_skip {p : Ent → Bool} {Q : World → Prop} {xs ys : List Ent} {base g n cap i j : Nat} {w0 w : World} (hij : i < j) (hlt : j < n) (hys : ys.length = n) (Hn : Hid (xs.length = n)) (hrow : w.ownsRow base 33 3 (.slice (some ⟨g, 0, none⟩) n cap) n (flatE ys))
    (ht : Hid (ys.take i = (xs.take j).filter (fun x => !p x))) (hd : Hid (ys.drop j = xs.drop j)) (hE : Ext w0 w) (hQ : Q w) {x : Ent} (hx : Hid (xs[j]? = some x)) (hp : p x = true) :
    DelRel p Q xs base g n cap w0 (.int .i64 i) (.int .i64 ((j : Int) + 1)) w ∧ n - (intOf (.int .i64 ((j : Int) + 1))).toNat < n - (intOf (.int .i64 (j : Int))).toNat := by
  have hj : j < xs.length := by rw [Hn.out]; exact hlt
  have hxj : xs[j] = x := by have := hx.out; rw [List.getElem?_eq_getElem hj] at this; exact Option.some.inj this
  refine ⟨⟨i, j + 1, ys, rfl, by simp, by omega, by omega, hys, hrow, Lib.hid ?_, Lib.hid ?_, hE, hQ⟩, by simp [intOf]; omega⟩
  · rw [← List.take_append_getElem hj, List.filter_append, ht.out, hxj]
    simp [hp]
  · rw [← List.drop_drop, ← List.drop_drop, hd.out]

theorem del_keep {p : Ent → Bool} {Q : World → Prop} {xs ys : List Ent} {base g n cap i j : Nat} {w0 w : World} (hij : i < j) (hlt : j < n) (hys : ys.length = n) (Hn : Hid (xs.length = n)) {x : Ent} (hrow : w.ownsRow base 33 3 (.slice (some ⟨g, 0, none⟩) n cap) n (flatE (ys.set i x)))
    (ht : Hid (ys.take i = (xs.take j).filter (fun x => !p x))) (hd : Hid (ys.drop j = xs.drop j)) (hE : Ext w0 w) (hQ : Q w) (hx : Hid (xs[j]? = some x)) (hp : p x = false) :
    DelRel p Q xs base g n cap w0 (.int .i64 ((i : Int) + 1)) (.int .i64 ((j : Int) + 1)) w ∧ n - (intOf (.int .i64 ((j : Int) + 1))).toNat < n - (intOf (.int .i64 (j : Int))).toNat := by
  have hj : j < xs.length := by rw [Hn.out]; exact hlt
  have hxj : xs[j] = x := by have := hx.out; rw [List.getElem?_eq_getElem hj] at this; exact Option.some.inj this
  refine ⟨⟨i + 1, j + 1, ys.set i x, by simp, by simp, by omega, by omega, by rw [List.length_set, hys], hrow, Lib.hid ?_, Lib.hid ?_, hE, hQ⟩, by simp [intOf]; omega⟩
  · rw [← List.take_append_getElem hj, List.filter_append, ← ht.out, hxj, ← List.take_append_getElem (by rw [List.length_set]; omega : i < (ys.set i x).length), List.take_set_of_le (Nat.le_refl i)]
    simp [hp]
  · rw [List.drop_set_of_lt (by omega : i < j + 1), ← List.drop_drop, ← List.drop_drop, hd.out]

theorem q_setCells {Q : World → Prop} {g : Nat} (h : ∀ (W : World) (j : Nat) (u : Value), Q W → Q (W.setCell ⟨g, j, none⟩ u)) : ∀ (L : List Value) (o : Nat) (W : World), Q W → Q (W.setCells g o L)
  | [], _, _, hq => hq
  | u :: L, o, W, hq => q_setCells h L (o + 1) _ (h W o u hq)

def DelAns (p : Ent → Bool) (Q : World → Prop) (xs : List Ent) (base : Nat) (w0 : World) (e : Ending) (w' : World) : Prop :=
  ∃ v', e = .returned v' ∧ w'.ownsRow base 33 3 v' (xs.filter fun x => !p x).length (flatE (xs.filter fun x => !p x)) ∧ Ext w0 w' ∧ Q w'
def DelAnsF (p : Ent → Bool) (Q : World → Prop) (xs : List Ent) (base : Nat) (w0 : World) (v : Value) (e : Ending) (w' : World) : Prop :=
  ∃ v', e = .returned v' ∧ w'.ownsRow base 33 3 v' (xs.filter fun x => !p x).length (flatE (xs.filter fun x => !p x)) ∧ Ext w0 w' ∧ Q w' ∧ v'.ownBlock = v.ownBlock

set_option maxHeartbeats 8000000 in
set_option maxRecDepth 20000 in
theorem DelF_any {g cb : Nat} {p : Ent → Bool} {Q : World → Prop} (hA : Asks g cb p Q) (base : Nat) (v : Value) (hQs : ∀ (W : World) (gb j : Nat) (u : Value), v.ownBlock = some gb → Q W → Q (W.setCell ⟨gb, j, none⟩ u)) (xs : List Ent) (w0 w : World) (hE0 : Ext w0 w) (hb0 : w0.heap.size ≤ base)
    (hrow : w.ownsRow base 33 3 v xs.length (flatE xs)) (hl : xs.length ≤ 1000000) (hf : ∀ x ∈ xs, x.fits) (hQ : Q w) :
    Calls Tryz.prog 150 #[v, .func (.func g) #[] #[.pointer (some ⟨cb, 0, none⟩)]] w (DelAnsF p Q xs base w0 v) := by
  have hI := IdxE_any hA v xs w (RdE.of_own hrow (by omega) hf) hQ
  rcases hi : xs.findIdx? p with _ | k0
  · have hnone : ∀ x ∈ xs, p x = false := fun x hx => by simpa using List.findIdx?_eq_none_iff.1 hi x hx
    rw [idxP_none hnone] at hI
    have hfil : xs.filter (fun x => !p x) = xs := List.filter_eq_self.2 fun x hx => by simp [hnone x hx]
    have Hrow := Lib.hid hrow
    have Hfil := Lib.hid hfil
    obtain ⟨A, c, rfl⟩ := own_form hrow
    clear hi hnone hrow hfil
    go_enter Tryz.func150, Tryz.ntmps150
    go_wp2_with (go_at_call 153; refine hI.mono ?_; rintro e W1 ⟨rfl, hE1⟩)
    go_ret
    exact ⟨_, rfl, by rw [Hfil.out]; exact own_ext Hrow.out hE1, hE0.trans hE1, hA.ext _ _ hQ hE1, rfl⟩
  · obtain ⟨hk, hpk, hbef⟩ := List.findIdx?_eq_some_iff_getElem.1 hi
    have hI2 : idxP p xs = (k0 : Int) := by rw [idxP, hi]
    rw [hI2] at hI
    have hne1 : ((k0 : Int) == -1) = false := beq_eq_false_iff_ne.2 (by omega)
    obtain ⟨n, hn⟩ : ∃ n, xs.length = n := ⟨_, rfl⟩
    rw [hn] at hrow hl hk
    obtain ⟨A, cap, rfl⟩ := own_form hrow
    obtain ⟨gb, rfl⟩ : ∃ gb, A = some ⟨gb, 0, none⟩ := by
      rcases hrow.2 with ⟨e, h0⟩ | ⟨gb, _, _, e, _⟩
      · cases e; omega
      · cases e; exact ⟨_, rfl⟩
    have hstart : Hid (xs.take k0 = (xs.take (k0 + 1)).filter fun x => !p x) := Lib.hid (by
      rw [← List.take_append_getElem (by omega : k0 < xs.length), List.filter_append, List.filter_eq_self.2 (fun x hx => by
        obtain ⟨t, ht, rfl⟩ := List.getElem_of_mem hx
        rw [List.length_take] at ht
        rw [List.getElem_take]
        have := hbef t (by omega)
        simpa using this)]
      simp [hpk])
    have Hn := Lib.hid hn
    have Hrow := Lib.hid hrow
    have hcap : n ≤ cap := by
      rcases hrow.2 with ⟨e, _⟩ | ⟨_, _, _, e, _, _, h, _⟩
      · cases e
      · cases e; exact h
    have hcapm : cap ≤ 9223372036854775807 := by
      rcases hrow.2 with ⟨e, _⟩ | ⟨_, _, _, e, _, _, _, h, _⟩
      · cases e
      · cases e; simpa [maxLen] using h
    have eg := hA.enter
    have hgb : base ≤ gb := (hrow.lt gb rfl).1
    clear hi hpk hbef hI2 hn hrow
    go_enter Tryz.func150, Tryz.ntmps150
    go_wp2_with (go_at_call 153; refine hI.mono ?_; rintro e W1 ⟨rfl, hE1⟩)
    go_loopw [5, 6] (fun s5 s6 wr => DelRel p Q xs base gb n cap w0 s5 s6 wr) (fun _ s6 _ => n - (intOf s6).toNat)
    case atStart => exact ⟨k0, k0 + 1, xs, rfl, by simp, by omega, by omega, Hn.out, own_ext Hrow.out hE1, hstart, Lib.hid rfl, hE0.trans hE1, hA.ext _ _ hQ hE1⟩
    case round =>
      obtain ⟨i, j, ys, rfl, rfl, hij, hjn, hys, hrow, ht, hd, hE, hQ⟩ := hrel
      by_cases hlt : j < n
      · have hjy : j < ys.length := by omega
        have hiy : i < ys.length := by omega
        obtain ⟨x, hx⟩ : ∃ x, ys[j] = x := ⟨_, rfl⟩
        have hxs : xs[j]? = some x := by
          have h1 := congrArg (fun l => l[0]?) hd.out
          simp only [List.getElem?_drop, Nat.add_zero] at h1
          rw [← h1, List.getElem?_eq_getElem hjy, hx]
        obtain ⟨y, hy⟩ : ∃ y, ys[i] = y := ⟨_, rfl⟩
        have hj0 := ents_cells ys j x (by rw [List.getElem?_eq_getElem hjy, hx])
        have hi0 := ents_cells ys i y (by rw [List.getElem?_eq_getElem hiy, hy])
        have c0 : wr.cell? ⟨gb, j * 3, none⟩ = some (.string x.path) := (hrow.cellAt (j * 3) (by omega)).trans (hj0 0 _ rfl)
        have c1 : wr.cell? ⟨gb, j * 3 + 1, none⟩ = some (.int .i64 x.kind) := (hrow.cellAt (j * 3 + 1) (by omega)).trans (hj0 1 _ rfl)
        have c2 : wr.cell? ⟨gb, j * 3 + 2, none⟩ = some (.string x.data) := (hrow.cellAt (j * 3 + 2) (by omega)).trans (hj0 2 _ rfl)
        have Hxs := Lib.hid hxs
        have Hi0 := Lib.hid hi0
        have Hrw := Lib.hid hrow
        have hxf := hf x (List.mem_of_getElem? hxs)
        have HCl := fun W hQ => hA.call x W hxf hQ
        have HQ := hA.ext
        clear hj0 hi0 hx hxs hy hrow
        rcases hp : p x with _ | _
        · rw [hp] at HCl
          have Hp := Lib.hid hp
          clear hp
          go_wp2_with (go_at_fn g; refine (HCl _ (HQ _ _ hQ (by exact (by repeat (first | exact Ext.refl _ | assumption | refine Ext.alloc ?_ _ | refine Ext.drew ?_ | refine Ext.drewN ?_ _ | refine Ext.setCell ?_ (by first | omega | (simp; done) | (simp; omega)) _ | refine Ext.trans ?_ (by assumption)))))).mono ?_; rintro e W2 ⟨rfl, hE2'⟩; have hE2 : Ext wr W2 := Ext.trans (by exact (by repeat (first | exact Ext.refl _ | assumption | refine Ext.alloc ?_ _ | refine Ext.drew ?_ | refine Ext.drewN ?_ _ | refine Ext.setCell ?_ (by first | omega | (simp; done) | (simp; omega)) _ | refine Ext.trans ?_ (by assumption)))) hE2'; obtain ⟨⟨b0, _⟩, ⟨b1, _⟩, ⟨b2, _⟩⟩ := ((Blk.new wr 33 #[.string x.path, .int .i64 x.kind, .string x.data]).ext hE2').three; have hrw2 := own_ext Hrw.out hE2; have d0 : W2.cell? ⟨gb, i * 3, none⟩ = some (.string y.path) := (hrw2.cellAt (i * 3) (by omega)).trans (Hi0.out 0 _ rfl); have d1 : W2.cell? ⟨gb, i * 3 + 1, none⟩ = some (.int .i64 y.kind) := (hrw2.cellAt (i * 3 + 1) (by omega)).trans (Hi0.out 1 _ rfl); have d2 : W2.cell? ⟨gb, i * 3 + 2, none⟩ = some (.string y.data) := (hrw2.cellAt (i * 3 + 2) (by omega)).trans (Hi0.out 2 _ rfl); have f0 := hrw2.frozenAt (i * 3); have f1 := hrw2.frozenAt (i * 3 + 1); have f2 := hrw2.frozenAt (i * 3 + 2))
          have s1 := hrw2.stored (i * 3) (.string x.path)
          have s2 := s1.1.stored (i * 3 + 1) (.int .i64 x.kind)
          have s3 := s2.1.stored (i * 3 + 2) (.string x.data)
          have s4 := s3.1
          rw [← flat_set ys x i hiy] at s4
          refine del_keep hij hlt hys Hn s4 ht hd ?_ (hQs _ _ _ _ rfl (hQs _ _ _ _ rfl (hQs _ _ _ _ rfl (HQ _ _ hQ hE2)))) Hxs Hp.out
          exact (((hE.trans hE2).setCell (p := ⟨gb, i * 3, none⟩) (Nat.le_trans hb0 hgb) _).setCell (p := ⟨gb, i * 3 + 1, none⟩) (Nat.le_trans hb0 hgb) _).setCell (p := ⟨gb, i * 3 + 2, none⟩) (Nat.le_trans hb0 hgb) _
        · rw [hp] at HCl
          have Hp := Lib.hid hp
          clear hp
          go_wp2_with (go_at_fn g; refine (HCl _ (HQ _ _ hQ (by exact (by repeat (first | exact Ext.refl _ | assumption | refine Ext.alloc ?_ _ | refine Ext.drew ?_ | refine Ext.drewN ?_ _ | refine Ext.setCell ?_ (by first | omega | (simp; done) | (simp; omega)) _ | refine Ext.trans ?_ (by assumption)))))).mono ?_; rintro e W2 ⟨rfl, hE2'⟩)
          have hE2 : Ext wr W2 := Ext.trans (by exact (by repeat (first | exact Ext.refl _ | assumption | refine Ext.alloc ?_ _ | refine Ext.drew ?_ | refine Ext.drewN ?_ _ | refine Ext.setCell ?_ (by first | omega | (simp; done) | (simp; omega)) _ | refine Ext.trans ?_ (by assumption)))) hE2'
          exact del_skip hij hlt hys Hn (own_ext Hrw.out hE2) ht hd (hE.trans hE2) (HQ _ _ hQ hE2) Hxs Hp.out
      · have hjn2 : j = n := by omega
        subst hjn2
        have hcl := fun ty => run_clear_ents hrow hij ty
        have hfl : ys.take i = xs.filter fun x => !p x := by rw [ht.out, List.take_of_length_le (by rw [Hn.out]; omega)]
        have hil : i = (xs.filter fun x => !p x).length := by rw [← hfl, List.length_take, hys]; omega
        have Hfl := Lib.hid hfl
        have Hil := Lib.hid hil
        have Hrw := Lib.hid hrow
        clear hfl hil hrow
        go_wp2
        go_ret
        obtain ⟨xs', h1, h2, h3⟩ := own_setCells (zerosE (j - i)) (i * 3) wr (flatE ys) Hrw.out
        have h4 := own_cut h1 (Nat.le_of_lt hij)
        rw [h2, flat_take, Hfl.out] at h4
        refine ⟨_, rfl, by rw [← Hil.out]; exact h4, Ext.grown hE h3 (fun k hk => by cases hk; omega), q_setCells (fun W j u h => hQs W gb j u rfl h) _ _ _ hQ, rfl⟩

theorem DelE_any {g cb : Nat} {p : Ent → Bool} {Q : World → Prop} (hA : Asks g cb p Q) (base : Nat) (hQs : ∀ (W : World) (gb j : Nat) (u : Value), base ≤ gb → Q W → Q (W.setCell ⟨gb, j, none⟩ u)) (v : Value) (xs : List Ent) (w0 w : World) (hE0 : Ext w0 w) (hb0 : w0.heap.size ≤ base)
    (hrow : w.ownsRow base 33 3 v xs.length (flatE xs)) (hl : xs.length ≤ 1000000) (hf : ∀ x ∈ xs, x.fits) (hQ : Q w) :
    Calls Tryz.prog 150 #[v, .func (.func g) #[] #[.pointer (some ⟨cb, 0, none⟩)]] w (DelAns p Q xs base w0) :=
  (DelF_any hA base v (fun W gb j u h => hQs W gb j u (hrow.lt gb h).1) xs w0 w hE0 hb0 hrow hl hf hQ).mono fun e w' ⟨v', h1, h2, h3, h4, _⟩ => ⟨v', h1, h2, h3, h4⟩
end Go.Proofs.YtknfaabhlcdeoaaGreatDoor
