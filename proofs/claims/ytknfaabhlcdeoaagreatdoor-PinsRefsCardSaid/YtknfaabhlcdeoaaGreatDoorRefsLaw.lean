/- shalelaw22.PinsRefs is true. -/
import Derived.Test.YtknfaabhlcdeoaaGreatDoorRefs
import Derived.Test.YtknfaabhlcdeoaaGreatDoorNumLaw
import Derived.Maps.AppendAt
import Derived.Deep.AppendLies
import Derived.Laws.StructEq
import Derived.BigQuiet
import Derived.Deep.QuietTactic
namespace Go.Proofs.YtknfaabhlcdeoaaGreatDoor
open Go Go.RowKit Go.Shelf Go.Proofs Go.Maps

/-- A slice of bytes in memory. -/
def BytesIn (w : World) (v : Value) (xs : List Int) : Prop := (∀ x ∈ xs, 0 ≤ x ∧ x ≤ 255) ∧ ∃ A c, v = .slice A xs.length c ∧ xs.length ≤ c ∧ c ≤ 9223372036854775807 ∧ (xs ≠ [] → ∃ b o, A = some ⟨b, o, none⟩ ∧ ∀ (j : Nat) (h : j < xs.length), w.cell? ⟨b, o + j, none⟩ = some (.int .u8 xs[j]))

/-- The first j texts of the i-th handle. -/
def first (i j : Nat) : List Ref := (List.range j).map fun t : Nat => (⟨(i : Int), (t : Int), 0⟩ : Ref)
theorem first_len (i j : Nat) : (first i j).length = j := by simp [first]
theorem first_succ (i j : Nat) : first i (j + 1) = first i j ++ [⟨(i : Int), (j : Int), 0⟩] := by simp [first, List.range_succ]
/-- How many texts a handle has. -/
def many (c : Int) : Nat := (c % 4).toNat
/-- The handles' texts. -/
def texts (cs : List Int) : List (List Ref) := cs.zipIdx.map fun x => first x.2 (many x.1)
theorem texts_len (cs : List Int) : (texts cs).length = cs.length := by simp [texts]
theorem texts_at {cs : List Int} {i : Nat} (h : i < cs.length) : (texts cs)[i]'(by rw [texts_len]; exact h) = first i (many cs[i]) := by simp [texts]
/-- All but one handle's. -/
def but (xss : List (List Ref)) (k : Nat) : List (List Ref) := xss.eraseIdx k

/-- The table's blocks, and the block of want. -/
def Sof (tb bm : Nat) (v : Value) (k : Nat) : Prop := Two tb bm k ∨ v.ownBlock = some k

/-- The inner loop's relation. -/
def InnRel (W : World) (i q : Nat) (out jv : Value) (wr : World) : Prop :=
  ∃ j : Nat, jv = .int .i64 j ∧ j ≤ q ∧ wr.ownsRow W.heap.size 47 3 out j ((first i j).flatMap Ref.cells) ∧ Ext W wr

theorem inn_round {W : World} {i q j : Nat} {out : Value} {wr : World} (hj : j < q) (hrow : wr.ownsRow W.heap.size 47 3 out (j + 1) ((first i j).flatMap Ref.cells ++ [.int .i64 i, .int .i64 j, .int .u32 0])) (hE : Ext W wr) :
    InnRel W i q out (.int .i64 ((j : Int) + 1)) wr ∧ q - (intOf (.int .i64 ((j : Int) + 1))).toNat < q - (intOf (.int .i64 (j : Int))).toNat := by
  refine ⟨⟨j + 1, by simp, by omega, ?_, hE⟩, by simp [intOf]; omega⟩
  rw [first_succ, List.flatMap_append]
  exact hrow

/-- The handles in memory. -/
def HsIn (w : World) (S : Nat → Prop) (l : LH) (xss : List (List Ref)) : Prop :=
  xss.length = l.length ∧ (∀ t (h : t < l.length), (l[t]).1 = (t : Int) + 1) ∧
    ∀ t (h : t < l.length) (h' : t < xss.length), ∃ A c, (l[t]).2.2 = .slice A (xss[t]).length c ∧ RdR w (.slice A (xss[t]).length c) (xss[t]) ∧ (A = none → c = 0) ∧ Off S (.slice A (xss[t]).length c) ∧ Off (fun k => w.heap.size ≤ k) (.slice A (xss[t]).length c)

theorem Off.mono {S S' : Nat → Prop} {v : Value} (h : Off S v) (hs : ∀ k, S' k → S k) : Off S' v := fun b o n c e hb => h b o n c e (hs b hb)

theorem hs_step {w w' : World} {S : Nat → Prop} {l : LH} {xss : List (List Ref)} (h : HsIn w S l xss) (hb : But S w w') : HsIn w' S l xss := by
  refine ⟨h.1, h.2.1, fun t ht ht' => ?_⟩
  obtain ⟨A, c, e, hr, hn, ho, hw⟩ := h.2.2 t ht ht'
  exact ⟨A, c, e, Rd.but (fun _ _ _ _ h => h) hr hb ho, hn, ho, hw.mono fun k hk => Nat.le_trans hb.size hk⟩

theorem hs_snoc {w : World} {S : Nat → Prop} {l : LH} {xss : List (List Ref)} {d : ByteArray} {A : Option Addr} {c : Nat} {xs : List Ref} (h : HsIn w S l xss) (hr : RdR w (.slice A xs.length c) xs) (hn : A = none → c = 0)
    (ho : Off S (.slice A xs.length c)) (hw : Off (fun k => w.heap.size ≤ k) (.slice A xs.length c)) : HsIn w S (l ++ [((l.length : Int) + 1, d, .slice A xs.length c)]) (xss ++ [xs]) := by
  refine ⟨by simp [h.1], fun t ht => ?_, fun t ht ht' => ?_⟩
  · rw [List.length_append, List.length_singleton] at ht
    rcases Nat.lt_or_ge t l.length with hlt | hge
    · rw [List.getElem_append_left hlt]; exact h.2.1 t hlt
    · have : t = l.length := by omega
      subst this
      simp
  · rw [List.length_append, List.length_singleton] at ht
    rcases Nat.lt_or_ge t l.length with hlt | hge
    · have hlt' : t < xss.length := by rw [h.1]; exact hlt
      obtain ⟨A', c', e, r⟩ := h.2.2 t hlt hlt'
      refine ⟨A', c', ?_, ?_⟩
      · simp only [List.getElem_append_left hlt, List.getElem_append_left hlt']; exact e
      · simp only [List.getElem_append_left hlt']; exact r
    · have : t = l.length := by omega
      subst this
      refine ⟨A, c, ?_, ?_⟩
      · simp [← h.1]
      · have e : (xss ++ [xs])[l.length]'ht' = xs := by simp [← h.1]
        simp only [e]
        exact ⟨hr, hn, ho, hw⟩

theorem but_snoc (xss : List (List Ref)) (xs : List Ref) (kk : Nat) : but (xss ++ [xs]) kk = if xss.length = kk then but xss kk else but xss kk ++ [xs] := by
  rw [but, but]
  split
  · rename_i h
    subst h
    rw [List.eraseIdx_append_of_length_le (Nat.le_refl _), Nat.sub_self, List.eraseIdx_of_length_le (Nat.le_refl _)]
    simp
  · rename_i h
    rcases Nat.lt_or_ge kk xss.length with h1 | h1
    · rw [List.eraseIdx_append_of_lt_length h1]
    · rw [List.eraseIdx_append_of_length_le h1, List.eraseIdx_of_length_le h1, List.eraseIdx_of_length_le (by simp; omega)]

theorem texts_take {cs : List Int} {k : Nat} (h : k < cs.length) : (texts cs).take (k + 1) = (texts cs).take k ++ [first k (many cs[k])] := by
  rw [← texts_at h, List.take_append_getElem]

theorem own_butS {w w' : World} {S : Nat → Prop} {base e size n : Nat} {v : Value} {xs : List Value} (h : w.ownsRow base e size v n xs) (hb : But S w w') (hs : ∀ k, S k → k < base) : w'.ownsRow base e size v n xs := by
  obtain ⟨h1, h2⟩ := h
  refine ⟨h1, ?_⟩
  rcases h2 with h2 | ⟨g, cap, cur, hv, hg, hh, r⟩
  · exact Or.inl h2
  · refine Or.inr ⟨g, cap, cur, hv, hg, ?_, r⟩
    rw [hb.block g (Array.getElem?_eq_some_iff.1 hh).1 (fun e => by have := hs g e; omega)]
    exact hh

/-- The outer loop's relation. -/
def OutRel (w : World) (tb bm b b' nb kk base : Nat) (cs : List Int) (want i : Value) (wr : World) : Prop :=
  ∃ (k : Nat) (l : LH), i = .int .i64 k ∧ k ≤ nb ∧ l.length = k ∧ base ≤ wr.heap.size ∧ PT wr tb bm k k l ∧ HsIn wr (Sof tb bm want) l ((texts cs).take k) ∧ Ext w wr ∧
    Blk wr b 33 #[.string pa, .int .i64 1, .string ⟨#[]⟩] ∧ Blk wr b' 34 #[.slice (some ⟨b, 0, none⟩) 1 1] ∧
    wr.ownsRow base 47 3 want ((but ((texts cs).take k) kk).flatten).length (((but ((texts cs).take k) kk).flatten).flatMap Ref.cells)

theorem but_grown {w w' : World} {v : Value} (h : w.grownBy w' v.ownBlock) : But (fun k => v.ownBlock = some k) w w' :=
  ⟨h.os, h.tape, h.output, h.size, fun k hk hs => h.block k hk (fun e => hs e.symm)⟩

/-- The want's row is another, or has grown. -/
theorem hs_want {w w' : World} {tb bm : Nat} {v v' : Value} {l : LH} {xss : List (List Ref)} (h : HsIn w (Sof tb bm v) l xss) (hg : w.grownBy w' v.ownBlock) (hat : v'.ownBlock = v.ownBlock ∨ v'.ownBlock = some w.heap.size) : HsIn w' (Sof tb bm v') l xss := by
  refine ⟨h.1, h.2.1, fun t ht ht' => ?_⟩
  obtain ⟨A, c, e, hr, hn, ho, hw⟩ := h.2.2 t ht ht'
  refine ⟨A, c, e, Rd.but (fun _ _ _ _ h => h) hr (but_grown hg) (ho.mono fun k hk => .inr hk), hn, fun b o n c' hb hs => ?_, hw.mono fun k hk => Nat.le_trans hg.size hk⟩
  rcases hs with hs | hs
  · exact ho b o n c' hb (.inl hs)
  · rcases hat with h1 | h1
    · exact ho b o n c' hb (.inr (h1 ▸ hs))
    · rw [h1] at hs
      cases hs
      exact hw _ _ _ _ hb (Nat.le_refl _)

theorem flat_le : ∀ (L : List (List Ref)), (∀ y ∈ L, y.length ≤ 3) → L.flatten.length ≤ 3 * L.length
  | [], _ => by simp
  | y :: L, h => by
    have h1 := flat_le L (fun z hz => h z (by simp [hz]))
    have h2 := h y (by simp)
    rw [List.flatten_cons, List.length_append, List.length_cons]
    omega
theorem but_len (cs : List Int) (k kk : Nat) : ((but ((texts cs).take k) kk).flatten).length ≤ 3 * cs.length := by
  have h1 : (but ((texts cs).take k) kk).length ≤ cs.length := by
    refine Nat.le_trans (List.length_eraseIdx_le _ _) ?_
    rw [List.length_take, texts_len]
    omega
  have h2 := flat_le (but ((texts cs).take k) kk) (fun y hy => by
    have hy2 : y ∈ texts cs := List.mem_of_mem_take (List.mem_of_mem_eraseIdx hy)
    rw [texts, List.mem_map] at hy2
    obtain ⟨x, _, rfl⟩ := hy2
    rw [first_len, many]
    omega)
  omega

theorem out_same {W0 W4 : World} {tb bm b b' nb kk base k : Nat} {cs : List Int} {want : Value} {l : LH} {x : Int × ByteArray × Value} (hk : k < nb) (hh : k < cs.length) (he : k = kk) (hl : l.length = k) (hbase : base ≤ W4.heap.size) (ht : PT W4 tb bm (k + 1) ((k : Int) + 1) (l ++ [x])) (hH : HsIn W4 (Sof tb bm want) (l ++ [x]) ((texts cs).take (k + 1)))
    (hE : Ext W0 W4) (hb : Blk W4 b 33 #[.string pa, .int .i64 1, .string ⟨#[]⟩]) (hb' : Blk W4 b' 34 #[.slice (some ⟨b, 0, none⟩) 1 1])
    (hw : W4.ownsRow base 47 3 want ((but ((texts cs).take k) kk).flatten).length (((but ((texts cs).take k) kk).flatten).flatMap Ref.cells)) :
    OutRel W0 tb bm b b' nb kk base cs want (.int .i64 ((k : Int) + 1)) W4 := by
  have hbut : but ((texts cs).take (k + 1)) kk = but ((texts cs).take k) kk := by
    rw [texts_take hh, but_snoc, if_pos (by rw [List.length_take, texts_len]; omega)]
  refine ⟨k + 1, l ++ [x], by simp, hk, by simp [hl], hbase, by simpa using ht, hH, hE, hb, hb', ?_⟩
  rw [hbut]
  exact hw

theorem out_other {W0 W4 W5 : World} {tb bm b b' nb kk base k j : Nat} {cs : List Int} {want want' : Value} {l : LH} {x : Int × ByteArray × Value} (hk : k < nb) (hh : k < cs.length) (he : k ≠ kk) (hl : l.length = k) (hbase : base ≤ W4.heap.size) (hT : ∀ s, Two tb bm s → s < base) (hW0 : W0.heap.size ≤ base) (hbn : b < base) (hbn' : b' < base)
    (ht : PT W4 tb bm (k + 1) ((k : Int) + 1) (l ++ [x])) (hH : HsIn W4 (Sof tb bm want) (l ++ [x]) ((texts cs).take (k + 1)))
    (hE : Ext W0 W4) (hb : Blk W4 b 33 #[.string pa, .int .i64 1, .string ⟨#[]⟩]) (hb' : Blk W4 b' 34 #[.slice (some ⟨b, 0, none⟩) 1 1])
    (hw : W4.ownsRow base 47 3 want ((but ((texts cs).take k) kk).flatten).length (((but ((texts cs).take k) kk).flatten).flatMap Ref.cells))
    (hq : many cs[k] = j) (hg : W4.grownBy W5 want.ownBlock) (hat : want'.ownBlock = want.ownBlock ∨ want'.ownBlock = some W4.heap.size)
    (hw5 : W5.ownsRow base 47 3 want' (((but ((texts cs).take k) kk).flatten).length + j) ((((but ((texts cs).take k) kk).flatten).flatMap Ref.cells) ++ (first k j).flatMap Ref.cells)) :
    OutRel W0 tb bm b b' nb kk base cs want' (.int .i64 ((k : Int) + 1)) W5 := by
  have hlow : ∀ s, s < base → ¬ want.ownBlock = some s := fun s hs e => by have := (hw.lt s e).1; omega
  have hbut := but_grown hg
  have htx : but ((texts cs).take (k + 1)) kk = but ((texts cs).take k) kk ++ [first k j] := by
    rw [texts_take hh, but_snoc, if_neg (by rw [List.length_take, texts_len]; omega), hq]
  refine ⟨k + 1, l ++ [x], by simp, hk, by simp [hl], Nat.le_trans hbase hg.size, ?_, hs_want hH hg hat, Ext.grown hE hg (fun s hs => Nat.le_trans hW0 (hw.lt s hs).1), hb.but hbut (hlow b hbn), hb'.but hbut (hlow b' hbn'), ?_⟩
  · have := ht.but hbut (hlow tb (hT tb (.inl rfl))) (hlow bm (hT bm (.inr rfl)))
    simpa using this
  · rw [htx, List.flatten_append, List.flatMap_append, List.length_append]
    simpa [first_len] using hw5

/-- Less one handle. -/
theorem less_one {l : LH} {kk : Nat} (h : ∀ t (ht : t < l.length), (l[t]).1 = (t : Int) + 1) (hkk : kk < l.length) : (l.filter fun x => !decide (x.1 = (kk : Int) + 1)) = l.eraseIdx kk := by
  rw [List.eraseIdx_eq_take_drop_succ]
  have e : l = l.take kk ++ l[kk] :: l.drop (kk + 1) := by rw [← List.drop_eq_getElem_cons, List.take_append_drop]
  have e2 : (l.filter fun x => !decide (x.1 = (kk : Int) + 1)) = (l.take kk ++ l[kk] :: l.drop (kk + 1)).filter fun x => !decide (x.1 = (kk : Int) + 1) := congrArg _ e
  rw [e2, List.filter_append, List.filter_cons, if_neg (by simp [h kk hkk])]
  congr 1
  · rw [List.filter_eq_self]
    intro x hx
    obtain ⟨j, hj, rfl⟩ := List.getElem_of_mem hx
    rw [List.length_take] at hj
    rw [List.getElem_take, h j (by omega)]
    simp
    omega
  · rw [List.filter_eq_self]
    intro x hx
    obtain ⟨j, hj, rfl⟩ := List.getElem_of_mem hx
    rw [List.length_drop] at hj
    rw [List.getElem_drop, h (kk + 1 + j) (by omega)]
    simp
    omega

theorem rising_keys {l : LH} (h : ∀ t (ht : t < l.length), (l[t]).1 = (t : Int) + 1) : (l.map (·.1)).Pairwise (· < ·) := by
  rw [List.pairwise_iff_getElem]
  intro i j hi hj hij
  rw [List.length_map] at hi hj
  rw [List.getElem_map, List.getElem_map, h i hi, h j hj]
  omega

theorem less_in {w : World} {S : Nat → Prop} {l : LH} {xss : List (List Ref)} {kk : Nat} (hH : HsIn w S l xss) (hkk : kk < l.length) : RefsIn w (l.eraseIdx kk) (but xss kk) := by
  obtain ⟨h1, h2, h3⟩ := hH
  have hk2 : kk < xss.length := by omega
  refine ⟨by rw [but, List.length_eraseIdx_of_lt hkk, List.length_eraseIdx_of_lt hk2, h1], fun i h h' => ?_⟩
  simp only [but, List.getElem_eraseIdx]
  rw [List.length_eraseIdx_of_lt hkk] at h
  by_cases e : i < kk
  · simp only [dif_pos e]
    obtain ⟨A, c, q1, q2, q3, _⟩ := h3 i (by omega) (by omega)
    exact ⟨A, c, q1, q2, q3⟩
  · simp only [dif_neg e]
    obtain ⟨A, c, q1, q2, q3, _⟩ := h3 (i + 1) (by omega) (by omega)
    exact ⟨A, c, q1, q2, q3⟩

/-- Close(kk + 1). -/
theorem close_kk {wr : World} {tb bm nb kk : Nat} {S : Nat → Prop} {l : LH} {cs : List Int} (ht : PT wr tb bm nb nb l) (hl : l.length = nb) (hcs : cs.length = nb) (hH : HsIn wr S l (texts cs)) (hkk : kk < nb) (h30 : nb ≤ 30) :
    ∃ A c, (A = none → c = 0) ∧ Calls Tryz.prog 25 #[.pointer (some ⟨tb, 0, none⟩), .int .i64 ((kk : Int) + 1)] wr (CloseOk tb bm nb nb (l.eraseIdx kk) (.slice A (many (cs[kk]'(by omega))) c) wr) := by
  have hk1 : kk < l.length := by omega
  have hk2 : kk < (texts cs).length := by rw [texts_len]; omega
  obtain ⟨A, c, q1, q2, q3, _⟩ := hH.2.2 kk hk1 hk2
  have hf := find_at (rising_keys hH.2.1) hk1
  rw [hH.2.1 kk hk1] at hf
  have hlen : (texts cs)[kk].length = many (cs[kk]'(by omega)) := by rw [texts_at (by omega), first_len]
  obtain ⟨y, hy⟩ : ∃ y, l[kk] = y := ⟨_, rfl⟩
  rw [hy] at hf q1
  obtain ⟨k0, d0, v0⟩ := y
  have q1 : v0 = .slice A (texts cs)[kk].length c := q1
  subst q1
  rw [hlen] at hf
  have h := close_yes tb bm nb nb ((kk : Int) + 1) l d0 A (many (cs[kk]'(by omega))) c wr ht (by simp [Lit.wf, IntKind.min, IntKind.max, IntKind.signed, IntKind.bits]; omega) hf
  rw [less_one hH.2.1 hk1] at h
  exact ⟨A, c, q3, h⟩

/-- Refs behind it. -/
theorem refs_kk {w : World} {tb bm nb kk : Nat} {S : Nat → Prop} {l : LH} {cs : List Int} (ht : PT w tb bm nb nb (l.eraseIdx kk)) (hl : l.length = nb) (hcs : cs.length = nb) (hH : HsIn w S l (texts cs)) (hkk : kk < nb) (h30 : nb ≤ 30) :
    Calls Tryz.prog 26 #[.pointer (some ⟨tb, 0, none⟩)] w (RefsAns (but (texts cs) kk).flatten w) := by
  have hr := rising_keys hH.2.1
  have hle : (l.eraseIdx kk).length ≤ 30 := Nat.le_trans (List.length_eraseIdx_le _ _) (by omega)
  refine Refs_any tb bm nb nb (l.eraseIdx kk) (but (texts cs) kk) w ht ?_ (by omega) ?_ (less_in hH (by omega)) ?_
  · exact List.Pairwise.sublist ((List.eraseIdx_sublist l kk).map _) hr
  · intro y hy
    obtain ⟨t, ht, rfl⟩ := List.getElem_of_mem (List.mem_of_mem_eraseIdx hy)
    rw [hH.2.1 t ht]
    simp [Lit.wf, IntKind.min, IntKind.max, IntKind.signed, IntKind.bits]
    omega
  · have := but_len cs cs.length kk
    rw [← texts_len cs, List.take_length, texts_len] at this
    omega

theorem rdR_form {w : World} {v : Value} {l : List Ref} {n : Nat} (hv : RdR w v l) (hn : n = l.length) :
    ∃ A c, v = .slice A n c ∧ n ≤ c ∧ c ≤ 9223372036854775807 ∧ Hid (l ≠ [] → ∃ b o, A = some ⟨b, o, none⟩ ∧ ∀ (j : Nat) (h : j < l.length), w.cell? ⟨b, o + j * 3, none⟩ = some (.int .i64 l[j].at_) ∧ w.cell? ⟨b, o + j * 3 + 1, none⟩ = some (.int .i64 l[j].size) ∧ w.cell? ⟨b, o + j * 3 + 2, none⟩ = some (.int .u32 l[j].sum)) := by
  by_cases h0 : l = []
  · obtain ⟨A, c, e, h1, h2, _⟩ := hv
    rw [← hn] at e h1
    exact ⟨A, c, e, h1, h2, Lib.hid fun h => absurd h0 h⟩
  · obtain ⟨b, o, c, e, h1, h2, h3⟩ := Rd.open_ hv h0
    rw [← hn] at e h1
    refine ⟨_, c, e, h1, h2, Lib.hid fun _ => ⟨b, o, rfl, fun j h => ?_⟩⟩
    obtain ⟨cs, rfl, hu⟩ := h3 j l[j] (List.getElem?_eq_getElem h)
    exact ⟨hu 0 _ rfl, hu 1 _ rfl, hu 2 _ rfl⟩

theorem neq_ref (x : Ref) (w : World) : (binOp .neq 47 (.agg #[.int .i64 x.at_, .int .i64 x.size, .int .u32 x.sum]) (.agg #[.int .i64 x.at_, .int .i64 x.size, .int .u32 x.sum])).run Tryz.prog w = .ok (.bool false) w := by
  simp [go_sem, Op.eqFields, Program.fieldsOf, Tryz.underlying47, Tryz.underlying45, Tryz.underlying3]

set_option maxHeartbeats 8000000 in
set_option maxRecDepth 20000 in
theorem PRefs_any (v : Value) (cs : List Int) (gone : Int) (w : World) (hL : Laid w) (hv : BytesIn w v cs) (hg0 : 0 ≤ gone) (hg1 : gone ≤ 255) :
    Calls Tryz.prog 5 #[v, .int .u8 gone] w fun e w' => e = .returned (.bool true) ∧ Ext w w' := by
  have HA := fun w' h => awake_any w' (Laid.ext hL h)
  obtain ⟨nb, hnb⟩ : ∃ n, n = cs.length := ⟨_, rfl⟩
  have Hnb := Lib.hid hnb
  obtain ⟨hcs, A, c, rfl, hc1, hc2, hcell⟩ := hv
  have Hcs := Lib.hid hcs
  have Hcell := Lib.hid hcell
  rw [← hnb] at hc1 ⊢
  have HL := Lib.hid hL
  clear hnb hcell hL hcs
  by_cases h : nb ≤ 30 ∧ nb ≠ 0
  · obtain ⟨h30, h0⟩ := h
    have h' : ¬ (30 : Int) < (nb : Int) := by omega
    have h0' : ¬ (nb : Int) = 0 := by omega
    have h0'' : ((nb : Int) == 0) = false := by simpa using h0
    have hpos : (0 : Int) < (nb : Int) := by omega
    have H30 := Lib.hid h30
    clear h30
    go_enter Tryz.func5, Tryz.ntmps5
    go_upto_region 3 with (go_at_call 22; refine (HA _ (Ext.refl _)).mono ?_; rintro e W0 ⟨rfl, hE0⟩)
    go_upto_region 4 with (go_at_call 23; refine (New_any _).mono ?_; rintro e W1 ⟨tb, bm, rfl, ht1, htb, hbm, hE1⟩)
    have hBo : ∀ W W', Ext W0 W → But (Two tb bm) W W' → Ext W0 W' := fun W W' he hb => hb.old he (fun k hk => by rcases hk with rfl | rfl <;> assumption)
    go_upto_region 5 with (fail)
    have hE2 := hE1.trans (w1s_ext W1 ⟨#[]⟩)
    have ht2 := ht1.ext (w1s_ext W1 ⟨#[]⟩)
    have hb := w1s_b W1 ⟨#[]⟩
    have hb' := w1s_b' W1 ⟨#[]⟩
    have hnt := ht1.box.lt
    have hnm := ht1.own.lt
    obtain ⟨b, hbe⟩ : ∃ b, W1.heap.size = b := ⟨_, rfl⟩
    obtain ⟨b', hbe'⟩ : ∃ b', b + 1 = b' := ⟨_, rfl⟩
    change Code.wp _ _ _ _ (w1s W1 ⟨#[]⟩)
    rw [hbe] at hb hb' hnt hnm ⊢
    rw [hbe'] at hb' ⊢
    have hn1 : ¬ Two tb bm b := by rintro (e | e) <;> omega
    have hn2 : ¬ Two tb bm b' := by rintro (e | e) <;> omega
    clear hbe hbe' hnt hnm ht1
    generalize w1s W1 ⟨#[]⟩ = W2 at hE2 ht2 hb hb' ⊢
    have HBo := Lib.hid hBo
    have Hbl := Lib.hid (And.intro hb.lt hb'.lt)
    clear hBo
    go_upto_region 6 with (fail)
    obtain ⟨kk, hkk, hkk2⟩ : ∃ kk : Nat, gone % (nb : Int) = (kk : Int) ∧ kk < nb := by
      have e1 := Int.emod_nonneg gone (by omega : (nb : Int) ≠ 0)
      have e2 := Int.emod_lt_of_pos gone hpos
      exact ⟨(gone % (nb : Int)).toNat, by omega, by omega⟩
    rw [hkk]
    have Hkk := Lib.hid hkk2
    clear hkk hkk2
    have hbase : ∀ k, Two tb bm k → k < W2.heap.size := fun k hk => by
      rcases hk with rfl | rfl
      · exact ht2.box.lt
      · exact ht2.own.lt
    have Hbase := Lib.hid hbase
    clear hbase
    go_wp2
    go_loopw [8, 9] (fun want i wr => OutRel W0 tb bm b b' nb kk W2.heap.size cs want i wr) (fun _ i _ => nb - (intOf i).toNat)
    case atStart => exact ⟨0, [], rfl, Nat.zero_le _, rfl, Nat.le_refl _, ht2, ⟨by simp, fun t h => absurd h (Nat.not_lt_zero t), fun t h => absurd h (Nat.not_lt_zero t)⟩, hE2, hb, hb', by simp [but, World.ownsRow]⟩
    case round =>
      obtain ⟨k, l, rfl, hkn, hlk, hW2, ht, hH, hE, hb, hb', hwant⟩ := hrel
      by_cases hlt : k < nb
      · have hlt' : (k : Int) < (nb : Int) := by omega
        have hh : k < cs.length := by have := Hnb.out; omega
        obtain ⟨ab, ao, rfl, hcell⟩ := Hcell.out (List.ne_nil_of_length_pos (by omega))
        have g0 := hE0.cell (hcell k hh)
        obtain ⟨x, hx⟩ : ∃ x, cs[k]'hh = x := ⟨_, rfl⟩
        rw [hx] at g0
        have hxr := Hcs.out x (by rw [← hx]; exact List.getElem_mem hh)
        have hx0 := hxr.1
        have hx1 := hxr.2
        obtain ⟨q, hq, hq4⟩ : ∃ q : Nat, x % 4 = (q : Int) ∧ q < 4 := ⟨(x % 4).toNat, by omega, by omega⟩
        have Hq : Hid (many (cs[k]'hh) = q) := Lib.hid (by rw [hx, many]; omega)
        have Ht := Lib.hid ht
        have HH := Lib.hid hH
        have Hwant := Lib.hid hwant
        have Hlk := Lib.hid hlk
        clear hcell hx hxr ht hH hwant hlk
        have gr := hE.cell g0
        go_upto_region 12 with (fail)
        obtain ⟨i0, hi, hz0, hz1, hz2⟩ := info_parts info_ref
        obtain ⟨WO, hWO⟩ : ∃ WO, WO = wr := ⟨_, rfl⟩
        subst hWO
        have hbW : W2.heap.size ≤ WO.heap.size := hW2
        go_loopw [10, 11] (fun out jv wi => InnRel WO k q out jv wi) (fun _ jv _ => q - (intOf jv).toNat)
        case atStart => exact ⟨0, rfl, Nat.zero_le _, by simp [first, World.ownsRow], Ext.refl _⟩
        case round =>
          obtain ⟨j, rfl, hjq, hrow, hEi⟩ := hrel
          have gi := hEi.cell gr
          by_cases hjlt : j < q
          · have hjlt' : (j : Int) < (q : Int) := by omega
            have Hrow := Lib.hid hrow
            clear hrow
            go_wp2_with (at_builtin; refine wpList_append_own _ rfl _ _ 44 rfl WO.heap.size 47 i0 (.agg #[.int .i64 0, .int .i64 0, .int .u32 0]) 3 24 Tryz.underlying44 hi hz0 hz1 hz2 rfl (by decide) _ _ _ rfl (Hrow.out.alloc _) ⟨wr.heap.size, 0, none⟩ 1 1 [.int .i64 k, .int .i64 j, .int .u32 0] rfl rfl (World.news_of_block (cs := #[.int .i64 k, .int .i64 j, .int .u32 0]) (t := 47) (fr := (0, 0)) (heap_alloc_new wr _)) (by simp [Value.oneCell']) (by unfold maxLen; omega) (by omega) (by have := hEi.size; simp; omega) ?_; intro v' w1 hown hgrow hnil')
            exact inn_round hjlt hown (Ext.grown (hEi.alloc _) hgrow (fun j hj => (Hrow.out.lt j hj).1))
          · have hjx : ¬ (j : Int) < x % 4 := by omega
            have hjq2 : j = q := by omega
            have Hrow := Lib.hid hrow
            clear hrow
            subst hjq2
            have hrd : RdR wr u10 (first k j) := Rd.of_own (by rw [first_len]; exact Hrow.out) (by rw [first_len]; omega) fun t y ht => ⟨y.cells, rfl, refs_cells _ t y ht⟩
            have hoff : Off (Two tb bm) u10 := Off.own Hrow.out fun t ht => Nat.lt_of_lt_of_le (Hbase.out t ht) hbW
            have hO := open_one tb bm k k l ⟨#[]⟩ b b' wr (by decide) (Ht.out.ext hEi) (hb.ext hEi) (hb'.ext hEi) u10 (first k j) hrd hoff (by rw [first_len]; omega) (by omega) (by have := H30.out; omega) (by have := H30.out; omega) (fun y hy => by
              obtain ⟨t, ht, rfl⟩ := List.getElem_of_mem hy
              have h1 := HH.out.2.1 t ht
              have h2 := Hlk.out
              omega)
            have hWw := hE.trans hEi
            clear hrd hoff
            go_wp2_with fail
            refine hO.mono ?_
            rintro e W3 ⟨A3, c3, rfl, ht3, hrd3, hoff3, hnil3, hnew3, hB3⟩
            have hE3 := HBo.out _ _ hWw hB3
            have hb3 := (hb.ext hEi).but hB3 hn1
            have hb3' := (hb'.ext hEi).but hB3 hn2
            have hw3 := own_butS (own_ext Hwant.out hEi) hB3 Hbase.out
            have hH3 := hs_snoc (d := ⟨#[]⟩) (hs_step (hs_step HH.out (But.of_ext hEi)) (hB3.mono fun t _ ht => .inl ht)) hrd3 hnil3 (hoff3 _ fun t ht => by
              rcases ht with ht | ht
              · exact Nat.lt_of_lt_of_le (Nat.lt_of_lt_of_le (Hbase.out t ht) hbW) hEi.size
              · exact Nat.lt_of_lt_of_le (Hwant.out.lt t ht).2 hEi.size) hnew3
            rw [← Hq.out, ← texts_take hh, Hlk.out] at hH3
            have hw64 : wrap64 ((k : Int) + 1) = (k : Int) + 1 := by have := H30.out; rw [wrap64]; omega
            have HH3 := Lib.hid hH3
            have Hw3 := Lib.hid hw3
            have HB3 := Lib.hid hB3.size
            have HB4 := Lib.hid (own_butS Hrow.out hB3 (fun t ht => Nat.lt_of_lt_of_le (Hbase.out t ht) hbW))
            have Ht3 := Lib.hid ht3
            have Hb3 := Lib.hid hb3
            have Hb3' := Lib.hid hb3'
            have HE3 := Lib.hid hE3
            clear hH3 hw3 hO hrd3 hoff3 hnil3 hnew3 hB3 ht3 hb3 hb3' hE3 hb hb' hWw
            have ZhE0 := Lib.hid hE0
            have Zhtb := Lib.hid htb
            have Zhbm := Lib.hid hbm
            have ZhE1 := Lib.hid hE1
            have Zhn1 := Lib.hid hn1
            have Zhn2 := Lib.hid hn2
            have ZhE2 := Lib.hid hE2
            have Zht2 := Lib.hid ht2
            have ZhE := Lib.hid hE
            have ZhEi := Lib.hid hEi
            have ZhbW := Lib.hid hbW
            have ZhW2 := Lib.hid hW2
            have Zhi := Lib.hid hi
            have Zhz0 := Lib.hid hz0
            have Zhz1 := Lib.hid hz1
            have Zhz2 := Lib.hid hz2
            have Zhq := Lib.hid hq
            have Zhq4 := Lib.hid hq4
            have Zhx0 := Lib.hid hx0
            have Zhx1 := Lib.hid hx1
            have Zg0 := Lib.hid g0
            have Zgr := Lib.hid gr
            have Zgi := Lib.hid gi
            have Zhjx := Lib.hid hjx
            have Zhlt := Lib.hid hlt
            have Zhc1 := Lib.hid hc1
            have Zhc2 := Lib.hid hc2
            have ZHA := Lib.hid HA
            have Hq2 : Hid (∀ h : k < cs.length, many (cs[k]'h) = j) := Lib.hid (fun _ => Hq.out)
            clear Hq
            clear HA hE0 htb hbm hE1 hn1 hn2 hE2 ht2 hE hEi hbW hW2 hi hz0 hz1 hz2 hq hq4 hx0 hx1 g0 gr gi hjx hlt hc1 hc2
            go_upto_region 18 with (go_at_call 19; ((with_reducible refine (Code_nil _).mono ?_)); rintro e W4 ⟨rfl, hE4⟩)
            have ht4 := Ht3.out.ext hE4
            have HH4 := Lib.hid (hs_step HH3.out (But.of_ext hE4))
            have Hw4 := Lib.hid (own_ext Hw3.out hE4)
            have hb4 := Hb3.out.ext hE4
            have hb4' := Hb3'.out.ext hE4
            have hE4' := HE3.out.trans hE4
            have hbase4 : W2.heap.size ≤ W4.heap.size := Nat.le_trans ZhbW.out (Nat.le_trans ZhEi.out.size (Nat.le_trans HB3.out hE4.size))
            by_cases hkk : k = kk
            · have hkk' : ((k : Int) == (kk : Int)) = true := by rw [beq_iff_eq, hkk]
              have hh5 := HH4.out
              rw [Hq2.out hh] at hh5
              have hround := out_same (kk := kk) Zhlt.out hh hkk Hlk.out hbase4 ht4 hh5 hE4' hb4 hb4' Hw4.out
              have Hround := Lib.hid hround
              have Hkk2 := Lib.hid hkk
              clear hround ht4 hb4 hb4' hE4' hbase4 hkk hh5
              go_wp2
              exact ⟨Hround.out, by simp [intOf]; omega⟩
            · have hkk' : ((k : Int) == (kk : Int)) = false := beq_eq_false_iff_ne.2 fun e => hkk (Int.ofNat.inj e)
              have hh5 := HH4.out
              rw [Hq2.out hh] at hh5
              have hround := fun want' W5 => out_other (kk := kk) (W5 := W5) (want' := want') Zhlt.out hh hkk Hlk.out hbase4 Hbase.out ZhE2.out.size Hbl.out.1 Hbl.out.2 ht4 hh5 hE4' hb4 hb4' Hw4.out (Hq2.out hh)
              have Hround := Lib.hid hround
              have h10 := own_ext HB4.out hE4
              clear hround hh5 ht4 hb4 hb4' hE4' hkk
              have Hb4 := Lib.hid hbase4
              have hle := Zhq4.out
              obtain ⟨nw, hnw⟩ : ∃ nw, nw = ((but ((texts cs).take k) kk).flatten).length := ⟨_, rfl⟩
              have Hnw := Lib.hid hnw
              rcases h10.2 with ⟨e, h0⟩ | ⟨g, cap, cur, e, _⟩
              · subst e
                subst h0
                clear h10 hnw
                go_wp2_with (at_builtin; refine wpList_append_own_none rfl _ _ 44 rfl W2.heap.size 47 _ 3 Tryz.underlying44 Zhi.out _ _ _ rfl Hw4.out rfl ?_)
                exact ⟨Hround.out _ _ ⟨rfl, rfl, rfl, Nat.le_refl _, fun _ _ _ => rfl⟩ (.inl rfl) (by simpa [first] using Hw4.out), by simp [intOf]; omega⟩
              · subst e
                have hnwb : nw ≤ 90 := by
                  rw [hnw]
                  have h1 := but_len cs k kk
                  have h2 := Hnb.out
                  have h3 := H30.out
                  omega
                have hw5 := Hw4.out
                rw [← hnw] at hw5
                have Hw5 := Lib.hid hw5
                have Hnews := Lib.hid (h10.cells (g := g) rfl)
                have Hlen := Lib.hid (show ((first k j).flatMap Ref.cells).length = j * 3 by rw [refs_length, first_len])
                have k63 : nw + j ≤ maxLen := by unfold maxLen; omega
                have k24 : (nw + j) * 24 ≤ 140737488355328 := by omega
                have K63 := Lib.hid k63
                have K24 := Lib.hid k24
                clear h10 hnw hw5 k63 k24 hnwb hle
                go_wp2_with (at_builtin; refine Go.wpList_append_own_at _ rfl _ _ 44 rfl W2.heap.size 47 i0 (.agg #[.int .i64 0, .int .i64 0, .int .u32 0]) 3 24 Tryz.underlying44 Zhi.out Zhz0.out Zhz1.out Zhz2.out rfl (by decide) _ _ _ rfl Hw5.out ⟨g, 0, none⟩ j cap ((first k j).flatMap Ref.cells) rfl Hlen.out Hnews.out (refs_one _) K63.out K24.out Hb4.out ?_; intro v' w5 hown hgrow hnil' hat)
                exact ⟨Hround.out _ _ hgrow hat (by rw [← Hnw.out]; exact hown), by simp [intOf]; omega⟩
      · obtain rfl : k = nb := by omega
        have hcsn : cs.length = k := Hnb.out.symm
        rw [List.take_of_length_le (by rw [texts_len]; omega)] at hH hwant
        obtain ⟨Ac, cc, hnilc, HC⟩ := close_kk ht hlk hcsn hH Hkk.out H30.out
        have hw64 : wrap64 ((kk : Int) + 1) = (kk : Int) + 1 := by have := H30.out; have := Hkk.out; rw [wrap64]; omega
        have hh : kk < cs.length := by have := Hkk.out; omega
        obtain ⟨ab, ao, rfl, hcell⟩ := Hcell.out (List.ne_nil_of_length_pos (by omega))
        have g0 := hE0.cell (hcell kk hh)
        obtain ⟨x, hx⟩ : ∃ x, cs[kk]'hh = x := ⟨_, rfl⟩
        rw [hx] at g0 HC
        have hxr := Hcs.out x (by rw [← hx]; exact List.getElem_mem hh)
        have hm4 : ((many x : Int) == x % 4) = true := by rw [beq_iff_eq, many]; omega
        have hm4' : (x % 4 == (many x : Int)) = true := by rw [beq_iff_eq, many]; omega
        obtain ⟨m, hm⟩ : ∃ m, many x = m := ⟨_, rfl⟩
        rw [hm] at HC hm4 hm4'
        have HH := Lib.hid hH
        have Hw := Lib.hid hwant
        have Hlk := Lib.hid hlk
        have Hcsn := Lib.hid hcsn
        have Hbs := Lib.hid (but_len cs k kk)
        rw [List.take_of_length_le (by rw [texts_len]; omega)] at Hbs
        have Hm4 := Lib.hid (And.intro hm4 hm4')
        have Hxr := Lib.hid hxr
        have Hlt := Lib.hid hlt
        have Hg0 := Lib.hid g0
        have HE := Lib.hid hE
        have HE0 := Lib.hid hE0
        have Hc1 := Lib.hid hc1
        have Hc2 := Lib.hid hc2
        have HW2 := Lib.hid hW2
        clear hH hwant hlk hcsn hm4 hm4' hxr hlt hx hm hcell hnilc ht hb hb' g0 hE hE0 hc1 hc2 hW2 HA
        go_upto_region 21 with (go_at_call 25; refine HC.mono ?_; rintro e W3 ⟨rfl, ht3, hB3⟩)
        have hE3 := HBo.out _ _ HE.out hB3
        have hH3 := hs_step HH.out (hB3.mono fun t _ ht => .inl ht)
        have hw3 := own_butS Hw.out hB3 Hbase.out
        have HR := refs_kk ht3 Hlk.out Hcsn.out hH3 Hkk.out H30.out
        clear hH3 ht3 hB3 HC
        go_upto_region 23 with (go_at_call 26; refine HR.mono ?_; rintro e W4 ⟨vg, rfl, hg, hE4⟩)
        have hw4 := own_ext hw3 hE4
        obtain ⟨X, hX⟩ : ∃ X, (but (texts cs) kk).flatten = X := ⟨_, rfl⟩
        rw [hX] at hg hw4 Hbs
        have hwr : RdR W4 u8 X := Rd.of_own hw4 (by have := Hbs.out; have := Hnb.out; have := H30.out; omega) fun t y ht => ⟨y.cells, rfl, refs_cells _ t y ht⟩
        obtain ⟨nx, hnx⟩ : ∃ nx, nx = X.length := ⟨_, rfl⟩
        have Hnx := Lib.hid hnx
        obtain ⟨Ag, cg, rfl, _, hg2, Hgc⟩ := rdR_form hg hnx
        obtain ⟨Aw, cw, rfl, _, hw2, Hwc⟩ := rdR_form hwr hnx
        have hnxl : nx ≤ 100 := by have := Hbs.out; have := Hnb.out; have := H30.out; omega
        have HE4 := Lib.hid (hE3.trans hE4)
        clear hX hg hw4 hwr hnx hE3 hE4 hw3 Hw HR
        go_loopw [17] (fun i wr => ∃ j : Nat, i = .int .i64 j ∧ j ≤ nx ∧ Ext W4 wr) (fun i _ => nx - (intOf i).toNat)
        case atStart => exact ⟨0, rfl, Nat.zero_le _, Ext.refl _⟩
        case round =>
          obtain ⟨j, rfl, hjn, hEj⟩ := hrel
          by_cases hjlt : j < nx
          · have hjx : j < X.length := by have := Hnx.out; omega
            obtain ⟨bg, og, rfl, hgc⟩ := Hgc.out (List.ne_nil_of_length_pos (by omega))
            obtain ⟨bw, ow, rfl, hwc⟩ := Hwc.out (List.ne_nil_of_length_pos (by omega))
            obtain ⟨p0, p1, p2⟩ := hgc j hjx
            obtain ⟨r0, r1, r2⟩ := hwc j hjx
            obtain ⟨y, hy⟩ : ∃ y, X[j]'hjx = y := ⟨_, rfl⟩
            rw [hy] at p0 p1 p2 r0 r1 r2
            have s0 := hEj.cell p0
            have s1 := hEj.cell p1
            have s2 := hEj.cell p2
            have t0 := hEj.cell r0
            have t1 := hEj.cell r1
            have t2 := hEj.cell r2
            have HQ := neq_ref y
            have hjlt' : (j : Int) < (nx : Int) := by omega
            clear p0 p1 p2 r0 r1 r2 hgc hwc hy
            go_upto_region 25 with (fail)
            go_quiet (fail)
            go_wp2
            exact ⟨⟨j + 1, by simp, by omega, hEj.drewN _⟩, by simp [intOf]; omega⟩
          · have hjlt' : ¬ (j : Int) < (nx : Int) := by omega
            have q0 := (HE4.out.trans hEj).cell Hg0.out
            have hx0 := Hxr.out.1
            have hx1 := Hxr.out.2
            have hm4 := Hm4.out.1
            have hm4' := Hm4.out.2
            have hHE := HE0.out.trans (HE4.out.trans hEj)
            have Hc := Lib.hid hHE
            clear hHE
            go_wp2_with (go_at_call 19; ((with_reducible refine (Code_nil _).mono ?_)); rintro e W5 ⟨rfl, hE5⟩; have q1 := hE5.cell q0)
            go_ret
            exact ⟨rfl, Hc.out.trans hE5⟩
  · have h2 : (30 : Int) < (nb : Int) ∨ (nb : Int) = 0 := by omega
    clear hc1 hc2
    rcases h2 with h2 | h2
    · go_enter Tryz.func5, Tryz.ntmps5
      go_wp2_with (go_at_call 22; refine (HA _ (by exact (by repeat (first | exact Ext.refl _ | assumption | refine Ext.alloc ?_ _ | refine Ext.drew ?_ | refine Ext.drewN ?_ _ | refine Ext.setCell ?_ (by first | omega | (simp; done) | (simp; omega)) _ | refine Ext.trans ?_ (by assumption))))).mono ?_; rintro e W1 ⟨rfl, hE1⟩)
      go_ret
      exact ⟨rfl, by exact (by repeat (first | exact Ext.refl _ | assumption | refine Ext.alloc ?_ _ | refine Ext.drew ?_ | refine Ext.drewN ?_ _ | refine Ext.setCell ?_ (by first | omega | (simp; done) | (simp; omega)) _ | refine Ext.trans ?_ (by assumption)))⟩
    · have h3 : nb = 0 := by omega
      subst h3
      have h4 : ¬ (30 : Int) < ((0 : Nat) : Int) := by omega
      go_enter Tryz.func5, Tryz.ntmps5
      go_wp2_with (go_at_call 22; refine (HA _ (by exact (by repeat (first | exact Ext.refl _ | assumption | refine Ext.alloc ?_ _ | refine Ext.drew ?_ | refine Ext.drewN ?_ _ | refine Ext.setCell ?_ (by first | omega | (simp; done) | (simp; omega)) _ | refine Ext.trans ?_ (by assumption))))).mono ?_; rintro e W1 ⟨rfl, hE1⟩)
      go_ret
      exact ⟨rfl, by exact (by repeat (first | exact Ext.refl _ | assumption | refine Ext.alloc ?_ _ | refine Ext.drew ?_ | refine Ext.drewN ?_ _ | refine Ext.setCell ?_ (by first | omega | (simp; done) | (simp; omega)) _ | refine Ext.trans ?_ (by assumption)))⟩
end Go.Proofs.YtknfaabhlcdeoaaGreatDoor
