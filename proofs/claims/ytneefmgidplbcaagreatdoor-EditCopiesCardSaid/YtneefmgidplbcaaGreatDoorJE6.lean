/- Joined: edit's put: an entry, and the directories that it lies in; The variable errors; What the rows of this seat need: a world that meets the condition on the listed variables, and the handle's cell out of the condition; What the rows of stacks and layers need: the builder with the sizes, and layers and stacks out of the condition; tree; tree; The plain laws of what is made, written, moved, removed in a tree; tree; fail; tree -/
import Derived.Test.YtneefmgidplbcaaGreatDoorJE5
import Derived.Deep.RegionLaw
import Derived.Test.YtneefmgidplbcaaGreatDoorJE0
import Derived.Test.YtneefmgidplbcaaGreatDoorRows
import Derived.ProofKit
import Derived.LaidLaws
import Derived.LaidHandle
import Derived.Lay
import Derived.ChangeSame
import Derived.ChangeVars
import Derived.JoinedOf
import Derived.RowKit
import Derived.RowKitTokens
import Derived.Stop.Joined
import Derived.Test.YtneefmgidplbcaaGreatDoorJE1
import Derived.HandedShaped
import Derived.Deep.Slices
import Derived.SizedLaws
import Derived.Test.YtneefmgidplbcaaGreatDoorJE4
import Derived.Deep.AppendLies
/-! EditP -/
namespace Go.Proofs.YtneefmgidplbcaaGreatDoor
open Go Go.RowKit Go.Shelf Go.Proofs Go.Sort

/-- An append of entries as a step of a region that draws its order. -/
theorem stepE {w : World} {ops : Array Oper} {o : Oper} {a : Act} {K : Act → World → Prop} {Q : Exit → Act → World → Prop} {E : Prop} (hgd : o.guard = none) (s x : Operand)
    (ho : o.op = .call { callee := .builtin .append, args := #[s, x], argTypes := #[54, 54] }) (base : Nat) (v : Value) (n : Nat) (xs : List Value) (hown : w.ownsRow base 66 3 v n xs) (hs : a.eval s = v)
    (ad : Addr) (m c : Nat) (news : List Value) (hx : a.eval x = .slice (some ad) m c) (hl : news.length = m * 3) (hnews : ∀ j u, news[j]? = some u → w.cell? (ad.add j) = some u) (h1 : ∀ u ∈ news, u.oneCell' = true)
    (hn : n + m ≤ 1000000) (hbase : base ≤ w.heap.size)
    (h : ∀ v' w', w'.ownsRow base 66 3 v' (n + m) (xs ++ news) → w.grownBy w' v.ownBlock → (v'.ownBlock = v.ownBlock ∨ v'.ownBlock = some w.heap.size) → K (a.put o.dst v') w') : if Region.wanted o (yielded ops a.tmps) = true then Oper.wp Tryz.prog o a w K Q else E := by
  obtain ⟨i0, hi, hz0, hz1, hz2⟩ := info_parts info_ent
  have hw : Region.wanted o (yielded ops a.tmps) = true := by simp [Region.wanted, hgd]
  rw [if_pos hw]
  obtain ⟨v', w', hr, h2, h3, _, h5⟩ := run_append_own_at (P := Tryz.prog) w base 54 o.type 66 i0 (.agg #[.string ⟨#[]⟩, .int .i64 0, .string ⟨#[]⟩]) 3 40 Tryz.underlying54 hi hz0 hz1 hz2 rfl (by decide) v n xs hown ad m c news (by omega) hnews h1 (by unfold maxLen; omega) (by omega) hbase
  unfold Oper.wp execOp
  simp only [ho, resolve, invoke, builtin, Sem.run_bind, Sem.run_pure, Result.andThen_ok, List.map_toArray, List.map_cons, List.map_nil, hs, hx, hr]
  exact h v' w' h2 h3 h5

/-- An entry behind the others. -/
theorem up_app2 {w0 W w1 : World} {ub : Nat} {lv v v' : Value} {ys : List Ent} {x : Ent} (h : Up w0 ub lv v ys W) (hx : x.fits) (hown : w1.ownsRow w0.heap.size 66 3 v' (ys.length + 1) (flatE ys ++ [.string x.path, .int .i64 x.kind, .string x.data]))
    (hg : W.grownBy w1 v.ownBlock) (hob : v'.ownBlock = v.ownBlock ∨ v'.ownBlock = some W.heap.size) :
    Blk w1 ub 112 #[lv, v] ∧ Up w0 ub lv v' (ys ++ [x]) (w1.setCell ⟨ub, 1, none⟩ v') ∧ Moved ub v W v' (w1.setCell ⟨ub, 1, none⟩ v') := by
  have hb1 : Blk w1 ub 112 #[lv, v] := grown_blk hg h.blk h.ne
  have hbt : But (Sv ub v) W (w1.setCell ⟨ub, 1, none⟩ v') := ((But.refl _ W).grown hg (fun k hk => .inl (.inr hk))).setCell (.inl rfl) _
  refine ⟨hb1, ⟨hb1.set 1 v', ?_, ?_, h.at_, fun y hy => ?_⟩, hbt, ?_⟩
  · rw [flatE_snoc, List.length_append, List.length_singleton]
    exact row_other hown (blk_row hb1 hown (by decide)) _
  · exact (h.ext.grown hg (fun k hk => (h.row.lt k hk).1)).setCell h.at_ _
  · rcases List.mem_append.1 hy with hy | hy
    · exact h.fits y hy
    · rw [List.mem_singleton] at hy
      rw [hy]
      exact hx
  · rcases hob with e | e
    · exact .inl e
    · refine .inr fun g hg2 => ?_
      rw [e] at hg2
      cases hg2
      exact Nat.le_refl _
theorem up_app {w0 W w1 : World} {ub : Nat} {lv v v' : Value} {ys : List Ent} {x : Ent} {o : Obj} (h : Up w0 ub lv v ys W) (hx : x.fits) (hown : w1.ownsRow w0.heap.size 66 3 v' (ys.length + 1) (flatE ys ++ [.string x.path, .int .i64 x.kind, .string x.data]))
    (hg : (W.alloc o).grownBy w1 v.ownBlock) (hob : v'.ownBlock = v.ownBlock ∨ v'.ownBlock = some (W.alloc o).heap.size) :
    Blk w1 ub 112 #[lv, v] ∧ Up w0 ub lv v' (ys ++ [x]) (w1.setCell ⟨ub, 1, none⟩ v') ∧ Moved ub v W v' (w1.setCell ⟨ub, 1, none⟩ v') := by
  obtain ⟨h1, h2, h3⟩ := up_app2 (h.step ((Ext.refl W).alloc o)) hx hown hg hob
  exact ⟨h1, h2, (Moved.of_ext ((Ext.refl W).alloc o)).trans h3⟩

/-- An entry instead of another. -/
theorem up_set {w0 W : World} {ub gb cap : Nat} {lv : Value} {ys : List Ent} {x : Ent} {k : Nat} (h : Up w0 ub lv (.slice (some ⟨gb, 0, none⟩) ys.length cap) ys W) (hk : k < ys.length) (hx : x.fits) :
    Up w0 ub lv (.slice (some ⟨gb, 0, none⟩) ys.length cap) (ys.set k x) (((W.setCell ⟨gb, k * 3, none⟩ (.string x.path)).setCell ⟨gb, k * 3 + 1, none⟩ (.int .i64 x.kind)).setCell ⟨gb, k * 3 + 2, none⟩ (.string x.data)) ∧
      Moved ub (.slice (some ⟨gb, 0, none⟩) ys.length cap) W (.slice (some ⟨gb, 0, none⟩) ys.length cap) (((W.setCell ⟨gb, k * 3, none⟩ (.string x.path)).setCell ⟨gb, k * 3 + 1, none⟩ (.int .i64 x.kind)).setCell ⟨gb, k * 3 + 2, none⟩ (.string x.data)) := by
  have s1 := h.row.stored (k * 3) (.string x.path)
  have s2 := s1.1.stored (k * 3 + 1) (.int .i64 x.kind)
  have s3 := s2.1.stored (k * 3 + 2) (.string x.data)
  have s4 := s3.1
  have hne := h.ne
  have hg1 : gb ≠ ub := fun e => hne (by rw [← e]; rfl)
  have hg0 : w0.heap.size ≤ gb := (h.row.lt gb rfl).1
  rw [← flat_set ys x k hk] at s4
  refine ⟨⟨?_, by rw [List.length_set]; exact s4, ((h.ext.setCell hg0 _).setCell hg0 _).setCell hg0 _, h.at_, fun y hy => ?_⟩, (((But.refl _ W).setCell (.inr rfl) _).setCell (.inr rfl) _).setCell (.inr rfl) _, .inl rfl⟩
  · have hb := h.blk
    have e : ∀ (W : World) (i : Nat) (u : Value), Blk W ub 112 #[lv, .slice (some ⟨gb, 0, none⟩) ys.length cap] → Blk (W.setCell ⟨gb, i, none⟩ u) ub 112 #[lv, .slice (some ⟨gb, 0, none⟩) ys.length cap] := fun W i u hb =>
      (Below.heap_setCell _ _ _ _ (fun e => hg1 (by first | exact e | exact e.symm))).trans hb
    exact e _ _ _ (e _ _ _ (e _ _ _ hb))
  · rcases List.mem_or_eq_of_mem_set hy with hy | rfl
    · exact h.fits y hy
    · exact hx

theorem perm_find {ys D : List Ent} (hp : ys.Perm D) (p : ByteArray) : (findT ys p).isSome = (findT D p).isSome := by
  rcases h1 : findT ys p with _ | x <;> rcases h2 : findT D p with _ | y
  · rfl
  · obtain ⟨h3, h4⟩ := findT_some h2
    exact absurd h4 (findT_none h1 y (hp.mem_iff.2 h3))
  · obtain ⟨h3, h4⟩ := findT_some h1
    exact absurd h4 (findT_none h2 x (hp.mem_iff.1 h3))
  · rfl
theorem insT_perm {D : List Ent} (e : Ent) (hr : Rising D) : (e :: delT D e.path).Perm (insT D e) := by
  have h : delT D e.path = D.filter (fun x => lt x.path e.path) ++ D.filter (fun x => lt e.path x.path) := by
    refine rising_ext (rising_delT hr _) ?_ fun x => ?_
    · rw [Rising, List.pairwise_append]
      refine ⟨hr.filter _, hr.filter _, fun a ha b hb => lt_trans (List.mem_filter.1 ha).2 (List.mem_filter.1 hb).2⟩
    · rw [mem_delT, List.mem_append, List.mem_filter, List.mem_filter]
      constructor
      · rintro ⟨h1, h2⟩
        rcases h3 : lt x.path e.path with _ | _
        · rcases h4 : lt e.path x.path with _ | _
          · exact absurd (lt_total h3 h4) h2
          · exact .inr ⟨h1, rfl⟩
        · exact .inl ⟨h1, rfl⟩
      · rintro (⟨h1, h2⟩ | ⟨h1, h2⟩)
        · exact ⟨h1, lt_ne h2⟩
        · exact ⟨h1, (lt_ne h2).symm⟩
  rw [h, insT]
  exact List.perm_middle.symm
theorem app_perm {ys D : List Ent} {e : Ent} (hp : ys.Perm D) (hr : Rising D) (hn : findT D e.path = none) : (ys ++ [e]).Perm (insT D e) := by
  refine List.Perm.trans ?_ (insT_perm e hr)
  rw [delT_none (findT_none hn)]
  exact List.perm_append_comm.trans (hp.cons e)
theorem set_perm {ys D : List Ent} {e : Ent} {k : Nat} (hp : ys.Perm D) (hr : Rising D) (hk : k < ys.length) (he : ys[k].path = e.path) : (ys.set k e).Perm (insT D e) := by
  refine List.Perm.trans ?_ (insT_perm e hr)
  have hz : ys.Pairwise fun a b => a.path ≠ b.path := (hp.pairwise_iff (fun {a b} h e => h e.symm)).2 (hr.imp fun h => lt_ne h)
  have h1 : ys = ys.take k ++ ys[k] :: ys.drop (k + 1) := by rw [List.getElem_cons_drop, List.take_append_drop]
  have h2 : delT ys e.path = ys.take k ++ ys.drop (k + 1) := by
    have h3 := hz
    rw [h1, List.pairwise_append, List.pairwise_cons] at h3
    obtain ⟨_, ⟨h4, _⟩, h5⟩ := h3
    conv => lhs; rw [h1]
    rw [delT, List.filter_append, List.filter_cons_of_neg (by simp [he]), List.filter_eq_self.2 fun x hx => by
      have := h5 x hx ys[k] List.mem_cons_self
      rw [he] at this
      simpa using this, List.filter_eq_self.2 fun x hx => by
      have := h4 x hx
      rw [he] at this
      simpa using fun e2 => this e2.symm]
  have h6 : (ys.set k e) = ys.take k ++ e :: ys.drop (k + 1) := List.set_eq_take_append_cons_drop.trans (if_pos hk)
  rw [h6]
  refine List.perm_middle.trans ?_
  rw [← h2]
  exact (hp.filter _).cons e

theorem idx_neg {ys : List Ent} {p : ByteArray} (h : findT ys p = none) : idxP (fun x => decide (x.path = p)) ys = -1 := idxP_nofind h

/-- The loop's relation. -/
def PutRel (w0 w1 : World) (ub : Nat) (lv v0 : Value) (l : List Ent) (ns : List ByteArray) (n : Nat) (v6 : Value) (wr : World) : Prop :=
  ∃ (k : Nat) (v : Value) (ys : List Ent), v6 = .int .i64 k ∧ 1 ≤ k ∧ k ≤ n ∧ Hid (ys.Perm (dirsU l ns (k - 1))) ∧ Hid (Up w0 ub lv v ys wr) ∧ Hid (Moved ub v0 w1 v wr)

theorem put_next {w0 w1 : World} {ub : Nat} {lv v0 v : Value} {l ys : List Ent} {ns : List ByteArray} {n k : Nat} {wr : World} (h1 : 1 ≤ k) (hlt : k < n) (hp : ys.Perm (dirsU l ns k)) (hu : Up w0 ub lv v ys wr) (hm : Moved ub v0 w1 v wr) :
    PutRel w0 w1 ub lv v0 l ns n (.int .i64 ((k : Int) + 1)) wr ∧ n - (intOf (.int .i64 ((k : Int) + 1))).toNat < n - (intOf (.int .i64 (k : Int))).toNat :=
  ⟨⟨k + 1, v, ys, by simp, by omega, by omega, Lib.hid hp, Lib.hid hu, Lib.hid hm⟩, by simp [intOf]; omega⟩

theorem dirsU_len (l : List Ent) (ns : List ByteArray) : ∀ k, (dirsU l ns k).length ≤ l.length + k
  | 0 => Nat.le_refl _
  | k + 1 => by
    have ih := dirsU_len l ns k
    rw [dirsU]
    split
    · omega
    · rw [insT_len]
      have := delT_len (dirsU l ns k) (pathOf (ns.take (k + 1)))
      show (delT (dirsU l ns k) (pathOf (ns.take (k + 1)))).length + 1 ≤ _
      omega

theorem dir_fits {ns : List ByteArray} (hv : ValN ns) (k : Nat) : (⟨pathOf (ns.take k), 2, ⟨#[]⟩⟩ : Ent).fits := by
  have := pathOf_size (hv.take k).1 (hv.take k).2
  refine ⟨by show (pathOf (ns.take k)).size ≤ _; omega, by show (0 : Nat) ≤ _; omega⟩

theorem rdS_but {S : Nat → Prop} {w w' : World} {v : Value} {xs : List ByteArray} (h : RdS w v xs) (hb : But S w w') (ho : Off S v) : RdS w' v xs := Rd.but (fun _ _ _ _ h => h) h hb ho

theorem rdS_take {w : World} {A : Option Addr} {n c k : Nat} {xs : List ByteArray} (h : RdS w (.slice A n c) xs) (hn : xs.length = n) (hk : k ≤ n) : RdS w (.slice A k c) (xs.take k) := by
  have e : xs = xs.take k ++ xs.drop k := (List.take_append_drop k xs).symm
  rw [e] at h
  have h1 := Rd.left h
  rw [List.length_take, Nat.min_eq_left (by omega)] at h1
  exact h1

set_option maxHeartbeats 16000000 in
set_option maxRecDepth 20000 in
theorem uPut_any {w0 w : World} {ub : Nat} {lv v : Value} {l : List Ent} (y : Ent) (ns : List ByteArray) (h : Up w0 ub lv v l w) (hl : l.length ≤ 10000) (hr : Rising l) (hn : names y.path = some ns) (h0 : ns ≠ []) (hy : y.fits) :
    Calls Tryz.prog 134 #[.pointer (some ⟨ub, 0, none⟩), .agg #[.string y.path, .int .i64 y.kind, .string y.data]] w (UpAns w0 ub lv v (putU l y) w) := by
  have HS := fun w => (Split_own y.path w hy.1).1 ns hn
  have hnd := names_D hn
  obtain ⟨hv, _⟩ := ValN.of hn
  have hn1 : 1 ≤ ns.length := List.length_pos_iff.2 h0
  obtain ⟨n, hnn⟩ : ∃ n, ns.length = n := ⟨_, rfl⟩
  have h6 := hv.2
  rw [hnn] at hn1 h6
  have Hnn := Lib.hid hnn
  have Hr := Lib.hid hr
  have Hv := Lib.hid hv
  have Hy := Lib.hid hy
  have Hnd := Lib.hid hnd
  have H := Lib.hid h
  have Hb := Blk.new w 66 #[.string y.path, .int .i64 y.kind, .string y.data]
  obtain ⟨eb, heb⟩ : ∃ eb, w.heap.size = eb := ⟨_, rfl⟩
  have hob := h.old (Nat.le_refl w.heap.size)
  rw [heb] at Hb hob
  have Hob := Lib.hid hob
  have Heb := Lib.hid heb
  clear hn hr hv hy hnn hnd h heb h0 hob
  go_enter Tryz.func134, Tryz.ntmps134
  go_wp2_with (go_at_call 70; refine (HS _).mono ?_; rintro e W1 ⟨nv, rfl, hns, hE1, hnew⟩)
  have hE1' : Ext w W1 := Ext.trans (by exact (by repeat (first | exact Ext.refl _ | assumption | refine Ext.alloc ?_ _ | refine Ext.drew ?_ | refine Ext.drewN ?_ _ | refine Ext.setCell ?_ (by first | omega | (simp; done) | (simp; omega)) _ | refine Ext.trans ?_ (by assumption)))) hE1
  have Hns := Lib.hid hns
  have Hb1 := Lib.hid (Hb.ext hE1)
  have Hup := Lib.hid (H.out.step hE1')
  have Hoff : Hid (Off (Sv ub v) nv) := Lib.hid (fun b o m c e hs => by
    subst e
    have h1 := hnew b rfl
    rw [World.size_alloc] at h1
    have := Heb.out
    have h2 := H.out.old (b := b) (by omega)
    rcases hs with e | e
    · exact h2.1 e
    · exact h2.2 e)
  obtain ⟨An, cn, rfl, hcn1, hcn2, _⟩ := id hns
  have Hns2 : Hid (RdS W1 (.slice An n cn) ns) := Lib.hid (by
    have := Hns.out
    rw [Hnn.out] at this
    exact this)
  have Hoff2 : Hid (Off (Sv ub v) (.slice An n cn)) := Lib.hid (by
    have := Hoff.out
    rw [Hnn.out] at this
    exact this)
  rw [Hnn.out] at hcn1
  rw [Hnn.out]
  rw [Heb.out]
  have Hm0 : Hid (Moved ub v W1 v W1) := Lib.hid (Moved.of_ext (Ext.refl W1))
  clear hns hnew hE1 HS Hb
  go_loopw [6] (fun v6 wr => PutRel w0 W1 ub lv v l ns n v6 wr) (fun v6 _ => n - (intOf v6).toNat)
  case atStart => exact ⟨1, v, l, rfl, Nat.le_refl _, hn1, Lib.hid (List.Perm.refl _), Hup, Hm0⟩
  case round =>
    obtain ⟨k, vr, ys, rfl, hk1, hkn, hperm, hup, hmv⟩ := hrel
    have hyl : ys.length ≤ 10006 := by
      have h1 := hperm.out.length_eq
      have h2 := dirsU_len l ns (k - 1)
      omega
    have HA := fun (W : World) (p : ByteArray) (he : Ext wr W) => uAt_any p (hup.out.step he) (by omega)
    by_cases hlt : k < n
    · obtain ⟨p, hp⟩ : ∃ p, pathOf (ns.take k) = p := ⟨_, rfl⟩
      have hvt := Hv.out.take k
      have hpf := dir_fits Hv.out k
      have hpre : RdS wr (.slice An k cn) (ns.take k) := rdS_take (rdS_but Hns2.out hmv.out.but Hoff2.out) Hnn.out (by omega)
      have HJ := fun (W : World) (he : Ext wr W) => Join_ok _ _ W (hpre.ext he) hvt.1 hvt.2
      rw [hp] at HJ hpf
      have hstep : dirsU l ns k = match findT (dirsU l ns (k - 1)) p with | some _ => dirsU l ns (k - 1) | none => insT (dirsU l ns (k - 1)) ⟨p, 2, ⟨#[]⟩⟩ := by
        obtain ⟨m, rfl⟩ : ∃ m, k = m + 1 := ⟨k - 1, by omega⟩
        rw [Nat.add_sub_cancel, dirsU, hp]
        rfl
      have hpp := perm_find hperm.out p
      have HA1 := fun (W : World) (he : Ext wr W) => HA W p he
      have hrd := (dirs_find Hr.out ns (k - 1)).1
      rcases hf : findT (dirsU l ns (k - 1)) p with _ | u
      · rw [hf] at hstep hpp
        have hys : findT ys p = none := by simpa using hpp
        have Hap : Hid ((ys ++ [(⟨p, 2, ⟨#[]⟩⟩ : Ent)]).Perm (dirsU l ns k)) := Lib.hid (by rw [hstep]; exact app_perm (e := ⟨p, 2, ⟨#[]⟩⟩) hperm.out hrd hf)
        have HA2 : ∀ W, Ext wr W → Calls Tryz.prog 133 #[.pointer (some ⟨ub, 0, none⟩), .string p] W fun e w' => e = .returned (.int .i64 (-1)) ∧ Ext W w' := fun W he => by
          have := HA1 W he
          rwa [idx_neg hys] at this
        have hlt1 : ((-1 : Int) < 0) := by decide
        have Hpf := Lib.hid hpf
        obtain ⟨i0, hi, hz0, hz1, hz2⟩ := info_parts info_ent
        obtain ⟨Ar, cr, rfl⟩ := own_form hup.out.row
        clear hvt hpf hpre hp hpp hf hys hstep hrd HA HA1
        go_wp2_with (first
          | (go_at_call 76; refine (HJ _ (Ext.refl _)).mono ?_; rintro e W2 ⟨rfl, hE2⟩)
          | (go_at_call 133; refine (HA2 _ hE2).mono ?_; rintro e W3 ⟨rfl, hE3⟩; have hup3 := Lib.hid (hup.out.step (hE2.trans hE3)); obtain ⟨⟨b0, _⟩, ⟨b1, _⟩⟩ := hup3.out.blk.two)
          | (at_builtin; refine wpList_append_own_at _ rfl _ _ 54 rfl w0.heap.size 66 i0 (.agg #[.string ⟨#[]⟩, .int .i64 0, .string ⟨#[]⟩]) 3 40 Tryz.underlying54 hi hz0 hz1 hz2 rfl (by decide) _ _ _ rfl (hup3.out.row.alloc _) ⟨W3.heap.size, 0, none⟩ 1 1 [.string p, .int .i64 2, .string ⟨#[]⟩] rfl rfl (World.news_of_block (cs := #[.string p, .int .i64 2, .string ⟨#[]⟩]) (t := 66) (fr := (0, 0)) (Blk.new W3 _ _)) (by simp [Value.oneCell']) (by unfold maxLen; omega) (by omega) (by rw [World.size_alloc]; have := hup3.out.ext.size; omega) ?_; intro v3 w1 hown hgrow hnil' hat'; obtain ⟨hb4, hup4, hmv4⟩ := up_app (x := ⟨p, 2, ⟨#[]⟩⟩) hup3.out Hpf.out hown hgrow hat'; obtain ⟨_, ⟨d1, e1⟩⟩ := hb4.two; obtain ⟨A3, c3, rfl⟩ := own_form hown; have Hup4 := Lib.hid hup4; have Hmv4 := Lib.hid hmv4; clear hown hgrow hnil' hat' hup4 hmv4 hb4))
        exact put_next hk1 hlt Hap.out Hup4.out (hmv.out.trans ((Moved.of_ext (hE2.trans hE3)).trans Hmv4.out))
      · rw [hf] at hstep hpp
        have hys : (findT ys p).isSome = true := by simpa using hpp
        obtain ⟨u', hu'⟩ := Option.isSome_iff_exists.1 hys
        obtain ⟨i, hi, hidx, hix⟩ := idxP_find hu'
        have HA2 : ∀ W, Ext wr W → Calls Tryz.prog 133 #[.pointer (some ⟨ub, 0, none⟩), .string p] W fun e w' => e = .returned (.int .i64 (i : Int)) ∧ Ext W w' := fun W he => by
          have := HA1 W he
          rwa [hidx] at this
        have hge : ¬ ((i : Int) < 0) := by omega
        have Hap : Hid (ys.Perm (dirsU l ns k)) := Lib.hid (by rw [hstep]; exact hperm.out)
        clear hvt hpf hpre hp hpp hf hys hstep hrd HA HA1 hidx hix hu' hi
        go_wp2_with (first
          | (go_at_call 76; refine (HJ _ (Ext.refl _)).mono ?_; rintro e W2 ⟨rfl, hE2⟩)
          | (go_at_call 133; refine (HA2 _ hE2).mono ?_; rintro e W3 ⟨rfl, hE3⟩))
        exact put_next hk1 hlt Hap.out (hup.out.step (hE2.trans hE3)) (hmv.out.trans (Moved.of_ext (hE2.trans hE3)))
    · have hkn2 : k = n := by omega
      subst hkn2
      have hbe := Hb1.out.but hmv.out.but (fun e => e.elim (fun e => Hob.out.1 e) (fun e => Hob.out.2 e))
      have hrd := (dirs_find Hr.out ns (k - 1)).1
      have hput : putU l y = insT (dirsU l ns (k - 1)) y := by rw [putU, Hnd.out, Hnn.out]
      have hrise : Rising (putU l y) := (put_find Hr.out y).1
      have hpp := perm_find hperm.out y.path
      have HA1 := fun (W : World) (he : Ext wr W) => HA W y.path he
      have HSo : Hid (∀ (zs : List Ent) (W : World) (v' : Value), zs.Perm (putU l y) → Up w0 ub lv v' zs W → zs.length ≤ 100000 → Calls Tryz.prog 181 #[.pointer (some ⟨ub, 0, none⟩)] W (UpAns w0 ub lv v' (putU l y) W)) := Lib.hid fun zs W v' h1 h2 h3 => uSort_any h2 h3 h1 hrise
      obtain ⟨⟨y0, _⟩, ⟨y1, _⟩, ⟨y2, _⟩⟩ := hbe.three
      have Hbe := Lib.hid hbe
      have HE := Lib.hid hE1'
      rcases hf : findT (dirsU l ns (k - 1)) y.path with _ | u
      · rw [hf] at hpp
        have hys : findT ys y.path = none := by simpa using hpp
        have Hap : Hid ((ys ++ [y]).Perm (putU l y)) := Lib.hid (by rw [hput]; exact app_perm hperm.out hrd hf)
        have HA2 : ∀ W, Ext wr W → Calls Tryz.prog 133 #[.pointer (some ⟨ub, 0, none⟩), .string y.path] W fun e w' => e = .returned (.int .i64 (-1)) ∧ Ext W w' := fun W he => by
          have := HA1 W he
          rwa [idx_neg hys] at this
        have hlt1 : ¬ ((0 : Int) ≤ -1) := by decide
        obtain ⟨Ar, cr, rfl⟩ := own_form hup.out.row
        clear hpp hf hys hrd HA HA1 hput hrise hbe
        go_upto_region 12 with (go_at_call 133; refine (HA2 _ (Ext.refl _)).mono ?_; rintro e W3 ⟨rfl, hE3⟩)
        have hup3 := Lib.hid (hup.out.step hE3)
        have hb3 := Hbe.out.ext hE3
        obtain ⟨⟨b0, _⟩, ⟨b1, f1⟩⟩ := hup3.out.blk.two
        obtain ⟨⟨x0, _⟩, ⟨x1, _⟩, ⟨x2, _⟩⟩ := hb3.three
        have zR : ∀ W, Ext W3 W → W.ownsRow w0.heap.size 66 3 (.slice Ar ys.length cr) ys.length (flatE ys) := fun W h => own_ext hup3.out.row h
        have nR : ∀ W, Ext (W3.alloc (.cells #[.string y.path, .int .i64 y.kind, .string y.data] 66)) W → ∀ j u, [Value.string y.path, .int .i64 y.kind, .string y.data][j]? = some u → W.cell? ((⟨W3.heap.size, 0, none⟩ : Addr).add j) = some u := fun W h => World.news_of_block (cs := #[.string y.path, .int .i64 y.kind, .string y.data]) (t := 66) (fr := (0, 0)) ((Blk.new W3 66 #[.string y.path, .int .i64 y.kind, .string y.data]).ext h)
        have hsz3 : w0.heap.size ≤ W3.heap.size := hup3.out.ext.size
        have ZR := Lib.hid zR
        have NR := Lib.hid nR
        clear zR nR y0 y1 y2 hb3
        have b1a := Lib.cell?_alloc_some (.cells #[.string y.path, .int .i64 y.kind, .string y.data] 66) b1
        go_region_law (refine stepE rfl _ _ rfl w0.heap.size _ ys.length (flatE ys) (ZR.out _ (by first | ((repeat (first | exact Ext.refl _ | assumption | refine Ext.alloc ?_ _ | refine Ext.drew ?_ | refine Ext.drewN ?_ _ | refine Ext.setCell ?_ (by first | omega | (simp; done) | (simp; omega)) _ | refine Ext.trans ?_ (by assumption))); done) | fail)) (by first | (simp [Act.eval]; done) | fail) ⟨W3.heap.size, 0, none⟩ 1 1 [.string y.path, .int .i64 y.kind, .string y.data] (by first | (simp [Act.eval]; done) | fail) rfl (NR.out _ (by first | ((repeat (first | exact Ext.refl _ | assumption | refine Ext.alloc ?_ _ | refine Ext.drew ?_ | refine Ext.drewN ?_ _ | refine Ext.setCell ?_ (by first | omega | (simp; done) | (simp; omega)) _ | refine Ext.trans ?_ (by assumption))); done) | fail)) (by simp [Value.oneCell']) (by omega) (by simp; omega) ?_; intro v4 W4 hown hgrow hat; obtain ⟨hb4, hup4, hmv4⟩ := up_app2 (x := y) (hup3.out.step (by first | ((repeat (first | exact Ext.refl _ | assumption | refine Ext.alloc ?_ _ | refine Ext.drew ?_ | refine Ext.drewN ?_ _ | refine Ext.setCell ?_ (by first | omega | (simp; done) | (simp; omega)) _ | refine Ext.trans ?_ (by assumption))); done) | fail)) Hy.out hown hgrow hat; obtain ⟨_, ⟨d1, e1⟩⟩ := hb4.two; obtain ⟨A4, c4, rfl⟩ := own_form hown; have Hup4 := Lib.hid hup4; have Hmv4 := Lib.hid hmv4; clear hown hgrow hat hup4 hmv4 hb4)
        all_goals
          go_wp2_with (go_at_call 181; refine (HSo.out _ _ _ Hap.out (Hup4.out.step (by exact (by repeat (first | exact Ext.refl _ | assumption | refine Ext.alloc ?_ _ | refine Ext.drew ?_ | refine Ext.drewN ?_ _ | refine Ext.setCell ?_ (by first | omega | (simp; done) | (simp; omega)) _ | refine Ext.trans ?_ (by assumption))))) (by simp; omega)).mono ?_; rintro e W5 ⟨rfl, v5, hup5, hmv5⟩)
          go_end0
          refine ⟨rfl, v5, hup5, ?_⟩
          exact (Moved.of_ext HE.out).trans (hmv.out.trans ((Moved.of_ext (hE3.trans (by exact (by repeat (first | exact Ext.refl _ | assumption | refine Ext.alloc ?_ _ | refine Ext.drew ?_ | refine Ext.drewN ?_ _ | refine Ext.setCell ?_ (by first | omega | (simp; done) | (simp; omega)) _ | refine Ext.trans ?_ (by assumption)))))).trans (Hmv4.out.trans ((Moved.of_ext (by exact (by repeat (first | exact Ext.refl _ | assumption | refine Ext.alloc ?_ _ | refine Ext.drew ?_ | refine Ext.drewN ?_ _ | refine Ext.setCell ?_ (by first | omega | (simp; done) | (simp; omega)) _ | refine Ext.trans ?_ (by assumption))))).trans hmv5))))
      · rw [hf] at hpp
        have hys : (findT ys y.path).isSome = true := by simpa using hpp
        obtain ⟨u', hu'⟩ := Option.isSome_iff_exists.1 hys
        obtain ⟨i, hi, hidx, hix⟩ := idxP_find hu'
        have hip : ys[i].path = y.path := by rw [hix]; exact (findT_some hu').2
        have Hap : Hid ((ys.set i y).Perm (putU l y)) := Lib.hid (by rw [hput]; exact set_perm hperm.out hrd hi hip)
        have HA2 : ∀ W, Ext wr W → Calls Tryz.prog 133 #[.pointer (some ⟨ub, 0, none⟩), .string y.path] W fun e w' => e = .returned (.int .i64 (i : Int)) ∧ Ext W w' := fun W he => by
          have := HA1 W he
          rwa [hidx] at this
        have hge : (0 : Int) ≤ (i : Int) := by omega
        obtain ⟨gb, cap, hvr⟩ : ∃ gb cap, vr = .slice (some ⟨gb, 0, none⟩) ys.length cap := by
          rcases hup.out.row.2 with ⟨_, h0⟩ | ⟨gb, cap, cur, e, _⟩
          · omega
          · exact ⟨gb, cap, e⟩
        subst hvr
        obtain ⟨z, hz⟩ : ∃ z, ys[i] = z := ⟨_, rfl⟩
        have Hi0 := Lib.hid (ents_cells ys i z (by rw [List.getElem?_eq_getElem hi, hz]))
        clear hpp hf hys hrd HA HA1 hput hrise hbe hidx hix hu' hip hz
        go_upto_region 11 with (go_at_call 133; refine (HA2 _ (Ext.refl _)).mono ?_; rintro e W3 ⟨rfl, hE3⟩)
        have hup3 := Lib.hid (hup.out.step hE3)
        have hb3 := Hbe.out.ext hE3
        obtain ⟨⟨b0, _⟩, ⟨b1, _⟩⟩ := hup3.out.blk.two
        obtain ⟨⟨x0, _⟩, ⟨x1, _⟩, ⟨x2, _⟩⟩ := hb3.three
        have c0 : W3.cell? ⟨gb, i * 3, none⟩ = some (.string z.path) := (hup3.out.row.cellAt (i * 3) (by omega)).trans (Hi0.out 0 _ rfl)
        have c1 : W3.cell? ⟨gb, i * 3 + 1, none⟩ = some (.int .i64 z.kind) := (hup3.out.row.cellAt (i * 3 + 1) (by omega)).trans (Hi0.out 1 _ rfl)
        have c2 : W3.cell? ⟨gb, i * 3 + 2, none⟩ = some (.string z.data) := (hup3.out.row.cellAt (i * 3 + 2) (by omega)).trans (Hi0.out 2 _ rfl)
        have f0 := hup3.out.row.frozenAt (i * 3)
        have f1 := hup3.out.row.frozenAt (i * 3 + 1)
        have f2 := hup3.out.row.frozenAt (i * 3 + 2)
        have hil : (i : Int) < (ys.length : Int) := by omega
        have hcap : ys.length ≤ cap := by
          rcases hup3.out.row.2 with ⟨e, _⟩ | ⟨_, _, _, e, _, _, h, _⟩
          · cases e
          · cases e; exact h
        clear y0 y1 y2 hb3
        obtain ⟨hup4, hmv4⟩ := up_set (k := i) hup3.out hi Hy.out
        have Hup4 := Lib.hid hup4
        have Hmv4 := Lib.hid hmv4
        have hsl : (ys.set i y).length = ys.length := List.length_set
        have Hsl := Lib.hid hsl
        clear hup4 hmv4 hsl
        go_region
        all_goals
          go_wp2_with (go_at_call 181; refine (HSo.out _ _ _ Hap.out (Hup4.out.step (by exact (by repeat (first | exact Ext.refl _ | assumption | refine Ext.alloc ?_ _ | refine Ext.drew ?_ | refine Ext.drewN ?_ _ | refine Ext.setCell ?_ (by first | omega | (simp; done) | (simp; omega)) _ | refine Ext.trans ?_ (by assumption))))) (by have := Hsl.out; omega)).mono ?_; rintro e W5 ⟨rfl, v5, hup5, hmv5⟩)
          go_end0
          refine ⟨rfl, v5, hup5, ?_⟩
          exact (Moved.of_ext HE.out).trans (hmv.out.trans ((Moved.of_ext hE3).trans (Hmv4.out.trans ((Moved.of_ext (by exact (by repeat (first | exact Ext.refl _ | assumption | refine Ext.alloc ?_ _ | refine Ext.drew ?_ | refine Ext.drewN ?_ _ | refine Ext.setCell ?_ (by first | omega | (simp; done) | (simp; omega)) _ | refine Ext.trans ?_ (by assumption))))).trans hmv5))))
end Go.Proofs.YtneefmgidplbcaaGreatDoor

/-! LaidT -/
namespace Go.Proofs.YtneefmgidplbcaaGreatDoor
open Go Go.RowKit

/-- The handle of the type error is laid. -/
def Laid (w : World) : Prop := w.cell? ⟨0, 0, none⟩ = some (.iface 178 (.agg #[.pointer (some ⟨4, 33, none⟩)]))
theorem Laid.ext {w w' : World} (h : Laid w) (he : Ext w w') : Laid w' := he.cell h
end Go.Proofs.YtneefmgidplbcaaGreatDoor

/-! RowKit -/
namespace Go.Proofs.YtneefmgidplbcaaGreatDoor
open Go.ChangeShapes Go.WideShapes Go.RowKit Go

theorem Tryz.ownRow : ownKnob Tryz.prog.godebug = none := by kernel_rfl
theorem Tryz.et : Tryz.prog.globalNamed "errors.errorType" = some 0 := by kernel_rfl
theorem Tryz.rt : (Tryz.prog.cutTypes.find? (·.1 == "internal/reflectlite.rtype")).map (·.2) = some 178 := by kernel_rfl
theorem Tryz.oneRow : ((List.range 320).filter fun t => Tryz.prog.rowNamed t [101, 114, 114, 111, 114]) = [33] := by kernel_rfl
theorem Tryz.tysize : Tryz.prog.types.size = 320 := by kernel_rfl

def laidHandle : List (String × DataW Unit) := [("errors.errorType", Rows.laid_errors_errorType)]

theorem laid_of_handles {W : World} (h' : handlesMet Tryz.prog laidHandle W) : Laid W := by
  obtain ⟨name, u, ty, e1, e2, e3, e4, e5⟩ := h' _ (List.mem_singleton.2 rfl)
  have en : name = [101, 114, 114, 111, 114] := (Option.some.inj e1).symm
  subst en
  obtain rfl := Option.some.inj (Tryz.rt.symm.trans e2)
  have hm : ty ∈ (List.range 320).filter fun t => Tryz.prog.rowNamed t [101, 114, 114, 111, 114] := List.mem_filter.2 ⟨List.mem_range.2 (by rw [← Tryz.tysize]; exact e3), e4⟩
  rw [Tryz.oneRow] at hm
  obtain rfl := List.mem_singleton.1 hm
  have hh : typeHandle Tryz.prog 33 = .pointer (some ⟨4, 33, none⟩) := by kernel_rfl
  rw [hh] at e5
  simpa [Laid] using World.var?_cell Tryz.et e5 0

/-- A world in which the handle and the data are laid. -/
noncomputable def handleWorld (os : Os) : World :=
  let w0 := World.holding Tryz.prog os ⟨#[], #[], []⟩
  { w0 with heap := w0.heap.modify 0 fun
      | .cells _ t frozen => .cells #[.iface 178 (.agg #[.pointer (some ⟨4, 33, none⟩)])] t frozen
      | o => o }

/-- Data laid over a world are met there. -/
theorem laidMet_over {P : Program} {w0 : World} {l : List (String × DataW Unit)} (hf : w0.layFits P l [] = true) (hi : w0.layIfaces P l (w0.layVars P l) = true) : laidMet P l (w0.layVars P l) := by
  have e1 : (l.filter fun x => (l.map (·.1)).contains x.1) = l := List.filter_eq_self.2 fun x hx => List.contains_iff_mem.2 (List.mem_map.2 ⟨x, hx, rfl⟩)
  have e2 : (l.filter fun x => !(l.map (·.1)).contains x.1) = [] := List.filter_eq_nil_iff.2 fun x hx => by rw [List.contains_iff_mem.2 (List.mem_map.2 ⟨x, hx, rfl⟩)]; simp
  exact laidMet_layVars (w0 := w0) (l.map (·.1)) [] (by rw [e1]) (by rw [e1]; exact hf) (by rw [e1]; exact hi) (by rw [e2]; exact LaidIn.none)
end Go.Proofs.YtneefmgidplbcaaGreatDoor

/-! ListArg -/
namespace Go.Proofs.YtneefmgidplbcaaGreatDoor
open Go.ChangeShapes Go.WideShapes Go.RowKit Go

theorem handed_and_shaped {H : Type} {enc : TypeId × Value → H} {a : Assume} {C : Checked} {os : Os} {f : FuncId} {fn : Func} {s : ChangeSpec} {conds : List PathCond} {apart fresh handsOn again : Bool} {X : World → Array Value → Prop}
    (hX : ∀ (w w' : World) (args : Array Value), w.heap = w'.heap → X w args → X w' args)
    (own : ownKnob C.prog.godebug = none) (started : os.Started) (noInit : C.prog.inits.idxOf? f = none) (hfn : C.prog.funcs[f]? = some fn)
    (witness : ∃ (w : World) (tape : Tape) (i : Input), w.os = os ∧ (w.forCall tape i).Shaped C.prog ∧ i.vars = [] ∧ Input.okWide C.prog (w.forCall tape i) .any w.heap.size f i ∧
      ((s.pre enc C.prog fn conds apart (w.forCall tape i).memory i.args ∧ X (w.forCall tape i).memory i.args) ∧ sizedMet enc C.prog fn (OpenSpec.ofChange s) apart (w.forCall tape i).memory i.args) ∧ a.holds C.prog (lone (Frame.enter C.prog f i.args .normal) [] (w.forCall tape i)))
    (contract : ∀ (W : World) (base : Nat) (args : Array Value) (ds gs : List (DataW H)) (before : List MemPlace),
      (∀ (j : Nat) t v, fn.params[j]? = some t → args[j]? = some v → Value.okWide C.prog W .any base t v) →
      DataW.Whole enc C.prog fn.params.toList s.vars apart W args.toList ds gs before →
      (DataW.weightsEach C.prog (fn.params.toList ++ s.plain.varTypes C.prog) (ds ++ gs)).all (· ≤ reachBytes) = true → W.ShapedOpen C.prog → X W args →
      Calls C.prog f args W fun e W' => ∃ v, e = .returned v ∧ s.post enc C.prog fn apart fresh handsOn again W args v W') :
    ReturnsInHanded a C os f .any (fun w args => (s.pre enc C.prog fn conds apart w args ∧ X w args) ∧ sizedMet enc C.prog fn (OpenSpec.ofChange s) apart w args) (s.post enc C.prog fn apart fresh handsOn again) := by
  refine returnsInHanded_of_calls own started noInit witness ?_
  intro w tape i _ hsh _ hok hpre hholds
  obtain ⟨_, _, _, fn', hfn', _, _, _, _, hval⟩ := hok
  obtain rfl := Option.some.inj (hfn'.symm.trans hfn)
  obtain ⟨⟨⟨ds, gs, before, hw, hc⟩, hx⟩, hz⟩ := hpre
  refine (contract (w.forCall tape i) w.heap.size i.args ds gs before hval (DataW.Whole.of_heap (w' := w.forCall tape i) (by rfl) hw) (hz.weights hw) hsh (hX _ _ _ (by rfl) hx)).mono fun e W' ⟨v, he, hp⟩ => ?_
  subst he
  exact ChangeSpec.post_blind hp


def listData : List (String × DataW Unit) := [("unicode/utf8.acceptRanges", Rows.laid_unicode_utf8_acceptRanges), ("unicode/utf8.first", Rows.laid_unicode_utf8_first)]
noncomputable def listWorld (os : Os) : World := (handleWorld os).layVars Tryz.prog listData
theorem listWorld_os (os : Os) : (listWorld os).os = os := World.layVars_os _ _ _
theorem list_data (os : Os) : laidMet Tryz.prog listData (listWorld os) := laidMet_over (by kernel_rfl) (by kernel_rfl)

theorem Tryz.cellsIntL : Tryz.prog.cellsOf 3 = 1 := by kernel_rfl
theorem Tryz.cellsStrL : Tryz.prog.cellsOf 9 = 1 := by kernel_rfl
theorem Tryz.cellsEnt : Tryz.prog.cellsOf 66 = 3 := by kernel_rfl
theorem Tryz.cellsEnts : Tryz.prog.cellsOf 54 = 1 := by kernel_rfl

/-- What is read is no greater than memory has room. -/
def FitD {H : Type} (t : TypeId) (d : DataW H) : Prop := ∀ k ∈ d.weights Tryz.prog t, k ≤ reachBytes

theorem fitD_of {H : Type} {ts : List TypeId} {ds : List (DataW H)} (h : (DataW.weightsEach Tryz.prog ts ds).all (· ≤ reachBytes) = true) {j : Nat} {t : TypeId} {d : DataW H} (ht : ts[j]? = some t) (hd : ds[j]? = some d) : FitD t d :=
  fun k hk => by simpa using List.all_eq_true.1 h k (DataW.weights_mem_each ht hd k hk)

theorem weightsAll_mem {H : Type} {e : TypeId} : ∀ {l : List (DataW H)} {d : DataW H}, d ∈ l → ∀ k ∈ d.weights Tryz.prog e, k ∈ DataW.weightsAll Tryz.prog e l
  | x :: l, d, h, k, hk => by
    rw [DataW.weightsAll, List.mem_append]
    rcases List.mem_cons.1 h with rfl | h
    · exact .inl hk
    · exact .inr (weightsAll_mem h k hk)

/-- A slice that is read as data reads as a list, if each element does. -/
theorem rd_of_trod {H : Type} {enc : TypeId × Value → H} {W : World} {hd : Bool} {α : Type} [Inhabited α] {R : World → α → List Value → Prop} {sz by_ : Nat} {t e : TypeId} (ht : Tryz.prog.underlying t = some (.slice e)) (hsz : Tryz.prog.cellsOf e = sz) (hsz0 : 0 < sz)
    (hby : Tryz.prog.bytesOf e = by_) (hby0 : 1 ≤ by_) (hRc : ∀ x cs, R W x cs → cs.length = sz)
    (hel : ∀ n cs d pl, DataW.trod enc Tryz.prog W 0 (fun _ => true) hd n e cs = some (d, pl) → FitD e d → ∃ x, R W x cs)
    {A : Option Addr} {n c fuel : Nat} {d : DataW H} {p : List MemPlace} (h : DataW.trod enc Tryz.prog W 0 (fun _ => true) hd fuel t [.slice A n c] = some (d, p)) (hw : FitD t d) : ∃ l, Rd R sz W (.slice A n c) l := by
  rcases Go.Deep.open_slice ht h with ⟨e1, _⟩ | ⟨a, len, cap, m, k, D, Pl, e1, hb, hl, hm, hmm, hx, hel2⟩
  · cases e1
    exact ⟨[], Rd.nil _ _ _⟩
  · cases e1
    cases hx
    have hbytes : (n + (m - n)) * by_ ≤ reachBytes := by
      refine hw _ ?_
      rw [DataW.weights, ht]
      simp [hby]
    have hr := reachBytes_lt
    have hn1 : n ≤ (n + (m - n)) * by_ := Nat.le_trans (Nat.le_add_right _ _) (Nat.le_mul_of_pos_right _ hby0)
    have hmc : n ≤ m := by rw [hmm]; simp; omega
    rw [hsz] at hel2
    have hch : ∀ i, i < n → ∃ x : α, ∃ cs, R W x cs ∧ ∀ q u, cs[q]? = some u → W.cell? (a.add (i * sz + q)) = some u := fun i hi => by
      obtain ⟨cs, h1, h2⟩ := hel2 i (by omega)
      obtain ⟨x, hx⟩ := hel _ _ _ _ h2 (fun q hq => hw q (by
        rw [DataW.weights, ht]
        refine List.mem_cons_of_mem _ (List.mem_append_left _ (weightsAll_mem (d := D i) ?_ q hq))
        exact List.mem_map.2 ⟨i, List.mem_range.2 hi, rfl⟩))
      obtain ⟨_, hlen, hc⟩ := World.cells?_some h1
      refine ⟨x, cs, hx, fun q u hq => ?_⟩
      have hq5 : q < sz := by
        have := (List.getElem?_eq_some_iff.1 hq).1
        have := hRc _ _ hx
        omega
      have := hc q hq5
      rw [Go.Deep.add_add] at this
      rw [this, hq]
    obtain ⟨f, hf⟩ := Go.Deep.choose_lt hch
    refine ⟨(List.range n).map f, some a, c, by simp, by simpa using hl, by unfold maxLen at hm; exact hm, by simp; omega, fun hne => ?_⟩
    have hn : 0 < n := by
      rcases n with _ | n
      · simp at hne
      · omega
    obtain ⟨cs0, hr0, h0⟩ := hf 0 hn
    have hl0 := hRc _ _ hr0
    have h00 := h0 0 (cs0[0]'(by omega)) (List.getElem?_eq_getElem _)
    obtain ⟨blk, off, spot⟩ := a
    have hsp : spot = none := by
      rcases spot with _ | sp
      · rfl
      · simp [World.cell?, Addr.add] at h00
        split at h00 <;> simp at h00
    subst hsp
    refine ⟨blk, off, rfl, fun j x hj => ?_⟩
    have hj' : j < n := by
      have := (List.getElem?_eq_some_iff.1 hj).1
      simpa using this
    have hx : f j = x := by simpa [hj'] using hj
    obtain ⟨cs, g1, g2⟩ := hf j hj'
    rw [hx] at g1
    refine ⟨cs, g1, fun i u hi => ?_⟩
    have := g2 i u hi
    rw [Addr.add_lit, ← Nat.add_assoc] at this
    exact this

set_option maxRecDepth 20000 in
theorem ent_trod {H : Type} {enc : TypeId × Value → H} {w : World} {base : Nat} {spare : Nat → Bool} {held : Bool} {n : Nat} {cs : List Value} {d : DataW H} {pl : List MemPlace}
    (h : DataW.trod enc Tryz.prog w base spare held n 66 cs = some (d, pl)) (hw : FitD 66 d) : ∃ x : Ent, RE w x cs := by
  obtain ⟨xs, m, _, hxe, hl, hx, hf⟩ := DataW.trod_struct Tryz.underlying66 h
  rw [Tryz.cellsEnt] at hl
  match cs, hl with
  | [c0, c1, c2], _ =>
    have g0 := hf 0 _ rfl
    have g1 := hf 1 _ rfl
    have g2 := hf 2 _ rfl
    match xs, hx with
    | [y0, y1, y2], _ =>
      simp [Tryz.cellsStrL, Tryz.cellsIntL] at g0 g1 g2
      obtain ⟨s0, e0, x0, _⟩ := DataW.trod_string Tryz.underlying9 g0
      obtain ⟨z1, e1, x1, w1⟩ := DataW.trod_int Tryz.underlying3 g1
      obtain ⟨s2, e2, x2, _⟩ := DataW.trod_string Tryz.underlying9 g2
      cases e0
      cases e1
      cases e2
      subst x0
      subst x1
      subst x2
      cases hxe
      have hr := reachBytes_lt
      have k0 : s0.data.toList.length ≤ reachBytes := hw _ (by
        rw [DataW.weights, Tryz.underlying66]
        simp [DataW.weightsEach, DataW.weights])
      have k2 : s2.data.toList.length ≤ reachBytes := hw _ (by
        rw [DataW.weights, Tryz.underlying66]
        simp [DataW.weightsEach, DataW.weights])
      rw [Array.length_toList] at k0 k2
      refine ⟨⟨s0, z1, s2⟩, rfl, ?_, ?_⟩
      · show s0.data.size ≤ _
        omega
      · show s2.data.size ≤ _
        omega

instance : Inhabited Ent := ⟨⟨⟨#[]⟩, 0, ⟨#[]⟩⟩⟩

theorem ents_in {H : Type} {enc : TypeId × Value → H} {W : World} {hd : Bool} {fuel : Nat} {A : Option Addr} {n c : Nat} {d : DataW H} {p : List MemPlace}
    (h : DataW.trod enc Tryz.prog W 0 (fun _ => true) hd fuel 54 [.slice A n c] = some (d, p)) (hw : FitD 54 d) : ∃ l, RdE W (.slice A n c) l :=
  rd_of_trod Tryz.underlying54 Tryz.cellsEnt (by omega) (by_ := 40) (by kernel_rfl) (by omega) (fun x cs h => by rw [h.1]; rfl) (fun n cs d pl h hw => ent_trod h hw) h hw

theorem stack_in {H : Type} {enc : TypeId × Value → H} {W : World} {hd : Bool} {fuel : Nat} {A : Option Addr} {n c : Nat} {d : DataW H} {p : List MemPlace}
    (h : DataW.trod enc Tryz.prog W 0 (fun _ => true) hd fuel 22 [.slice A n c] = some (d, p)) (hw : FitD 22 d) : ∃ l, RdK W (.slice A n c) l :=
  rd_of_trod Tryz.underlying22 Tryz.cellsEnts (by omega) (by_ := 24) (by kernel_rfl) (by omega) (fun x cs ⟨v, h, _⟩ => by rw [h]; rfl) (fun n cs d pl h hw => by
    have hcs : ∃ A n c, cs = [.slice A n c] := by
      rcases Go.Deep.open_slice Tryz.underlying54 h with ⟨e1, _⟩ | ⟨a, len, cap, m, k, D, Pl, e1, _⟩
      · exact ⟨_, _, _, e1⟩
      · exact ⟨_, _, _, e1⟩
    obtain ⟨A, n', c, rfl⟩ := hcs
    obtain ⟨l, hl⟩ := ents_in h hw
    exact ⟨l, _, rfl, hl⟩) h hw
end Go.Proofs.YtneefmgidplbcaaGreatDoor

/-! TreeDo -/
namespace Go.Proofs.YtneefmgidplbcaaGreatDoor
section
open Go Go.RowKit Go.Shelf Go.Proofs

/-- What an operation on a tree answers. -/
def TBad (c : Int) (w : World) (e : Ending) (w' : World) : Prop := ∃ v n, e = .returned (.tuple #[.slice none 0 0, v]) ∧ ErrN w' n v c ∧ Ext w w'
def TAns (r : Except Int (List Ent)) (w : World) (e : Ending) (w' : World) : Prop := match r with
  | .ok l => WithOk l w e w'
  | .error c => TBad c w e w'

theorem ErrN.ext {w w' : World} {n : Nat} {v : Value} {c : Int} (h : ErrN w n v c) (he : Ext w w') : ErrN w' n v c := h.below he.below

theorem At_errN (op path : ByteArray) (n : Nat) (v : Value) (c : Int) (w : World) (h : ErrN w n v c) :
    Calls Tryz.prog 38 #[.string op, .string path, v] w fun e w' => (∃ a, e = .returned (.iface 135 (.pointer (some ⟨a, 0, none⟩))) ∧ ErrN w' (n + 1) (.iface 135 (.pointer (some ⟨a, 0, none⟩))) c) ∧ Ext w w' := by
  rcases ErrN_ne h with ⟨a', rfl⟩ | rfl
  · refine (fail_At_ptr op path _ w).mono ?_
    rintro e w' ⟨rfl, rfl⟩
    exact ⟨⟨_, rfl, _, _, rfl, by rw [World.cell?_alloc_at _ _ _ _ rfl]; rfl, h.ext ((Ext.refl w).alloc _)⟩, (Ext.refl w).alloc _⟩
  · refine (fail_At_int op path _ w).mono ?_
    rintro e w' ⟨rfl, rfl⟩
    exact ⟨⟨_, rfl, _, _, rfl, by rw [World.cell?_alloc_at _ _ _ _ rfl]; rfl, h.ext ((Ext.refl w).alloc _)⟩, (Ext.refl w).alloc _⟩

theorem errN_iface {w : World} {n : Nat} {v : Value} {c : Int} (h : ErrN w n v c) : ∃ T u, v = .iface T u := by
  rcases ErrN_ne h with ⟨a', rfl⟩ | rfl
  · exact ⟨_, _, rfl⟩
  · exact ⟨_, _, rfl⟩

theorem tree_small {t : List Ent} (h : treeOk t = true) : t.length ≤ 1024 := (treeOk_iff.1 h).1
theorem tree_rising {t : List Ent} (h : treeOk t = true) : Rising t := (treeOk_iff.1 h).2.1

set_option maxHeartbeats 8000000 in
set_option maxRecDepth 20000 in
theorem Made_any (v : Value) (t : List Ent) (p : ByteArray) (k : Nat) (w : World) (hv : RdE w v t) (hp : p.size ≤ 140737488355328) :
    Calls Tryz.prog 141 #[v, .string p, .int .i64 k] w (TAns (madeT t p k) w) := by
  have Hv := Lib.hid hv
  obtain ⟨A, c, rfl, hc1, hc2, _⟩ := rdE_form hv rfl
  clear hv
  rcases ht : treeOk t with _ | _
  · have hm : madeT t p k = .error 16 := by rw [madeT, if_neg (by simp [ht])]
    rw [hm]
    show Calls _ _ _ _ (TBad 16 w)
    have HT := fun w => Tree_no (v := .slice A t.length c) ht w
    clear ht hm
    go_enter Tryz.func141, Tryz.ntmps141
    go_wp2_with (first | (go_at_call 25; refine (HT _ Hv.out).mono ?_; rintro e W1 ⟨rfl, hE1⟩) | (go_at_call 38; refine (fail_At_c _ _ _ _).mono ?_; rintro e W3 ⟨⟨a5, rfl, hEr⟩, hE3⟩))
    go_ret2
    exact ⟨_, 1, rfl, hEr, hE1.trans hE3⟩
  · have HT := fun w => Tree_yes (v := .slice A t.length c) ht w
    have HP := fun w h => tPlace_any (.slice A t.length c) t p w h hp
    by_cases hpl : placeT t p = 0
    · have hm : madeT t p k = withT t ⟨p, k, ⟨#[]⟩⟩ := by rw [madeT, if_pos ht, if_pos hpl]
      have hPA : ∀ W, PlaceAns (placeT t p) W = PlaceOk W := fun W => by funext e w'; rw [hpl]; rfl
      have HP' : ∀ w, RdE w (.slice A t.length c) t → Calls Tryz.prog 145 #[.slice A t.length c, .string p] w (PlaceOk w) := fun w h => hPA w ▸ HP w h
      have HW := fun w h => With_any (.slice A t.length c) t ⟨p, k, ⟨#[]⟩⟩ w h (by have := tree_small ht; omega) (tree_rising ht) ⟨hp, Nat.zero_le _⟩
      rw [hm]
      rcases hw : withT t ⟨p, k, ⟨#[]⟩⟩ with cc | l
      · rw [hw] at HW
        show Calls _ _ _ _ (TBad cc w)
        have HW' : ∀ w, RdE w (.slice A t.length c) t → Calls Tryz.prog 67 #[.slice A t.length c, .agg #[.string p, .int .i64 k, .string ⟨#[]⟩]] w (WithBad cc w) := HW
        clear ht hm hw HW HP hPA hpl
        go_enter Tryz.func141, Tryz.ntmps141
        go_wp2_with (first | (go_at_call 25; refine (HT _ Hv.out).mono ?_; rintro e W1 ⟨rfl, hE1⟩) | (go_at_call 145; refine (HP' _ (Hv.out.ext hE1)).mono ?_; rintro e W2 ⟨rfl, hE2⟩) | (go_at_call 67; refine (HW' _ (Hv.out.ext (hE1.trans hE2))).mono ?_; rintro e W3 ⟨rfl, hE3⟩) | (go_at_call 38; refine (fail_At_c _ _ _ _).mono ?_; rintro e W4 ⟨⟨a5, rfl, hEr⟩, hE4⟩))
        go_ret2
        exact ⟨_, 1, rfl, hEr, ((hE1.trans hE2).trans hE3).trans hE4⟩
      · rw [hw] at HW
        show Calls _ _ _ _ (WithOk l w)
        have HW' : ∀ w, RdE w (.slice A t.length c) t → Calls Tryz.prog 67 #[.slice A t.length c, .agg #[.string p, .int .i64 k, .string ⟨#[]⟩]] w (WithOk l w) := HW
        clear ht hm hw HW HP hPA hpl
        go_enter Tryz.func141, Tryz.ntmps141
        go_wp2_with (first | (go_at_call 25; refine (HT _ Hv.out).mono ?_; rintro e W1 ⟨rfl, hE1⟩) | (go_at_call 145; refine (HP' _ (Hv.out.ext hE1)).mono ?_; rintro e W2 ⟨rfl, hE2⟩) | (go_at_call 67; refine (HW' _ (Hv.out.ext (hE1.trans hE2))).mono ?_; rintro e W3 ⟨v3, rfl, hrd, hE3⟩; have Hrd := Lib.hid hrd; obtain ⟨A3, c3, rfl, _, _, _⟩ := rdE_form hrd rfl; clear hrd) | (go_at_call 38; refine (fail_At_nil _ _ _).mono ?_; rintro e W4 ⟨rfl, rfl⟩))
        go_ret2
        exact ⟨_, rfl, Hrd.out, (hE1.trans hE2).trans hE3⟩
    · have hm : madeT t p k = .error (placeT t p) := by rw [madeT, if_pos ht, if_neg hpl]
      rw [hm]
      show Calls _ _ _ _ (TBad (placeT t p) w)
      have hPA : ∀ W, PlaceAns (placeT t p) W = PlaceBad (placeT t p) W := fun W => by funext e w'; exact if_neg hpl
      have HP' : ∀ w, RdE w (.slice A t.length c) t → Calls Tryz.prog 145 #[.slice A t.length c, .string p] w (PlaceBad (placeT t p) w) := fun w h => hPA w ▸ HP w h
      generalize placeT t p = cc at HP' ⊢
      clear ht hm HP hPA hpl
      go_enter Tryz.func141, Tryz.ntmps141
      go_wp2_with (first | (go_at_call 25; refine (HT _ Hv.out).mono ?_; rintro e W1 ⟨rfl, hE1⟩) | (go_at_call 145; refine (HP' _ (Hv.out.ext hE1)).mono ?_; rintro e W2 ⟨v2, n2, rfl, hEr2, hE2⟩; obtain ⟨T2, u2, rfl⟩ := errN_iface hEr2; have HA := fun op path => At_errN op path _ _ _ _ hEr2; clear hEr2) | (go_at_call 38; refine (HA _ _).mono ?_; rintro e W4 ⟨⟨a5, rfl, hEr⟩, hE4⟩))
      go_ret2
      exact ⟨_, _, rfl, hEr, (hE1.trans hE2).trans hE4⟩
end

section
open Go Go.RowKit Go.Shelf Go.Proofs

theorem tFile_ok {v : Value} {t : List Ent} {p : ByteArray} {x : Ent} (hp : p.size ≤ 140737488355328) (h : fileT t p = .ok x) (w : World) (hv : RdE w v t) : Calls Tryz.prog 65 #[v, .string p] w (FileOk x w) := by
  have := tFile_any v t p w hv hp
  rwa [h] at this
theorem tFile_bad {v : Value} {t : List Ent} {p : ByteArray} {c : Int} (hp : p.size ≤ 140737488355328) (h : fileT t p = .error c) (w : World) (hv : RdE w v t) : Calls Tryz.prog 65 #[v, .string p] w (FileBad c w) := by
  have := tFile_any v t p w hv hp
  rwa [h] at this

theorem Made_ok {v : Value} {t l : List Ent} {p : ByteArray} {k : Nat} (hp : p.size ≤ 140737488355328) (h : madeT t p k = .ok l) (w : World) (hv : RdE w v t) : Calls Tryz.prog 141 #[v, .string p, .int .i64 k] w (WithOk l w) := by
  have := Made_any v t p k w hv hp
  rwa [h] at this
theorem Made_bad {v : Value} {t : List Ent} {p : ByteArray} {c : Int} {k : Nat} (hp : p.size ≤ 140737488355328) (h : madeT t p k = .error c) (w : World) (hv : RdE w v t) : Calls Tryz.prog 141 #[v, .string p, .int .i64 k] w (TBad c w) := by
  have := Made_any v t p k w hv hp
  rwa [h] at this

set_option maxHeartbeats 4000000 in
set_option maxRecDepth 20000 in
theorem Create_any (v : Value) (t : List Ent) (p : ByteArray) (w : World) (hv : RdE w v t) (hp : p.size ≤ 140737488355328) :
    Calls Tryz.prog 99 #[v, .string p] w (TAns (madeT t p 1) w) := by
  have Hv := Lib.hid hv
  obtain ⟨A, c, rfl, _, _, _⟩ := rdE_form hv rfl
  clear hv
  rcases hm : madeT t p 1 with cc | l
  · show Calls _ _ _ _ (TBad cc w)
    have HM : ∀ w, RdE w (.slice A t.length c) t → Calls Tryz.prog 141 #[.slice A t.length c, .string p, .int .i64 1] w (TBad cc w) := fun w h => Made_bad (k := 1) hp hm w h
    clear hm
    go_enter Tryz.func99, Tryz.ntmps99
    go_wp2_with (go_at_call 141; refine (HM _ Hv.out).mono ?_; rintro e W1 ⟨v1, n1, rfl, hEr, hE1⟩)
    go_ret2
    exact ⟨_, _, rfl, hEr, hE1⟩
  · show Calls _ _ _ _ (WithOk l w)
    have HM : ∀ w, RdE w (.slice A t.length c) t → Calls Tryz.prog 141 #[.slice A t.length c, .string p, .int .i64 1] w (WithOk l w) := fun w h => Made_ok (k := 1) hp hm w h
    clear hm
    go_enter Tryz.func99, Tryz.ntmps99
    go_wp2_with (go_at_call 141; refine (HM _ Hv.out).mono ?_; rintro e W1 ⟨v1, rfl, hrd, hE1⟩)
    go_ret2
    exact ⟨_, rfl, hrd, hE1⟩

set_option maxHeartbeats 4000000 in
set_option maxRecDepth 20000 in
theorem Mkdir_any (v : Value) (t : List Ent) (p : ByteArray) (w : World) (hv : RdE w v t) (hp : p.size ≤ 140737488355328) :
    Calls Tryz.prog 101 #[v, .string p] w (TAns (madeT t p 2) w) := by
  have Hv := Lib.hid hv
  obtain ⟨A, c, rfl, _, _, _⟩ := rdE_form hv rfl
  clear hv
  rcases hm : madeT t p 2 with cc | l
  · show Calls _ _ _ _ (TBad cc w)
    have HM : ∀ w, RdE w (.slice A t.length c) t → Calls Tryz.prog 141 #[.slice A t.length c, .string p, .int .i64 2] w (TBad cc w) := fun w h => Made_bad (k := 2) hp hm w h
    clear hm
    go_enter Tryz.func101, Tryz.ntmps101
    go_wp2_with (go_at_call 141; refine (HM _ Hv.out).mono ?_; rintro e W1 ⟨v1, n1, rfl, hEr, hE1⟩)
    go_ret2
    exact ⟨_, _, rfl, hEr, hE1⟩
  · show Calls _ _ _ _ (WithOk l w)
    have HM : ∀ w, RdE w (.slice A t.length c) t → Calls Tryz.prog 141 #[.slice A t.length c, .string p, .int .i64 2] w (WithOk l w) := fun w h => Made_ok (k := 2) hp hm w h
    clear hm
    go_enter Tryz.func101, Tryz.ntmps101
    go_wp2_with (go_at_call 141; refine (HM _ Hv.out).mono ?_; rintro e W1 ⟨v1, rfl, hrd, hE1⟩)
    go_ret2
    exact ⟨_, rfl, hrd, hE1⟩

theorem OneErr.errN {w : World} {c : Int} {v : Value} (h : OneErr w c v) : ∃ a, v = .iface 135 (.pointer (some ⟨a, 0, none⟩)) ∧ ErrN w 1 v c := h

set_option maxHeartbeats 4000000 in
set_option maxRecDepth 20000 in
theorem Unlink_any (v : Value) (t : List Ent) (p : ByteArray) (w : World) (hv : RdE w v t) (hp : p.size ≤ 140737488355328) (hl : t.length ≤ 1000000) :
    Calls Tryz.prog 106 #[v, .string p] w (TAns (unlinkT t p) w) := by
  have Hv := Lib.hid hv
  obtain ⟨A, c, rfl, _, _, _⟩ := rdE_form hv rfl
  clear hv
  rcases hm : fileT t p with cc | x
  · have hu : unlinkT t p = .error cc := by rw [unlinkT, hm]
    rw [hu]
    show Calls _ _ _ _ (TBad cc w)
    have HM := fun w => tFile_bad (v := .slice A t.length c) hp hm w
    clear hm hu
    go_enter Tryz.func106, Tryz.ntmps106
    go_wp2_with (go_at_call 65; refine (HM _ Hv.out).mono ?_; rintro e W1 ⟨y1, v1, rfl, ⟨a1, rfl, hEr⟩, hE1⟩)
    go_ret2
    exact ⟨_, _, rfl, hEr.ext (by exact (by repeat (first | exact Ext.refl _ | assumption | refine Ext.alloc ?_ _ | refine Ext.drew ?_ | refine Ext.drewN ?_ _ | refine Ext.setCell ?_ (by first | omega | (simp; done) | (simp; omega)) _ | refine Ext.trans ?_ (by assumption)))), by exact (by repeat (first | exact Ext.refl _ | assumption | refine Ext.alloc ?_ _ | refine Ext.drew ?_ | refine Ext.drewN ?_ _ | refine Ext.setCell ?_ (by first | omega | (simp; done) | (simp; omega)) _ | refine Ext.trans ?_ (by assumption)))⟩
  · have hu : unlinkT t p = .ok (delT t p) := by rw [unlinkT, hm]
    rw [hu]
    show Calls _ _ _ _ (WithOk (delT t p) w)
    have HM := fun w => tFile_ok (v := .slice A t.length c) hp hm w
    have HW := fun w h => Without_any (.slice A t.length c) t p w h hl
    clear hm hu
    go_enter Tryz.func106, Tryz.ntmps106
    go_wp2_with (first | (go_at_call 65; refine (HM _ Hv.out).mono ?_; rintro e W1 ⟨rfl, hE1⟩) | (go_at_call 142; refine (HW _ (Hv.out.ext (by exact (by repeat (first | exact Ext.refl _ | assumption | refine Ext.alloc ?_ _ | refine Ext.drew ?_ | refine Ext.drewN ?_ _ | refine Ext.setCell ?_ (by first | omega | (simp; done) | (simp; omega)) _ | refine Ext.trans ?_ (by assumption)))))).mono ?_; rintro e W2 ⟨v2, rfl, hrd, hE2⟩))
    go_ret2
    exact ⟨_, rfl, hrd, Ext.trans (by exact (by repeat (first | exact Ext.refl _ | assumption | refine Ext.alloc ?_ _ | refine Ext.drew ?_ | refine Ext.drewN ?_ _ | refine Ext.setCell ?_ (by first | omega | (simp; done) | (simp; omega)) _ | refine Ext.trans ?_ (by assumption)))) hE2⟩

set_option maxHeartbeats 8000000 in
set_option maxRecDepth 20000 in
theorem Cut_any (v : Value) (t : List Ent) (p : ByteArray) (n : Int) (w : World) (hv : RdE w v t) (hp : p.size ≤ 140737488355328) :
    Calls Tryz.prog 104 #[v, .string p, .int .i64 n] w (TAns (cutT t p n) w) := by
  have Hv := Lib.hid hv
  obtain ⟨A, c, rfl, _, _, _⟩ := rdE_form hv rfl
  rcases hm : fileT t p with cc | x
  · have hu : cutT t p n = .error cc := by rw [cutT, hm]
    rw [hu]
    show Calls _ _ _ _ (TBad cc w)
    have HM := fun w => tFile_bad (v := .slice A t.length c) hp hm w
    clear hm hu hv
    go_enter Tryz.func104, Tryz.ntmps104
    go_wp2_with (go_at_call 65; refine (HM _ Hv.out).mono ?_; rintro e W1 ⟨y1, v1, rfl, ⟨a1, rfl, hEr⟩, hE1⟩)
    go_ret2
    exact ⟨_, _, rfl, hEr.ext (by exact (by repeat (first | exact Ext.refl _ | assumption | refine Ext.alloc ?_ _ | refine Ext.drew ?_ | refine Ext.drewN ?_ _ | refine Ext.setCell ?_ (by first | omega | (simp; done) | (simp; omega)) _ | refine Ext.trans ?_ (by assumption)))), by exact (by repeat (first | exact Ext.refl _ | assumption | refine Ext.alloc ?_ _ | refine Ext.drew ?_ | refine Ext.drewN ?_ _ | refine Ext.setCell ?_ (by first | omega | (simp; done) | (simp; omega)) _ | refine Ext.trans ?_ (by assumption)))⟩
  · have HM := fun w => tFile_ok (v := .slice A t.length c) hp hm w
    by_cases hn : n < 0 ∨ 256 < n
    · have hu : cutT t p n = .error 15 := by rw [cutT, hm]; exact if_pos hn
      rw [hu]
      show Calls _ _ _ _ (TBad 15 w)
      clear hm hu hv
      rcases hn with hn | hn
      all_goals
        go_enter Tryz.func104, Tryz.ntmps104
        go_wp2_with (first | (go_at_call 65; refine (HM _ Hv.out).mono ?_; rintro e W1 ⟨rfl, hE1⟩) | (go_at_call 38; refine (fail_At_c _ _ _ _).mono ?_; rintro e W4 ⟨⟨a5, rfl, hEr⟩, hE4⟩))
        go_ret2
        exact ⟨_, 1, rfl, hEr, Ext.trans (by exact (by repeat (first | exact Ext.refl _ | assumption | refine Ext.alloc ?_ _ | refine Ext.drew ?_ | refine Ext.drewN ?_ _ | refine Ext.setCell ?_ (by first | omega | (simp; done) | (simp; omega)) _ | refine Ext.trans ?_ (by assumption)))) hE4⟩
    · have hu : cutT t p n = withT t (setD x (filledT x.data n.toNat)) := by rw [cutT, hm]; exact if_neg hn
      obtain ⟨ht, hx, hpx, hk, _⟩ := fileT_ok hm
      obtain ⟨k, rfl⟩ : ∃ k : Nat, n = k := ⟨n.toNat, by omega⟩
      rw [Int.toNat_natCast] at hu
      have hws := withT_set ht hx hk (d := filledT x.data k) (by rw [filledT_size]; omega)
      rw [hu, hws.1]
      show Calls _ _ _ _ (WithOk _ w)
      have hent := (treeOk_iff.1 ht).2.2 x hx
      have HF := fun w => Filled_any x.data k w (by omega) (entOk_data hent.1 hk)
      have hxf := RdE.fits hv x hx
      have HW := fun w h => With_any (.slice A t.length c) t (setD x (filledT x.data k)) w h (by have := tree_small ht; omega) (tree_rising ht) ⟨hxf.1, by show (filledT x.data k).size ≤ _; rw [filledT_size]; omega⟩
      rw [hws.1] at HW
      have HW' : ∀ w, RdE w (.slice A t.length c) t → Calls Tryz.prog 67 #[.slice A t.length c, .agg #[.string x.path, .int .i64 x.kind, .string (filledT x.data k)]] w (WithOk (insT t (setD x (filledT x.data k))) w) := HW
      have hsz : (filledT x.data k).size ≤ 256 := by rw [filledT_size]; omega
      generalize filledT x.data k = fd at *
      have hk256 : (k : Int) ≤ 256 := by omega
      clear hm hu hv hn ht hx hpx hk hws hent hxf HW
      go_enter Tryz.func104, Tryz.ntmps104
      go_upto_region 7 with (first | (go_at_call 65; refine (HM _ Hv.out).mono ?_; rintro e W1 ⟨rfl, hE1⟩) | (go_at_call 66; refine (HF _).mono ?_; rintro e W2 ⟨rfl, hE2⟩; obtain ⟨⟨x0, f0⟩, ⟨x1, f1⟩, ⟨x2, f2⟩⟩ := ((Blk.new W1 66 #[.string x.path, .int .i64 x.kind, .string x.data]).ext hE2).three))
      have hB := ((Blk.new W1 66 #[.string x.path, .int .i64 x.kind, .string x.data]).ext hE2).set 2 (.string fd)
      have hE4 : Ext w (W2.setCell ⟨W1.heap.size, 2, none⟩ (.string fd)) := (Ext.trans (by exact (by repeat (first | exact Ext.refl _ | assumption | refine Ext.alloc ?_ _ | refine Ext.drew ?_ | refine Ext.drewN ?_ _ | refine Ext.setCell ?_ (by first | omega | (simp; done) | (simp; omega)) _ | refine Ext.trans ?_ (by assumption))) : Ext w _) hE2).setCell (p := ⟨W1.heap.size, 2, none⟩) hE1.size _
      clear x0 x1 x2 f0 f1 f2
      generalize W1.heap.size = xb at *
      generalize W2.setCell ⟨xb, 2, none⟩ (.string fd) = W4 at *
      obtain ⟨⟨x0, f0⟩, ⟨x1, f1⟩, ⟨x2, f2⟩⟩ := Blk.three (x := .string x.path) (y := .int .i64 x.kind) (z := .string fd) hB
      go_wp2_with (go_at_call 67; refine (HW' _ (Hv.out.ext hE4)).mono ?_; rintro e W3 ⟨v3, rfl, hrd, hE3⟩)
      go_ret2
      exact ⟨_, rfl, hrd, hE4.trans hE3⟩
end
end Go.Proofs.YtneefmgidplbcaaGreatDoor

/-! TreeRen -/
namespace Go.Proofs.YtneefmgidplbcaaGreatDoor
section
open Go Go.RowKit Go.Shelf Go.Proofs

def moveE (e : Ent) (b : ByteArray) : Ent := { e with path := b }
theorem rename_eq {t : List Ent} {a b : ByteArray} {e : Ent} (h : fileT t a = .ok e) (hp : placeT t b = 0) : renameT t a b = .ok (insT (delT t a) (moveE e b)) ∧ (insT (delT t a) (moveE e b)).length ≤ 1024 := by
  obtain ⟨ht, hx, hpx, _, _⟩ := fileT_ok h
  have h1 := delT_mem_len (tree_rising ht) hx
  rw [hpx] at h1
  have h2 : (insT (delT t a) (moveE e b)).length ≤ 1024 := by
    rw [insT_len]
    have := delT_len (delT t a) (moveE e b).path
    have := tree_small ht
    omega
  refine ⟨?_, h2⟩
  rw [renameT, h]
  show (if placeT t b = 0 then withT (delT t a) (moveE e b) else _) = _
  rw [if_pos hp, withT, if_pos h2]

theorem place_ok {v : Value} {t : List Ent} {p : ByteArray} (hp : p.size ≤ 140737488355328) (h : placeT t p = 0) (w : World) (hv : RdE w v t) : Calls Tryz.prog 145 #[v, .string p] w (PlaceOk w) := by
  have hPA : PlaceAns (placeT t p) w = PlaceOk w := by funext e w'; rw [h]; rfl
  exact hPA ▸ tPlace_any v t p w hv hp
theorem place_bad {v : Value} {t : List Ent} {p : ByteArray} {c : Int} (hp : p.size ≤ 140737488355328) (h : placeT t p = c) (hc : c ≠ 0) (w : World) (hv : RdE w v t) : Calls Tryz.prog 145 #[v, .string p] w (PlaceBad c w) := by
  have hPA : PlaceAns (placeT t p) w = PlaceBad c w := by funext e w'; rw [h]; exact if_neg hc
  exact hPA ▸ tPlace_any v t p w hv hp

set_option maxHeartbeats 8000000 in
set_option maxRecDepth 20000 in
theorem Rename_any (v : Value) (t : List Ent) (p q : ByteArray) (w : World) (hv : RdE w v t) (hp : p.size ≤ 140737488355328) (hq : q.size ≤ 140737488355328) :
    Calls Tryz.prog 110 #[v, .string p, .string q] w (TAns (renameT t p q) w) := by
  have Hv := Lib.hid hv
  obtain ⟨A, c, rfl, _, _, _⟩ := rdE_form hv rfl
  rcases hm : fileT t p with cc | x
  · have hu : renameT t p q = .error cc := by rw [renameT, hm]
    rw [hu]
    show Calls _ _ _ _ (TBad cc w)
    have HM := fun w => tFile_bad (v := .slice A t.length c) hp hm w
    clear hm hu hv
    go_enter Tryz.func110, Tryz.ntmps110
    go_wp2_with (go_at_call 65; refine (HM _ Hv.out).mono ?_; rintro e W1 ⟨y1, v1, rfl, ⟨a1, rfl, hEr⟩, hE1⟩)
    go_ret2
    exact ⟨_, _, rfl, hEr.ext (by exact (by repeat (first | exact Ext.refl _ | assumption | refine Ext.alloc ?_ _ | refine Ext.drew ?_ | refine Ext.drewN ?_ _ | refine Ext.setCell ?_ (by first | omega | (simp; done) | (simp; omega)) _ | refine Ext.trans ?_ (by assumption)))), by exact (by repeat (first | exact Ext.refl _ | assumption | refine Ext.alloc ?_ _ | refine Ext.drew ?_ | refine Ext.drewN ?_ _ | refine Ext.setCell ?_ (by first | omega | (simp; done) | (simp; omega)) _ | refine Ext.trans ?_ (by assumption)))⟩
  · have HM := fun w => tFile_ok (v := .slice A t.length c) hp hm w
    by_cases hpl : placeT t q = 0
    · obtain ⟨hu, hl⟩ := rename_eq hm hpl
      rw [hu]
      show Calls _ _ _ _ (WithOk _ w)
      obtain ⟨ht, hx, hpx, hk, _⟩ := fileT_ok hm
      have HP := fun w => place_ok (v := .slice A t.length c) hq hpl w
      have hxf := RdE.fits hv x hx
      have HO := fun w h => Without_any (.slice A t.length c) t p w h (by have := tree_small ht; omega)
      have HW : ∀ (u : Value) (w : World), RdE w u (delT t p) → Calls Tryz.prog 67 #[u, .agg #[.string q, .int .i64 x.kind, .string x.data]] w (WithOk (insT (delT t p) (moveE x q)) w) := fun u w h => by
        have := With_any u (delT t p) (moveE x q) w h (by have := tree_small ht; have := delT_len t p; omega) (rising_delT (tree_rising ht) p) ⟨hq, hxf.2⟩
        rw [withT, if_pos hl] at this
        exact this
      clear hm hu hv hl ht hx hpx hk hxf hpl
      go_enter Tryz.func110, Tryz.ntmps110
      go_upto_region 8 with (first | (go_at_call 65; refine (HM _ Hv.out).mono ?_; rintro e W1 ⟨rfl, hE1⟩) | (go_at_call 145; refine (HP _ (Hv.out.ext (by exact (by repeat (first | exact Ext.refl _ | assumption | refine Ext.alloc ?_ _ | refine Ext.drew ?_ | refine Ext.drewN ?_ _ | refine Ext.setCell ?_ (by first | omega | (simp; done) | (simp; omega)) _ | refine Ext.trans ?_ (by assumption)))))).mono ?_; rintro e W2 ⟨rfl, hE2⟩; obtain ⟨⟨x0, f0⟩, ⟨x1, f1⟩, ⟨x2, f2⟩⟩ := ((Blk.new W1 66 #[.string x.path, .int .i64 x.kind, .string x.data]).ext hE2).three))
      have hB := ((Blk.new W1 66 #[.string x.path, .int .i64 x.kind, .string x.data]).ext hE2).set 0 (.string q)
      have hE4 : Ext w (W2.setCell ⟨W1.heap.size, 0, none⟩ (.string q)) := (Ext.trans (by exact (by repeat (first | exact Ext.refl _ | assumption | refine Ext.alloc ?_ _ | refine Ext.drew ?_ | refine Ext.drewN ?_ _ | refine Ext.setCell ?_ (by first | omega | (simp; done) | (simp; omega)) _ | refine Ext.trans ?_ (by assumption))) : Ext w _) hE2).setCell (p := ⟨W1.heap.size, 0, none⟩) hE1.size _
      clear x0 x1 x2 f0 f1 f2
      generalize W1.heap.size = xb at *
      generalize W2.setCell ⟨xb, 0, none⟩ (.string q) = W4 at *
      obtain ⟨⟨x0, f0⟩, ⟨x1, f1⟩, ⟨x2, f2⟩⟩ := Blk.three (x := .string q) (y := .int .i64 x.kind) (z := .string x.data) hB
      go_region_held3 (fun w' => w'.cell? ⟨xb, 0, none⟩ = some (.string q) ∧ w'.cell? ⟨xb, 1, none⟩ = some (.int .i64 x.kind) ∧ w'.cell? ⟨xb, 2, none⟩ = some (.string x.data)) (first | go_keep | exact ⟨hE5.cell x0, hE5.cell x1, hE5.cell x2⟩ | exact ⟨(hE5.trans hE6).cell x0, (hE5.trans hE6).cell x1, (hE5.trans hE6).cell x2⟩)
        (first | (go_at_call 142; refine (HO _ (Hv.out.ext (by exact (by repeat (first | exact Ext.refl _ | assumption | refine Ext.alloc ?_ _ | refine Ext.drew ?_ | refine Ext.drewN ?_ _ | refine Ext.setCell ?_ (by first | omega | (simp; done) | (simp; omega)) _ | refine Ext.trans ?_ (by assumption)))))).mono ?_; rintro e W5 ⟨v5, rfl, hrd, hE5'⟩; have hE5 : Ext W4 W5 := Ext.trans (by exact (by repeat (first | exact Ext.refl _ | assumption | refine Ext.alloc ?_ _ | refine Ext.drew ?_ | refine Ext.drewN ?_ _ | refine Ext.setCell ?_ (by first | omega | (simp; done) | (simp; omega)) _ | refine Ext.trans ?_ (by assumption)))) hE5') | (go_at_call 67; refine (HW _ _ hrd).mono ?_; rintro e W6 ⟨v6, rfl, hrd6, hE6⟩))
      go_wp2
      go_ret2
      exact ⟨_, rfl, hrd6, (hE4.trans hE5).trans hE6⟩
    · have hu : renameT t p q = .error (placeT t q) := by rw [renameT, hm]; exact if_neg hpl
      rw [hu]
      show Calls _ _ _ _ (TBad (placeT t q) w)
      have HP := fun w => place_bad (v := .slice A t.length c) hq rfl hpl w
      generalize placeT t q = cc at HP ⊢
      clear hm hu hv hpl
      go_enter Tryz.func110, Tryz.ntmps110
      go_wp2_with (first | (go_at_call 65; refine (HM _ Hv.out).mono ?_; rintro e W1 ⟨rfl, hE1⟩) | (go_at_call 145; refine (HP _ (Hv.out.ext (by exact (by repeat (first | exact Ext.refl _ | assumption | refine Ext.alloc ?_ _ | refine Ext.drew ?_ | refine Ext.drewN ?_ _ | refine Ext.setCell ?_ (by first | omega | (simp; done) | (simp; omega)) _ | refine Ext.trans ?_ (by assumption)))))).mono ?_; rintro e W2 ⟨v2, n2, rfl, hEr2, hE2⟩; obtain ⟨T2, u2, rfl⟩ := errN_iface hEr2; have HA := fun op path => At_errN op path _ _ _ _ hEr2; clear hEr2) | (go_at_call 38; refine (HA _ _).mono ?_; rintro e W4 ⟨⟨a5, rfl, hEr⟩, hE4⟩))
      go_ret2
      exact ⟨_, _, rfl, hEr, (Ext.trans (by exact (by repeat (first | exact Ext.refl _ | assumption | refine Ext.alloc ?_ _ | refine Ext.drew ?_ | refine Ext.drewN ?_ _ | refine Ext.setCell ?_ (by first | omega | (simp; done) | (simp; omega)) _ | refine Ext.trans ?_ (by assumption))) : Ext w _) hE2).trans hE4⟩
end

section
open Go Go.RowKit Go.Shelf Go.Proofs

theorem written_eq (d s : ByteArray) (k m : Nat) (hm : m = min d.size (k + s.size)) : filledT d k ++ s ++ d.extract m d.size = writtenT d k s := by
  have hl : d.data.toList.length = d.size := Array.length_toList
  refine data_inj ?_
  rw [writtenT, toList_B]
  have h1 : (filledT d k ++ s ++ d.extract m d.size).data.toList = (filledT d k).data.toList ++ s.data.toList ++ (d.extract m d.size).data.toList := by simp
  rw [h1, Lib.extract_data]
  congr 1
  rw [List.take_of_length_le (by rw [List.length_drop]; omega)]
  rcases Nat.le_total d.size (k + s.size) with h | h
  · rw [List.drop_eq_nil_of_le (by omega), List.drop_eq_nil_of_le (by omega)]
  · rw [hm, Nat.min_eq_right h]
theorem written_size (d s : ByteArray) (k : Nat) : (writtenT d k s).size = k + s.size + (d.size - (k + s.size)) := by
  have hl : d.data.toList.length = d.size := Array.length_toList
  have hl2 : s.data.toList.length = s.size := Array.length_toList
  have hl3 : (filledT d k).data.toList.length = (filledT d k).size := Array.length_toList
  rw [writtenT, size_B]
  simp only [List.length_append, List.length_drop]
  rw [hl3, hl2, hl, filledT_size]

set_option maxHeartbeats 8000000 in
set_option maxRecDepth 20000 in
theorem Write_any (v : Value) (t : List Ent) (p : ByteArray) (n : Int) (s : ByteArray) (w : World) (hv : RdE w v t) (hp : p.size ≤ 140737488355328) :
    Calls Tryz.prog 34 #[v, .string p, .int .i64 n, .string s] w (TAns (writeT t p n s) w) := by
  have Hv := Lib.hid hv
  obtain ⟨A, c, rfl, _, _, _⟩ := rdE_form hv rfl
  rcases hm : fileT t p with cc | x
  · have hu : writeT t p n s = .error cc := by rw [writeT, hm]
    rw [hu]
    show Calls _ _ _ _ (TBad cc w)
    have HM := fun w => tFile_bad (v := .slice A t.length c) hp hm w
    clear hm hu hv
    go_enter Tryz.func34, Tryz.ntmps34
    go_wp2_with (go_at_call 65; refine (HM _ Hv.out).mono ?_; rintro e W1 ⟨y1, v1, rfl, ⟨a1, rfl, hEr⟩, hE1⟩)
    go_ret2
    exact ⟨_, _, rfl, hEr.ext (by exact (by repeat (first | exact Ext.refl _ | assumption | refine Ext.alloc ?_ _ | refine Ext.drew ?_ | refine Ext.drewN ?_ _ | refine Ext.setCell ?_ (by first | omega | (simp; done) | (simp; omega)) _ | refine Ext.trans ?_ (by assumption)))), by exact (by repeat (first | exact Ext.refl _ | assumption | refine Ext.alloc ?_ _ | refine Ext.drew ?_ | refine Ext.drewN ?_ _ | refine Ext.setCell ?_ (by first | omega | (simp; done) | (simp; omega)) _ | refine Ext.trans ?_ (by assumption)))⟩
  · have HM := fun w => tFile_ok (v := .slice A t.length c) hp hm w
    by_cases hn : n < 0 ∨ 256 < n ∨ 256 - n < (s.size : Int)
    · have hu : writeT t p n s = .error 15 := by rw [writeT, hm]; exact if_pos hn
      rw [hu]
      show Calls _ _ _ _ (TBad 15 w)
      clear hm hu hv
      by_cases h1 : n < 0
      · go_enter Tryz.func34, Tryz.ntmps34
        go_wp2_with (first | (go_at_call 65; refine (HM _ Hv.out).mono ?_; rintro e W1 ⟨rfl, hE1⟩) | (go_at_call 38; refine (fail_At_c _ _ _ _).mono ?_; rintro e W4 ⟨⟨a5, rfl, hEr⟩, hE4⟩))
        go_ret2
        exact ⟨_, 1, rfl, hEr, Ext.trans (by exact (by repeat (first | exact Ext.refl _ | assumption | refine Ext.alloc ?_ _ | refine Ext.drew ?_ | refine Ext.drewN ?_ _ | refine Ext.setCell ?_ (by first | omega | (simp; done) | (simp; omega)) _ | refine Ext.trans ?_ (by assumption)))) hE4⟩
      · by_cases h2 : 256 < n
        · go_enter Tryz.func34, Tryz.ntmps34
          go_wp2_with (first | (go_at_call 65; refine (HM _ Hv.out).mono ?_; rintro e W1 ⟨rfl, hE1⟩) | (go_at_call 38; refine (fail_At_c _ _ _ _).mono ?_; rintro e W4 ⟨⟨a5, rfl, hEr⟩, hE4⟩))
          go_ret2
          exact ⟨_, 1, rfl, hEr, Ext.trans (by exact (by repeat (first | exact Ext.refl _ | assumption | refine Ext.alloc ?_ _ | refine Ext.drew ?_ | refine Ext.drewN ?_ _ | refine Ext.setCell ?_ (by first | omega | (simp; done) | (simp; omega)) _ | refine Ext.trans ?_ (by assumption)))) hE4⟩
        · have h3 : 256 - n < (s.size : Int) := by omega
          have hsub : IntKind.i64.wrap (256 - n) = 256 - n := IntWalk.i64_in _ ⟨by omega, by omega⟩
          go_enter Tryz.func34, Tryz.ntmps34
          go_wp2_with (first | (go_at_call 65; refine (HM _ Hv.out).mono ?_; rintro e W1 ⟨rfl, hE1⟩) | (go_at_call 38; refine (fail_At_c _ _ _ _).mono ?_; rintro e W4 ⟨⟨a5, rfl, hEr⟩, hE4⟩))
          go_ret2
          exact ⟨_, 1, rfl, hEr, Ext.trans (by exact (by repeat (first | exact Ext.refl _ | assumption | refine Ext.alloc ?_ _ | refine Ext.drew ?_ | refine Ext.drewN ?_ _ | refine Ext.setCell ?_ (by first | omega | (simp; done) | (simp; omega)) _ | refine Ext.trans ?_ (by assumption)))) hE4⟩
    · obtain ⟨k, rfl⟩ : ∃ k : Nat, n = k := ⟨n.toNat, by omega⟩
      have hu : writeT t p k s = withT t (setD x (writtenT x.data k s)) := by rw [writeT, hm]; exact if_neg hn
      obtain ⟨ht, hx, hpx, hk, _⟩ := fileT_ok hm
      have hent := (treeOk_iff.1 ht).2.2 x hx
      have hd256 := entOk_data hent.1 hk
      have hks : k + s.size ≤ 256 := by omega
      have hws := withT_set ht hx hk (d := writtenT x.data k s) (by rw [written_size]; omega)
      rw [hu, hws.1]
      show Calls _ _ _ _ (WithOk _ w)
      have HF := fun w => Filled_any x.data k w (by omega) hd256
      have hxf := RdE.fits hv x hx
      have HW := fun w h => With_any (.slice A t.length c) t (setD x (writtenT x.data k s)) w h (by have := tree_small ht; omega) (tree_rising ht) ⟨hxf.1, by show (writtenT x.data k s).size ≤ _; rw [written_size]; omega⟩
      rw [hws.1] at HW
      have HW' : ∀ w, RdE w (.slice A t.length c) t → Calls Tryz.prog 67 #[.slice A t.length c, .agg #[.string x.path, .int .i64 x.kind, .string (writtenT x.data k s)]] w (WithOk (insT t (setD x (writtenT x.data k s))) w) := HW
      obtain ⟨m, hmm⟩ : ∃ m, m = min x.data.size (k + s.size) := ⟨_, rfl⟩
      have heq := written_eq x.data s k m hmm
      have hm1 : m ≤ x.data.size := by omega
      have hfs : (filledT x.data k).size = k := filledT_size x.data k
      have hadd : IntKind.i64.wrap ((k : Int) + (s.size : Int)) = (k : Int) + (s.size : Int) := IntWalk.i64_in _ ⟨by omega, by omega⟩
      have hsub : IntKind.i64.wrap (256 - (k : Int)) = 256 - (k : Int) := IntWalk.i64_in _ ⟨by omega, by omega⟩
      have hb1 : (0 : Int) ≤ min (x.data.size : Int) ((k : Int) + (s.size : Int)) := by omega
      have hb2 : min (x.data.size : Int) ((k : Int) + (s.size : Int)) ≤ (x.data.size : Int) := by omega
      have hbm : (min (x.data.size : Int) ((k : Int) + (s.size : Int))).toNat = m := by omega
      have hz1 : (filledT x.data k ++ s).size ≤ 256 := by rw [ByteArray.size_append, hfs]; exact hks
      have hz2 : (x.data.extract m x.data.size).size ≤ 256 := by rw [ByteArray.size_extract]; omega
      have hz0 : (filledT x.data k).size ≤ 256 := by omega
      have hzs : s.size ≤ 256 := by omega
      have hk0 : ¬ (k : Int) < 0 := by omega
      have hk1 : ¬ (256 : Int) < (k : Int) := by omega
      have hk2 : ¬ 256 - (k : Int) < (s.size : Int) := by omega
      have Heq := Lib.hid heq
      clear hm hu hv hn ht hx hpx hk hws hent hxf HW hmm heq hfs
      go_enter Tryz.func34, Tryz.ntmps34
      go_upto_region 8 with (first | (go_at_call 65; refine (HM _ Hv.out).mono ?_; rintro e W1 ⟨rfl, hE1⟩; obtain ⟨⟨y0, _⟩, ⟨y1, _⟩, ⟨y2, _⟩⟩ := (Blk.new W1 66 #[.string x.path, .int .i64 x.kind, .string x.data]).three) | (go_at_call 66; refine (HF _).mono ?_; rintro e W2 ⟨rfl, hE2⟩; obtain ⟨⟨x0, f0⟩, ⟨x1, f1⟩, ⟨x2, f2⟩⟩ := ((Blk.new W1 66 #[.string x.path, .int .i64 x.kind, .string x.data]).ext hE2).three))
      rw [Heq.out]
      generalize writtenT x.data k s = fd at *
      have hB := ((Blk.new W1 66 #[.string x.path, .int .i64 x.kind, .string x.data]).ext hE2).set 2 (.string fd)
      have hE4 : Ext w (W2.setCell ⟨W1.heap.size, 2, none⟩ (.string fd)) := (Ext.trans (by exact (by repeat (first | exact Ext.refl _ | assumption | refine Ext.alloc ?_ _ | refine Ext.drew ?_ | refine Ext.drewN ?_ _ | refine Ext.setCell ?_ (by first | omega | (simp; done) | (simp; omega)) _ | refine Ext.trans ?_ (by assumption))) : Ext w _) hE2).setCell (p := ⟨W1.heap.size, 2, none⟩) hE1.size _
      clear x0 x1 x2 f0 f1 f2 y0 y1 y2
      generalize W1.heap.size = xb at *
      generalize W2.setCell ⟨xb, 2, none⟩ (.string fd) = W4 at *
      obtain ⟨⟨x0, f0⟩, ⟨x1, f1⟩, ⟨x2, f2⟩⟩ := Blk.three (x := .string x.path) (y := .int .i64 x.kind) (z := .string fd) hB
      go_wp2_with (go_at_call 67; refine (HW' _ (Hv.out.ext hE4)).mono ?_; rintro e W3 ⟨v3, rfl, hrd, hE3⟩)
      go_ret2
      exact ⟨_, rfl, hrd, hE4.trans hE3⟩
end
end Go.Proofs.YtneefmgidplbcaaGreatDoor

/-! TMove -/
namespace Go.Proofs.YtneefmgidplbcaaGreatDoor
open Go Go.RowKit Go.Shelf Go.Proofs

theorem entOk_new {p d : ByteArray} {k : Int} {ys : List ByteArray} {z : ByteArray} (h : names p = some (ys ++ [z])) (hk : k = 1 ∨ k = 2) (hd : d.size ≤ 256) (h2 : k = 2 → d = ⟨#[]⟩) : entOk ⟨p, k, d⟩ = true := by
  rcases hk with rfl | rfl
  · simp [entOk, deep, h, hd]
    omega
  · obtain rfl := h2 rfl
    simp [entOk, deep, h]
    omega

theorem place_of {t : List Ent} {p : ByteArray} {ys : List ByteArray} {z : ByteArray} (ht : treeOk t = true) (hn : names p = some (ys ++ [z])) (hd : DirIn t p) (hf : findT t p = none) : placeT t p = 0 := by
  have h0 : ys ++ [z] ≠ [] := by simp
  have hatp : atT t p = .error 3 := by rw [atT_deep hn h0, hf]
  rw [placeT, hn]
  show (if ys ++ [z] = [] then (1 : Int) else _) = 0
  rw [if_neg h0]
  rcases hd with hr | ⟨y, hy, h1, h2⟩
  · rw [hr, atT_root, hatp]
    exact if_neg (by decide)
  · rw [← h1, atT_of ht hy, hatp]
    show (if y.kind = 1 then (6 : Int) else 0) = 0
    rw [if_neg (by omega)]

theorem made_all {t x : List Ent} {p : ByteArray} {k : Int} (h : madeT t p k = .ok x) (hk : k = 1 ∨ k = 2) : treeOk t = true ∧ placeT t p = 0 ∧ x = insT t ⟨p, k, ⟨#[]⟩⟩ ∧ treeOk x = true ∧ findT t p = none := by
  rw [madeT] at h
  split at h
  · rename_i ht
    split at h
    · rename_i hp
      obtain ⟨⟨ys, z, hn⟩, hd, hf, _⟩ := place_zero hp ht
      rw [withT] at h
      split at h
      · rename_i hl
        cases h
        refine ⟨ht, hp, rfl, tree_ins ht hd hf (entOk_new hn hk (by decide) (fun _ => rfl)) (by show k ≤ 2; omega) ?_, hf⟩
        rw [insT_len, delT_none (findT_none hf)] at hl
        exact hl
      · cases h
    · cases h
  · cases h
theorem madeT_code {t : List Ent} {p : ByteArray} {k c : Int} (h : madeT t p k = .error c) : c ≠ 0 := by
  rw [madeT] at h
  split at h
  · split at h
    · rw [withT] at h
      split at h
      · cases h
      · cases h; decide
    · rename_i hp
      cases h
      exact hp
  · cases h; decide
theorem fileT_code {t : List Ent} {p : ByteArray} {c : Int} (h : fileT t p = .error c) : c ≠ 0 := by
  rw [fileT] at h
  split at h
  · split at h
    · cases h; decide
    · split at h
      · rename_i ha
        cases h
        exact atT_code ha
      · split at h
        · cases h; decide
        · cases h
  · cases h; decide
theorem renameT_code {t : List Ent} {p q : ByteArray} {c : Int} (h : renameT t p q = .error c) : c ≠ 0 := by
  rcases hf : fileT t p with cc | e
  · rw [renameT, hf] at h
    cases h
    exact fileT_code hf
  · by_cases hp : placeT t q = 0
    · rw [(rename_eq hf hp).1] at h
      cases h
    · rw [renameT, hf] at h
      have h : (if placeT t q = 0 then withT (delT t p) { e with path := q } else Except.error (placeT t q)) = .error c := h
      rw [if_neg hp] at h
      cases h
      exact hp

theorem delT_insT {t : List Ent} (hr : Rising t) (e : Ent) : delT (insT t e) e.path = delT t e.path := rising_ext (rising_delT (rising_insT hr e) _) (rising_delT hr _) fun x => by
  rw [mem_delT, mem_delT, mem_insT]
  constructor
  · rintro ⟨rfl | h, h2⟩
    · exact absurd rfl h2
    · exact h
  · rintro h
    exact ⟨.inr h, h.2⟩

/-- A file that is given another path. -/
theorem moved {t z : List Ent} {p q : ByteArray} (h : renameT t p q = .ok z) : ∃ e, fileT t p = .ok e ∧ treeOk t = true ∧ z = insT (delT t p) (moveE e q) ∧ treeOk z = true ∧ fileT z q = .ok (moveE e q) ∧ findT z p = none ∧ p ≠ q ∧ placeT z p = 0 ∧ insT (delT z q) e = t ∧ readT z q = .ok e.data ∧ readT z p = .error 3 := by
  rcases hf : fileT t p with cc | e
  · rw [renameT, hf] at h
    cases h
  · by_cases hp : placeT t q = 0
    · rw [(rename_eq hf hp).1] at h
      cases h
      obtain ⟨ht, hx, rfl, hk, hpr⟩ := fileT_ok hf
      obtain ⟨⟨ys, zz, hn⟩, hd, hfq, _⟩ := place_zero hp ht
      have hr := tree_rising ht
      have hent := (treeOk_iff.1 ht).2.2 e hx
      have hne : e.path ≠ q := fun he => findT_none hfq e hx he
      have hleaf := file_leaf ht hx (by omega)
      have hdel : treeOk (delT t e.path) = true := tree_del ht fun y hy => .inl (hleaf y hy)
      have hdir : ∀ r, DirIn t r → DirIn (delT t e.path) r := fun r hr' => hr'.elim .inl fun ⟨d, hd1, hd2, hd3⟩ => .inr ⟨d, mem_delT.2 ⟨hd1, fun he => by
        have := rising_one hr hd1 hx he
        subst this
        omega⟩, hd2, hd3⟩
      have hfd : findT (delT t e.path) q = none := by
        rw [findT_del hr]
        split
        · rfl
        · exact hfq
      have hz : treeOk (insT (delT t e.path) (moveE e q)) = true := by
        refine tree_ins hdel (hdir q hd) hfd ?_ (by show e.kind ≤ 2; omega) ?_
        · exact entOk_new hn (.inl hk) (entOk_data hent.1 hk) (fun h => by omega)
        · have := delT_mem_len hr hx
          have := tree_small ht
          omega
      have hzf : fileT (insT (delT t e.path) (moveE e q)) q = .ok (moveE e q) := fileT_of (e := moveE e q) hz (mem_insT.2 (.inl rfl)) hk
      have hzp : findT (insT (delT t e.path) (moveE e q)) e.path = none := by
        rw [findT_ins (rising_delT hr _), if_neg (show ¬ e.path = (moveE e q).path from hne), findT_del hr, if_pos rfl]
      obtain ⟨ys', z', hn', _⟩ := ent_names hent.1
      have hzd : DirIn (insT (delT t e.path) (moveE e q)) e.path := by
        rcases hdir _ hent.2.2 with h | ⟨d, hd1, hd2, hd3⟩
        · exact .inl h
        · refine .inr ⟨d, mem_insT.2 (.inr ⟨hd1, fun he => ?_⟩), hd2, hd3⟩
          exact findT_none hfq d (mem_delT.1 hd1).1 he
      have hback : insT (delT (insT (delT t e.path) (moveE e q)) q) e = t := by
        have h1 : delT (insT (delT t e.path) (moveE e q)) q = delT (delT t e.path) q := delT_insT (rising_delT hr _) (moveE e q)
        rw [h1, delT_none (t := delT t e.path) (fun y hy => findT_none hfd y hy), insT_delT, insT_same hr hx]
      refine ⟨e, rfl, ht, rfl, hz, hzf, hzp, hne, place_of hz hn' hzd hzp, hback, readT_of (e := moveE e q) hz (mem_insT.2 (.inl rfl)) hk, ?_⟩
      have h0 : ys' ++ [z'] ≠ [] := by simp
      rw [readT, kindT, if_pos hz, atT_deep hn' h0, hzp]
    · rw [renameT, hf] at h
      have h : (if placeT t q = 0 then withT (delT t p) { e with path := q } else Except.error (placeT t q)) = .ok z := h
      rw [if_neg hp] at h
      cases h

/-- Back again. -/
theorem moved_back {t z : List Ent} {p q : ByteArray} (h : renameT t p q = .ok z) : renameT z q p = .ok t := by
  obtain ⟨e, hf, ht, hz, hzo, hfz, hzp, hne, hpl, hback, _, _⟩ := moved h
  rw [(rename_eq hfz hpl).1]
  obtain ⟨_, _, hpe, _, _⟩ := fileT_ok hf
  have : moveE (moveE e q) p = e := by rw [← hpe]; rfl
  rw [this, hback]

theorem Rename_ok {v : Value} {t l : List Ent} {p q : ByteArray} (hp : p.size ≤ 140737488355328) (hq : q.size ≤ 140737488355328) (h : renameT t p q = .ok l) (w : World) (hv : RdE w v t) : Calls Tryz.prog 110 #[v, .string p, .string q] w (WithOk l w) := by
  have := Rename_any v t p q w hv hp hq
  rwa [h] at this
theorem Rename_bad {v : Value} {t : List Ent} {p q : ByteArray} {c : Int} (hp : p.size ≤ 140737488355328) (hq : q.size ≤ 140737488355328) (h : renameT t p q = .error c) (w : World) (hv : RdE w v t) : Calls Tryz.prog 110 #[v, .string p, .string q] w (TBad c w) := by
  have := Rename_any v t p q w hv hp hq
  rwa [h] at this
end Go.Proofs.YtneefmgidplbcaaGreatDoor

/-! TreeIn -/
namespace Go.Proofs.YtneefmgidplbcaaGreatDoor
open Go Go.RowKit Go.Shelf Go.Proofs Go.Sort

theorem toList_inj_eqT (a b : ByteArray) : (a.toList = b.toList) = (a = b) := propext ⟨fun h => data_inj (by rw [← toList_eq, ← toList_eq, h]), fun h => by rw [h]⟩

theorem info_strT : (Tryz.prog.info? 9).map (fun i => (i.zero, i.size, i.bytes)) = some (some (.string ⟨#[]⟩), 1, 16) := by kernel_rfl

def listOf (l : List ByteArray) : List (List UInt8) := l.map fun z => z.data.toList
theorem listOf_snoc (l : List ByteArray) (z : ByteArray) : (listOf (l ++ [z])).map encStr = (listOf l).map encStr ++ [.string z] := by
  rw [listOf, List.map_append, List.map_append]
  rfl

def InRel (t : List Ent) (p : ByteArray) (n : Nat) (w : World) (v5 v13 : Value) (wr : World) : Prop :=
  ∃ (k m : Nat), v13 = .int .i64 k ∧ k ≤ n ∧ Hid (m = (inT (t.take k) p).length) ∧ m ≤ k ∧ wr.ownsRow w.heap.size 9 1 v5 m ((listOf (inT (t.take k) p)).map encStr) ∧ Ext w wr

theorem in_next {t : List Ent} {p : ByteArray} {n k m' : Nat} {w wr : World} {v5 : Value} {x : Ent} {l : List ByteArray} (hlt : k < n) (hh : k < t.length) (_hx : Hid (t[k] = x)) (hm' : m' ≤ k + 1) (hl : Hid (l = inT (t.take (k + 1)) p)) (hlen : Hid (m' = l.length))
    (hrow : wr.ownsRow w.heap.size 9 1 v5 m' ((listOf l).map encStr)) (hE : Ext w wr) :
    InRel t p n w v5 (.int .i64 ((k : Int) + 1)) wr ∧ n - (intOf (.int .i64 ((k : Int) + 1))).toNat < n - (intOf (.int .i64 (k : Int))).toNat := by
  refine ⟨⟨k + 1, m', by simp, by omega, Lib.hid ?_, hm', ?_, hE⟩, by simp [intOf]; omega⟩
  · rw [hlen.out, hl.out]
  · rw [← hl.out]; exact hrow

theorem inT_next {t : List Ent} {p : ByteArray} {k : Nat} (hh : k < t.length) : inT (t.take (k + 1)) p = inT (t.take k) p ++ (match inP p t[k] with | none => [] | some z => [z]) := by
  rw [inT, ← List.take_append_getElem hh, List.filterMap_append, ← inT]
  congr 1
  rw [List.filterMap_cons]
  cases inP p t[k] <;> rfl

def InAns (t : List Ent) (p : ByteArray) (w : World) (e : Ending) (w' : World) : Prop :=
  ∃ v, e = .returned v ∧ w'.ownsRow w.heap.size 9 1 v (inT t p).length (((listOf (inT t p)).mergeSort fun x y => decide (x ≤ y)).map encStr) ∧ Ext w w'

set_option maxHeartbeats 8000000 in
set_option maxRecDepth 20000 in
theorem In_any (v : Value) (t : List Ent) (p : ByteArray) (w : World) (hv : RdE w v t) (ht : treeOk t = true) :
    Calls Tryz.prog 144 #[v, .string p] w (InAns t p w) := by
  obtain ⟨n, hn⟩ : ∃ n, n = t.length := ⟨_, rfl⟩
  have Hn := Lib.hid hn
  have hlen : n ≤ 1024 := by have := tree_small ht; omega
  have Hfit := Lib.hid (RdE.fits hv)
  obtain ⟨A, c, rfl, hc1, hc2, Hcell⟩ := rdE_form hv hn
  have Ht := Lib.hid ht
  obtain ⟨i0, hi, hz0, hz1, hz2⟩ := info_parts info_strT
  clear hn hv ht
  go_enter Tryz.func144, Tryz.ntmps144
  go_wp2
  go_loopw [5, 13] (fun v5 v13 wr => InRel t p n w v5 v13 wr) (fun _ i _ => n - (intOf i).toNat)
  case atStart => exact ⟨0, 0, rfl, Nat.zero_le _, Lib.hid rfl, Nat.le_refl _, World.ownsRow_nil _ _ _ _, Ext.refl _⟩
  case round =>
    obtain ⟨k, m, rfl, hkn, hmm, hmk, hrow, hE⟩ := hrel
    have Hrow := Lib.hid hrow
    obtain ⟨A5, c5, rfl⟩ := own_form hrow
    clear hrow
    by_cases hlt : k < n
    · have hh : k < t.length := by have := Hn.out; omega
      obtain ⟨b, o, rfl, hcell⟩ := Hcell.out (List.ne_nil_of_length_pos (by omega))
      obtain ⟨q0, q1, q2, hf⟩ := hcell k hh
      obtain ⟨x, hx⟩ : ∃ x, t[k]'hh = x := ⟨_, rfl⟩
      rw [hx] at q0 q1 q2 hf
      have g0 := hE.cell q0
      have g1 := hE.cell q1
      have g2 := hE.cell q2
      have hmem : x ∈ t := by rw [← hx]; exact List.getElem_mem hh
      obtain ⟨ys, z, hnm, hpth⟩ := ent_names ((treeOk_iff.1 Ht.out).2.2 x hmem).1
      obtain ⟨d, hd0⟩ : ∃ d, pathOf ys = d := ⟨_, rfl⟩
      have HP : ∀ w, Calls Tryz.prog 57 #[.string x.path] w (ParentOk d z w) := fun w => by rw [← hd0]; exact Parent_some x.path ys z w hf.1 hnm
      have Hx := Lib.hid hx
      have hin : inP p x = if d = p then some z else none := by
        rw [inP, hnm, ← hd0]
        simp
      have Hin := Lib.hid hin
      have hcmp : (d.toList == p.toList) = decide (d = p) := by
        rw [Bool.eq_iff_iff, beq_iff_eq, decide_eq_true_eq, toList_inj_eqT]
      clear q0 q1 q2 hx hcell hmem hnm hin hd0 hpth
      by_cases hd : d = p
      · rw [decide_eq_true hd] at hcmp
        have Hd := Lib.hid hd
        clear hd
        go_wp2_with (first | (go_at_call 57; refine (HP _).mono ?_; rintro e W2 ⟨rfl, hE2⟩; have hE3 : Ext w W2 := Ext.trans (by exact (by repeat (first | exact Ext.refl _ | assumption | refine Ext.alloc ?_ _ | refine Ext.drew ?_ | refine Ext.drewN ?_ _ | refine Ext.setCell ?_ (by first | omega | (simp; done) | (simp; omega)) _ | refine Ext.trans ?_ (by assumption)))) hE2; have Hrow2 := Lib.hid (own_ext Hrow.out (Ext.trans (by exact (by repeat (first | exact Ext.refl _ | assumption | refine Ext.alloc ?_ _ | refine Ext.drew ?_ | refine Ext.drewN ?_ _ | refine Ext.setCell ?_ (by first | omega | (simp; done) | (simp; omega)) _ | refine Ext.trans ?_ (by assumption)))) hE2))) | (at_builtin; refine wpList_append_own _ rfl _ _ 29 rfl w.heap.size 9 i0 (.string ⟨#[]⟩) 1 16 Tryz.underlying29 hi hz0 hz1 hz2 rfl (by decide) _ _ _ rfl (Hrow2.out.alloc _) ⟨W2.heap.size, 0, none⟩ 1 1 [.string z] rfl rfl (World.news_of_block (cs := #[.string z]) (t := 9) (fr := (0, 0)) (Blk.new W2 _ _)) (by simp [Value.oneCell']) (by unfold maxLen; omega) (by omega) (by have := hE3.size; rw [World.size_alloc]; omega) ?_; intro v' w1 hown hgrow hnil'))
        refine in_next (l := inT (t.take k) p ++ [z]) hlt hh Hx (m' := m + 1) (by omega) (Lib.hid ?_) (Lib.hid ?_) ?_ (Ext.grown (hE3.alloc _) hgrow (fun j hj => (Hrow2.out.lt j hj).1))
        · rw [inT_next hh, Hx.out, Hin.out, if_pos Hd.out]
        · rw [List.length_append, List.length_singleton, ← hmm.out]
        · rw [listOf_snoc]; exact hown
      · rw [decide_eq_false hd] at hcmp
        have Hd := Lib.hid hd
        clear hd
        go_wp2_with (go_at_call 57; refine (HP _).mono ?_; rintro e W2 ⟨rfl, hE2⟩; have hE3 : Ext w W2 := Ext.trans (by exact (by repeat (first | exact Ext.refl _ | assumption | refine Ext.alloc ?_ _ | refine Ext.drew ?_ | refine Ext.drewN ?_ _ | refine Ext.setCell ?_ (by first | omega | (simp; done) | (simp; omega)) _ | refine Ext.trans ?_ (by assumption)))) hE2; have Hrow2 := Lib.hid (own_ext Hrow.out (Ext.trans (by exact (by repeat (first | exact Ext.refl _ | assumption | refine Ext.alloc ?_ _ | refine Ext.drew ?_ | refine Ext.drewN ?_ _ | refine Ext.setCell ?_ (by first | omega | (simp; done) | (simp; omega)) _ | refine Ext.trans ?_ (by assumption)))) hE2)))
        refine in_next (l := inT (t.take k) p) hlt hh Hx (m' := m) (by omega) (Lib.hid ?_) (Lib.hid hmm.out) Hrow2.out hE3
        rw [inT_next hh, Hx.out, Hin.out, if_neg Hd.out, List.append_nil]
    · have hkn' : k = n := by omega
      have hfull : inT (t.take k) p = inT t p := by rw [List.take_of_length_le (by have := Hn.out; omega)]
      have Hfull := Lib.hid hfull
      have hlm : (listOf (inT t p)).length = m := by rw [listOf, List.length_map, ← hfull, hmm.out]
      have Hlm := Lib.hid hlm
      have HS := sortS_any w.heap.size (.slice A5 m c5) (listOf (inT t p)) wr (by have := Hrow.out; rw [hfull] at this; rw [hlm]; exact this) (by rw [hlm]; omega)
      clear hfull hlm
      go_wp2_with (go_at_call 170; refine HS.mono ?_; rintro e W2 ⟨rfl, hrow2, hgr⟩; have hE2 : Ext w W2 := Ext.grown hE (hgr _ rfl) (fun j hj => (Hrow.out.lt j hj).1); have Hrow2 := Lib.hid hrow2; clear hrow2 hgr)
      go_ret
      refine ⟨_, rfl, ?_, hE2⟩
      have h1 := Hrow2.out
      rw [listOf, List.length_map, ← listOf] at h1
      exact h1
end Go.Proofs.YtneefmgidplbcaaGreatDoor

/-! FIs -/
namespace Go.Proofs.YtneefmgidplbcaaGreatDoor
open Go.RowKit Go.Extern.Stop Go.Stop Go.Extern Go

theorem asnF_Is (v : Value) (xT : TypeId) (w : World) : (Instr.typeAssert (.iface 135 v) xT 280 true).run Tryz.prog w = .ok (.tuple #[.nilIface, .bool false]) w := run_typeAssert_lacksB Tryz.underlying280 (by kernel_rfl) (by kernel_rfl) v xT w
theorem asnE_Is (v : Value) (xT : TypeId) (w : World) : (Instr.typeAssert (.iface 88 v) xT 280 true).run Tryz.prog w = .ok (.tuple #[.nilIface, .bool false]) w := run_typeAssert_lacksB Tryz.underlying280 (by kernel_rfl) (by kernel_rfl) v xT w
theorem asnE_Unwrap (v : Value) (xT : TypeId) (w : World) : (Instr.typeAssert (.iface 88 v) xT 186 true).run Tryz.prog w = .ok (.tuple #[.nilIface, .bool false]) w := run_typeAssert_lacksB Tryz.underlying186 (by kernel_rfl) (by kernel_rfl) v xT w
theorem asnE_Unwraps (v : Value) (xT : TypeId) (w : World) : (Instr.typeAssert (.iface 88 v) xT 188 true).run Tryz.prog w = .ok (.tuple #[.nilIface, .bool false]) w := run_typeAssert_lacksB Tryz.underlying188 (by kernel_rfl) (by kernel_rfl) v xT w
theorem eqlE (c c' : Int) (w : World) : (binOp .eql 33 (.iface 88 (.int .i64 c)) (.iface 88 (.int .i64 c'))).run Tryz.prog w = .ok (.bool (c == c')) w := by kernel_rfl
theorem eqlF (a : Addr) (c' : Int) (w : World) : (binOp .eql 33 (.iface 135 (.pointer (some a))) (.iface 88 (.int .i64 c'))).run Tryz.prog w = .ok (.bool false) w := by kernel_rfl
theorem rl_methodComparable (h : Value) (w : World) : (Go.method 420 178 (.agg #[h]) "Comparable").run Tryz.prog w = .ok (280, .agg #[h]) w := by kernel_rfl

theorem rl_comparableE (w : World) : ((ReflectliteType.method fun t => do Rtype.noPackHeld "Comparable" t; (fun i : TypeInfo => Value.bool i.comparable) <$> typeInfo t) #[.agg #[.pointer (some ⟨4, 88, none⟩)]]).run Tryz.prog w = .ok (.bool true) w := by kernel_rfl

set_option maxHeartbeats 4000000 in
theorem is_loop (n : Nat) (v : Value) (c c' : Int) (w : World) (he : ErrN w n v c) :
    Calls Tryz.prog 217 #[v, .iface 88 (.int .i64 c'), .bool true] w fun ev w' => ev = .returned (.bool (c == c')) ∧ w' = w := by
  have f1 := asnF_Is
  have f2 := asnE_Is
  have f3 := asnE_Unwrap
  have f4 := asnE_Unwraps
  have f5 := eqlE
  have f6 := eqlF
  have f8 := asn_Unwrap
  have f9 := nilAhead_Unwrap
  have f10 := method_Unwrap
  go_enter Tryz.func217, Tryz.ntmps217
  go_wp2
  go_loopg [0] n (fun g v' wr => w = wr ∧ ErrN w g v' c)
  case atStart => exact ⟨rfl, he⟩
  case round =>
    obtain ⟨rfl, hE⟩ := hrel
    cases gk with
    | zero =>
      obtain rfl := hE
      rcases hb : (c == c') with _ | _
      · go_wp2
        go_ret
        exact ⟨by rw [hb]; rfl, rfl⟩
      · go_wp2
        go_ret
        exact ⟨by rw [hb]; rfl, rfl⟩
    | succ g =>
      obtain ⟨a, x, rfl, hx, hE'⟩ := hE
      have HE := Lib.hid hE'
      rcases ErrN_ne hE' with ⟨a', rfl⟩ | rfl
      · clear hE'
        go_wp2_with (go_at_call 274; refine (Unwrap_any _ _ _ hx).mono ?_; rintro e w' ⟨rfl, rfl⟩)
        go_roundg g
        case rel => exact ⟨rfl, HE.out⟩
        case measure => omega
      · clear hE'
        go_wp2_with (go_at_call 274; refine (Unwrap_any _ _ _ hx).mono ?_; rintro e w' ⟨rfl, rfl⟩)
        go_roundg g
        case rel => exact ⟨rfl, HE.out⟩
        case measure => omega

set_option maxHeartbeats 4000000 in
set_option maxRecDepth 20000 in
theorem Is_any (n : Nat) (v : Value) (c c' : Int) (w : World) (he : ErrN w n v c) :
    Calls Tryz.prog 143 #[v, .int .i64 c'] w fun ev w' => ev = .returned (.bool (c == c')) ∧ w' = w := by
  have HI := is_loop n v c c' w he
  have f1 := rl_typeOfE
  have f2 := rl_methodComparable
  have f3 := rl_comparableE
  have hT := @run_callFunc_extern Tryz.prog 120 _ ReflectliteType.typeOf Tryz.func120 (by kernel_rfl) (by kernel_rfl) (by kernel_rfl) (by kernel_rfl)
  have hC := @run_callFunc_extern Tryz.prog 280 _ (ReflectliteType.method fun t => do Rtype.noPackHeld "Comparable" t; pure (.bool (← typeInfo t).comparable)) Tryz.func280 (by kernel_rfl) (by kernel_rfl) (by kernel_rfl) (by kernel_rfl)
  have HS : Calls Tryz.prog 186 #[v, .iface 88 (.int .i64 c')] w fun ev w' => ev = .returned (.bool (c == c')) ∧ w' = w := by
    rcases ErrN_ne he with ⟨a', rfl⟩ | rfl
    all_goals
      clear he
      go_enter Tryz.func186, Tryz.ntmps186
      go_wp2_with (go_at_call 217; refine HI.mono ?_; rintro e w' ⟨rfl, rfl⟩)
      go_ret
      exact ⟨rfl, rfl⟩
  clear HI f1 f2 f3 hT hC he
  go_enter Tryz.func143, Tryz.ntmps143
  go_wp2_with (go_at_call 186; refine HS.mono ?_; rintro e w' ⟨rfl, rfl⟩)
  go_ret
  exact ⟨rfl, rfl⟩
end Go.Proofs.YtneefmgidplbcaaGreatDoor

/-! TreeRm -/
namespace Go.Proofs.YtneefmgidplbcaaGreatDoor
open Go Go.RowKit Go.Shelf Go.Proofs

theorem fileT_five {t : List Ent} {p : ByteArray} (h : fileT t p = .error 5) : treeOk t = true := by
  rw [fileT] at h
  split at h
  · assumption
  · cases h

set_option maxHeartbeats 8000000 in
set_option maxRecDepth 20000 in
theorem Rmdir_any (v : Value) (t : List Ent) (p : ByteArray) (w : World) (hv : RdE w v t) (hp : p.size ≤ 140737488355328) :
    Calls Tryz.prog 108 #[v, .string p] w (TAns (rmdirT t p) w) := by
  have Hv := Lib.hid hv
  obtain ⟨A, c, rfl, _, _, _⟩ := rdE_form hv rfl
  clear hv
  rcases hm : fileT t p with cc | x
  · have HM := fun w => tFile_bad (v := .slice A t.length c) hp hm w
    by_cases h5 : cc = 5
    · subst h5
      have ht := fileT_five hm
      have HI := fun w h => In_any (.slice A t.length c) t p w h ht
      by_cases hi : inT t p = []
      · have hu : rmdirT t p = .ok (delT t p) := by
          rw [rmdirT, hm]
          show (if (5 : Int) = 5 then _ else _) = _
          rw [if_pos rfl, if_pos hi]
        rw [hu]
        show Calls _ _ _ _ (WithOk (delT t p) w)
        have HW := fun w h => Without_any (.slice A t.length c) t p w h (by have := tree_small ht; omega)
        have hlen : (inT t p).length = 0 := by rw [hi]; rfl
        have Hlen := Lib.hid hlen
        clear hm hu ht hi hlen
        go_enter Tryz.func108, Tryz.ntmps108
        go_wp2_with (first | (go_at_call 65; refine (HM _ Hv.out).mono ?_; rintro e W1 ⟨y1, v1, rfl, ⟨a1, rfl, hEr⟩, hE1⟩) | (go_at_call 143; refine (Is_any 1 _ 5 5 _ (hEr.ext (by exact (by repeat (first | exact Ext.refl _ | assumption | refine Ext.alloc ?_ _ | refine Ext.drew ?_ | refine Ext.drewN ?_ _ | refine Ext.setCell ?_ (by first | omega | (simp; done) | (simp; omega)) _ | refine Ext.trans ?_ (by assumption)))))).mono ?_; rintro e W2 ⟨rfl, rfl⟩) | (go_at_call 144; refine (HI _ (Hv.out.ext (by exact (by repeat (first | exact Ext.refl _ | assumption | refine Ext.alloc ?_ _ | refine Ext.drew ?_ | refine Ext.drewN ?_ _ | refine Ext.setCell ?_ (by first | omega | (simp; done) | (simp; omega)) _ | refine Ext.trans ?_ (by assumption)))))).mono ?_; rintro e W3 ⟨v3, rfl, hrow, hE3⟩; rw [Hlen.out] at hrow; obtain ⟨A3, c3, rfl⟩ := own_form hrow) | (go_at_call 142; refine (HW _ (Hv.out.ext (by exact (by repeat (first | exact Ext.refl _ | assumption | refine Ext.alloc ?_ _ | refine Ext.drew ?_ | refine Ext.drewN ?_ _ | refine Ext.setCell ?_ (by first | omega | (simp; done) | (simp; omega)) _ | refine Ext.trans ?_ (by assumption)))))).mono ?_; rintro e W4 ⟨v4, rfl, hrd, hE4⟩))
        go_ret2
        exact ⟨_, rfl, hrd, by exact (by repeat (first | exact Ext.refl _ | assumption | refine Ext.alloc ?_ _ | refine Ext.drew ?_ | refine Ext.drewN ?_ _ | refine Ext.setCell ?_ (by first | omega | (simp; done) | (simp; omega)) _ | refine Ext.trans ?_ (by assumption)))⟩
      · have hu : rmdirT t p = .error 7 := by
          rw [rmdirT, hm]
          show (if (5 : Int) = 5 then _ else _) = _
          rw [if_pos rfl, if_neg hi]
        rw [hu]
        show Calls _ _ _ _ (TBad 7 w)
        obtain ⟨m, hlen⟩ : ∃ m, (inT t p).length = m := ⟨_, rfl⟩
        have Hlen := Lib.hid hlen
        have hm0 : 0 < m := by rw [← hlen]; exact List.length_pos_iff.2 hi
        clear hm hu ht hi hlen
        go_enter Tryz.func108, Tryz.ntmps108
        go_wp2_with (first | (go_at_call 65; refine (HM _ Hv.out).mono ?_; rintro e W1 ⟨y1, v1, rfl, ⟨a1, rfl, hEr⟩, hE1⟩) | (go_at_call 143; refine (Is_any 1 _ 5 5 _ (hEr.ext (by exact (by repeat (first | exact Ext.refl _ | assumption | refine Ext.alloc ?_ _ | refine Ext.drew ?_ | refine Ext.drewN ?_ _ | refine Ext.setCell ?_ (by first | omega | (simp; done) | (simp; omega)) _ | refine Ext.trans ?_ (by assumption)))))).mono ?_; rintro e W2 ⟨rfl, rfl⟩) | (go_at_call 144; refine (HI _ (Hv.out.ext (by exact (by repeat (first | exact Ext.refl _ | assumption | refine Ext.alloc ?_ _ | refine Ext.drew ?_ | refine Ext.drewN ?_ _ | refine Ext.setCell ?_ (by first | omega | (simp; done) | (simp; omega)) _ | refine Ext.trans ?_ (by assumption)))))).mono ?_; rintro e W3 ⟨v3, rfl, hrow, hE3⟩; rw [Hlen.out] at hrow; obtain ⟨A3, c3, rfl⟩ := own_form hrow; clear hrow) | (go_at_call 38; refine (fail_At_c _ _ _ _).mono ?_; rintro e W4 ⟨⟨a5, rfl, hEr4⟩, hE4⟩))
        go_ret2
        exact ⟨_, 1, rfl, hEr4, by exact (by repeat (first | exact Ext.refl _ | assumption | refine Ext.alloc ?_ _ | refine Ext.drew ?_ | refine Ext.drewN ?_ _ | refine Ext.setCell ?_ (by first | omega | (simp; done) | (simp; omega)) _ | refine Ext.trans ?_ (by assumption)))⟩
    · have hu : rmdirT t p = .error cc := by
        rw [rmdirT, hm]
        show (if cc = 5 then _ else _) = _
        rw [if_neg h5]
      rw [hu]
      show Calls _ _ _ _ (TBad cc w)
      have h5' : (cc == 5) = false := by simpa using h5
      clear hm hu h5
      go_enter Tryz.func108, Tryz.ntmps108
      go_wp2_with (first | (go_at_call 65; refine (HM _ Hv.out).mono ?_; rintro e W1 ⟨y1, v1, rfl, ⟨a1, rfl, hEr⟩, hE1⟩) | (go_at_call 143; refine (Is_any 1 _ cc 5 _ (hEr.ext (by exact (by repeat (first | exact Ext.refl _ | assumption | refine Ext.alloc ?_ _ | refine Ext.drew ?_ | refine Ext.drewN ?_ _ | refine Ext.setCell ?_ (by first | omega | (simp; done) | (simp; omega)) _ | refine Ext.trans ?_ (by assumption)))))).mono ?_; rintro e W2 ⟨rfl, rfl⟩))
      go_ret2
      exact ⟨_, _, rfl, hEr.ext (by exact (by repeat (first | exact Ext.refl _ | assumption | refine Ext.alloc ?_ _ | refine Ext.drew ?_ | refine Ext.drewN ?_ _ | refine Ext.setCell ?_ (by first | omega | (simp; done) | (simp; omega)) _ | refine Ext.trans ?_ (by assumption)))), by exact (by repeat (first | exact Ext.refl _ | assumption | refine Ext.alloc ?_ _ | refine Ext.drew ?_ | refine Ext.drewN ?_ _ | refine Ext.setCell ?_ (by first | omega | (simp; done) | (simp; omega)) _ | refine Ext.trans ?_ (by assumption)))⟩
  · have hu : rmdirT t p = .error 6 := by rw [rmdirT, hm]
    rw [hu]
    show Calls _ _ _ _ (TBad 6 w)
    have HM := fun w => tFile_ok (v := .slice A t.length c) hp hm w
    clear hm hu
    go_enter Tryz.func108, Tryz.ntmps108
    go_wp2_with (first | (go_at_call 65; refine (HM _ Hv.out).mono ?_; rintro e W1 ⟨rfl, hE1⟩) | (go_at_call 38; refine (fail_At_c _ _ _ _).mono ?_; rintro e W4 ⟨⟨a5, rfl, hEr⟩, hE4⟩))
    go_ret2
    exact ⟨_, 1, rfl, hEr, by exact (by repeat (first | exact Ext.refl _ | assumption | refine Ext.alloc ?_ _ | refine Ext.drew ?_ | refine Ext.drewN ?_ _ | refine Ext.setCell ?_ (by first | omega | (simp; done) | (simp; omega)) _ | refine Ext.trans ?_ (by assumption)))⟩
end Go.Proofs.YtneefmgidplbcaaGreatDoor
