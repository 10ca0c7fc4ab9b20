/- The document's Under, With, Over and Stack: the folded stack, for every stack that can be looked at. -/
import Derived.Test.YtknfaabhlcdeoaaGreatDoorRLayer
import Derived.Test.YtknfaabhlcdeoaaGreatDoorFoldW
import Derived.Test.YtknfaabhlcdeoaaGreatDoorBlk
import Derived.Test.YtknfaabhlcdeoaaGreatDoorFew
import Derived.Test.YtknfaabhlcdeoaaGreatDoorNumb
import Derived.Laws.OwnMore
import Derived.Maps.AppendAt
import Derived.Deep.RegionLaw
import Derived.BigRegion
import Derived.Deep.AppendLies
import Derived.Laws.AppendOwnNone
import Derived.Lib.QuietBelow
namespace Go.Proofs.YtknfaabhlcdeoaaGreatDoor
open Go Go.RowKit Go.Shelf Go.Proofs

theorem under_pre {p q : ByteArray} {xs ys : List ByteArray} (hp : names p = some xs) (hq : names q = some ys) (h0 : ys ≠ []) : underB p q = Lib.hasPrefix p.data.toList (q.data.toList ++ [47]) := by
  have hroot := names_ne_root hq h0
  rcases hpre : Lib.hasPrefix p.data.toList (q.data.toList ++ [47]) with _ | _
  · rw [under_is, hpre, decide_eq_false hroot]
    simp
  · obtain ⟨vx, ex⟩ := ValN.of hp
    obtain ⟨vy, ey⟩ := ValN.of hq
    have hpre2 := hpre
    rw [Lib.hasPrefix, List.isPrefixOf_iff_prefix] at hpre
    obtain ⟨r, hr⟩ := hpre
    have hx : xs ≠ [] := by
      rintro rfl
      rw [← ex, ← ey, data_pathOf h0] at hr
      have := congrArg List.length hr
      simp [pathOf] at this
    have hnx : ∀ x ∈ xs.map (·.data.toList), ∀ b ∈ x, b ≠ 47 := by
      intro x hx2
      obtain ⟨y, hy2, rfl⟩ := List.mem_map.1 hx2
      exact nameOk_no (List.all_eq_true.1 vx.1 y hy2)
    have hny : ∀ x ∈ ys.map (·.data.toList), ∀ b ∈ x, b ≠ 47 := by
      intro x hx2
      obtain ⟨y, hy2, rfl⟩ := List.mem_map.1 hx2
      exact nameOk_no (List.all_eq_true.1 vy.1 y hy2)
    have hr2 := hr
    rw [← ex, ← ey, data_pathOf hx, data_pathOf h0, List.append_assoc, List.cons_append, List.cons.injEq, List.singleton_append] at hr2
    have h3 := segs_join _ (by simpa using hx) hnx
    have h4 := segs_join _ (by simpa using h0) hny
    rw [← hr2.2, segs_append, h4] at h3
    have h5 := congrArg List.length h3
    rw [List.length_append, List.length_map, List.length_map] at h5
    have h6 := List.length_pos_iff.2 (segs_ne 47 r)
    rw [under_is, hpre2, deep, deep, hp, hq, decide_eq_true (by show (0 : Int) ≤ ((ys.length : Nat) : Int); omega), decide_eq_true (by show ((ys.length : Nat) : Int) < ((xs.length : Nat) : Int); omega)]
    simp

set_option maxHeartbeats 4000000 in
theorem RUnder_any (p q : ByteArray) (w : World) (_hp : p.size ≤ 140737488355328) (hq : q.size ≤ 70368744177664) :
    Calls Tryz.prog 176 #[.string p, .string q] w fun e w' => e = .returned (.bool (Lib.hasPrefix p.data.toList (q.data.toList ++ [47]))) ∧ w' = w := by
  have lp : p.data.toList.length = p.size := Array.length_toList
  have lq : q.data.toList.length = q.size := Array.length_toList
  by_cases hl : q.size < p.size
  · have hl' : (q.size : Int) < (p.size : Int) := by omega
    have hqs : (q ++ (⟨#[47]⟩ : ByteArray)).size = q.size + 1 := by simp [ByteArray.size_append]; rfl
    have hw1 : IntKind.i64.wrap ((q.size : Int) + 1) = (q.size : Int) + 1 := by rw [IntKind.wrap_i64]; omega
    have htn : ((q.size : Int) + 1).toNat = q.size + 1 := by omega
    have hb1 : (0 : Int) ≤ (q.size : Int) + 1 := by omega
    have hb2 : (q.size : Int) + 1 ≤ (p.size : Int) := by omega
    have heq : ((p.extract 0 (q.size + 1)).toList == (q ++ (⟨#[47]⟩ : ByteArray)).toList) = Lib.hasPrefix p.data.toList (q.data.toList ++ [47]) := by
      rw [Bool.eq_iff_iff, beq_iff_eq, toList_eq, toList_eq, Lib.extract_data, Lib.hasPrefix, List.isPrefixOf_iff_prefix, List.drop_zero, Nat.sub_zero]
      have e0 : (q ++ (⟨#[47]⟩ : ByteArray)).data.toList = q.data.toList ++ [47] := by simp
      rw [e0]
      constructor
      · intro h
        exact ⟨p.data.toList.drop (q.size + 1), by rw [← h, List.take_append_drop]⟩
      · rintro ⟨r, h⟩
        rw [← h, List.take_append_of_le_length (by simp), List.take_of_length_le (by simp)]
    obtain ⟨r, hr⟩ : ∃ r, Lib.hasPrefix p.data.toList (q.data.toList ++ [47]) = r := ⟨_, rfl⟩
    rw [hr] at heq ⊢
    clear hl hr lp lq
    go_enter Tryz.func176, Tryz.ntmps176
    go_wp2
    go_ret
    exact ⟨by first | rfl | simp, rfl⟩
  · have hl' : ¬ (q.size : Int) < (p.size : Int) := by omega
    have hr : Lib.hasPrefix p.data.toList (q.data.toList ++ [47]) = false := by
      rcases h : Lib.hasPrefix p.data.toList (q.data.toList ++ [47]) with _ | _
      · rfl
      · rw [Lib.hasPrefix, List.isPrefixOf_iff_prefix] at h
        obtain ⟨r, h⟩ := h
        have := congrArg List.length h
        simp at this
        omega
    rw [hr]
    clear hr lp lq hl
    go_enter Tryz.func176, Tryz.ntmps176
    go_wp2
    go_ret
    exact ⟨by first | rfl | simp, rfl⟩

/-! ### With -/

def doneW (l : List Ent) (p : ByteArray) (i : Nat) : Bool := (l.take i).any fun x => !lt x.path p
def rowW (l : List Ent) (e : Ent) (i : Nat) : List Ent := if doneW l e.path i = true then insT (l.take i) e else l.take i

theorem take_rising {l : List Ent} (h : Rising l) (i : Nat) : Rising (l.take i) := List.Pairwise.sublist (List.take_sublist i l) h

theorem notdone {l : List Ent} {p : ByteArray} {i : Nat} (h : doneW l p i = false) : ∀ x ∈ l.take i, lt x.path p = true := by
  intro x hx
  rw [doneW, List.any_eq_false] at h
  simpa using h x hx

theorem doneW_succ {l : List Ent} {p : ByteArray} {i : Nat} (hh : i < l.length) : doneW l p (i + 1) = (doneW l p i || !lt l[i].path p) := by
  rw [doneW, ← List.take_append_getElem hh, List.any_append, ← doneW]
  simp

theorem ins_low {t : List Ent} {e : Ent} (h : ∀ x ∈ t, lt x.path e.path = true) : insT t e = t ++ [e] := by
  rw [insT, List.filter_eq_self.2 h, List.filter_eq_nil_iff.2]
  intro x hx
  rw [lt_asymm (h x hx)]
  simp

theorem ins_snoc {t : List Ent} {e x : Ent} (h : lt e.path x.path = true) : insT (t ++ [x]) e = insT t e ++ [x] := by
  rw [insT, insT, List.filter_append, List.filter_append]
  simp [h, lt_asymm h]
theorem ins_same {t : List Ent} {e x : Ent} (h : x.path = e.path) : insT (t ++ [x]) e = insT t e := by
  rw [insT, insT, List.filter_append, List.filter_append]
  simp [h, lt_irrefl]

/-- One entry more. -/
theorem rowW_less {l : List Ent} {e : Ent} {i : Nat} (hh : i < l.length) (hd : doneW l e.path i = false) (h : lt l[i].path e.path = true) : doneW l e.path (i + 1) = false ∧ rowW l e (i + 1) = rowW l e i ++ [l[i]] := by
  have h1 : doneW l e.path (i + 1) = false := by rw [doneW_succ hh, hd, h]; rfl
  refine ⟨h1, ?_⟩
  rw [rowW, rowW, h1, hd, if_neg (by simp), if_neg (by simp), List.take_append_getElem hh]
theorem rowW_same {l : List Ent} {e : Ent} {i : Nat} (hh : i < l.length) (hd : doneW l e.path i = false) (h : l[i].path = e.path) : doneW l e.path (i + 1) = true ∧ rowW l e (i + 1) = rowW l e i ++ [e] := by
  have h1 : doneW l e.path (i + 1) = true := by rw [doneW_succ hh, hd, h, lt_irrefl]; rfl
  refine ⟨h1, ?_⟩
  rw [rowW, rowW, h1, hd, if_pos rfl, if_neg (by simp), ← List.take_append_getElem hh, ins_same h, ins_low (notdone hd)]
theorem rowW_more {l : List Ent} {e : Ent} {i : Nat} (hh : i < l.length) (hd : doneW l e.path i = false) (h : lt e.path l[i].path = true) : doneW l e.path (i + 1) = true ∧ rowW l e (i + 1) = rowW l e i ++ [e] ++ [l[i]] := by
  have h1 : doneW l e.path (i + 1) = true := by rw [doneW_succ hh, hd, lt_asymm h]; rfl
  refine ⟨h1, ?_⟩
  rw [rowW, rowW, h1, hd, if_pos rfl, if_neg (by simp), ← List.take_append_getElem hh, ins_snoc h, ins_low (notdone hd)]
theorem rowW_done {l : List Ent} {e : Ent} {i : Nat} (hr : Rising l) (hh : i < l.length) (hd : doneW l e.path i = true) : doneW l e.path (i + 1) = true ∧ rowW l e (i + 1) = rowW l e i ++ [l[i]] ∧ lt e.path l[i].path = true := by
  have h1 : doneW l e.path (i + 1) = true := by rw [doneW_succ hh, hd]; rfl
  have h2 : lt e.path l[i].path = true := by
    rw [doneW, List.any_eq_true] at hd
    obtain ⟨y, hy, h3⟩ := hd
    obtain ⟨j, hj, rfl⟩ := List.getElem_of_mem hy
    rw [List.length_take] at hj
    rw [List.getElem_take] at h3
    have h4 := hr.at_ (show j < i by omega) hh
    have h5 : lt l[j].path e.path = false := by simpa using h3
    rcases h6 : lt e.path l[i].path with _ | _
    · rcases h7 : lt e.path l[j].path with _ | _
      · rw [lt_total h5 h7] at h4
        rw [h4] at h6
        cases h6
      · rw [lt_trans h7 h4] at h6
        cases h6
    · rfl
  refine ⟨h1, ?_, h2⟩
  rw [rowW, rowW, h1, hd, if_pos rfl, if_pos rfl, ← List.take_append_getElem hh, ins_snoc h2]
theorem rowW_end {l : List Ent} {e : Ent} {i : Nat} (hi : l.length ≤ i) : (doneW l e.path i = true → rowW l e i = insT l e) ∧ (doneW l e.path i = false → rowW l e i ++ [e] = insT l e) := by
  have ht : l.take i = l := List.take_of_length_le hi
  constructor
  · intro h
    rw [rowW, if_pos h, ht]
  · intro h
    have h2 := notdone h
    rw [rowW, h, if_neg (by simp), ht]
    rw [ht] at h2
    exact (ins_low h2).symm
theorem rowW_len (l : List Ent) (e : Ent) (i : Nat) : (rowW l e i).length ≤ l.length + 1 := by
  rw [rowW]
  split
  · rw [insT_len]
    have := delT_len (l.take i) e.path
    rw [List.length_take] at this
    omega
  · rw [List.length_take]
    omega

def WtRel (l : List Ent) (e : Ent) (n : Nat) (w : World) (v5 v6 v7 : Value) (wr : World) : Prop :=
  ∃ (k : Nat) (d : Bool), v7 = .int .i64 k ∧ v6 = .bool d ∧ k ≤ n ∧ Hid (d = doneW l e.path k) ∧ wr.ownsRow w.heap.size 33 3 v5 (rowW l e k).length (flatE (rowW l e k)) ∧ Ext w wr

theorem wt_next {l : List Ent} {e : Ent} {n k : Nat} {w W : World} {v5 : Value} {d : Bool} {r : List Ent} (hlt : k < n) (hd : doneW l e.path (k + 1) = d) (hr : rowW l e (k + 1) = r) (hrow : W.ownsRow w.heap.size 33 3 v5 r.length (flatE r)) (hE : Ext w W) :
    WtRel l e n w v5 (.bool d) (.int .i64 ((k : Int) + 1)) W ∧ n - (intOf (.int .i64 ((k : Int) + 1))).toNat < n - (intOf (.int .i64 (k : Int))).toNat :=
  ⟨⟨k + 1, d, by simp, rfl, by omega, Lib.hid hd.symm, by rw [hr]; exact hrow, hE⟩, by simp [intOf]; omega⟩

theorem row_put {w : World} {base m : Nat} {v : Value} {r : List Ent} {x : Ent} (hm : r.length = m) (h : w.ownsRow base 33 3 v (m + 1) (flatE r ++ [.string x.path, .int .i64 x.kind, .string x.data])) : w.ownsRow base 33 3 v (r ++ [x]).length (flatE (r ++ [x])) := by
  rw [List.length_append, List.length_singleton, hm, flatI_snoc]
  exact h

set_option maxHeartbeats 8000000 in
set_option maxRecDepth 20000 in
theorem RWith_any (v : Value) (l : List Ent) (e : Ent) (w : World) (hv : RdE w v l) (hr : Rising l) (he : e.fits) (hl : l.length ≤ 100000) :
    Calls Tryz.prog 177 #[v, .agg #[.string e.path, .int .i64 e.kind, .string e.data]] w (RdAns (insT l e) w) := by
  have hfits := RdE.fits hv
  obtain ⟨i0, hi, hz0, hz1, hz2⟩ := info_parts info_ent
  obtain ⟨n, hn⟩ : ∃ n, n = l.length := ⟨_, rfl⟩
  have Hn := Lib.hid hn
  obtain ⟨A, c, rfl, hc1, hc2, Hcell⟩ := rdE_form hv hn
  rw [← hn] at hl
  have Hr := Lib.hid hr
  have Hf := Lib.hid hfits
  have He := Lib.hid he
  have hB := Blk.new w 33 #[.string e.path, .int .i64 e.kind, .string e.data]
  have hE0 : Ext w (w.alloc (.cells #[.string e.path, .int .i64 e.kind, .string e.data] 33)) := (Ext.refl w).alloc _
  clear hn hv hr hfits he
  go_enter Tryz.func177, Tryz.ntmps177
  go_upto_region 4 with (fail)
  obtain ⟨eb, heb⟩ : ∃ eb, w.heap.size = eb := ⟨_, rfl⟩
  have heb2 : w.heap.size ≤ eb := by omega
  rw [heb] at hB
  rw [heb]
  have Heb := Lib.hid heb
  clear heb
  generalize w.alloc (.cells #[.string e.path, .int .i64 e.kind, .string e.data] 33) = W1 at hB hE0 ⊢
  have hebl := hB.lt
  go_loopw [5, 6, 7] (fun v5 v6 v7 wr => WtRel l e n W1 v5 v6 v7 wr) (fun _ _ v7 _ => n - (intOf v7).toNat)
  case atStart => exact ⟨0, false, rfl, rfl, Nat.zero_le _, Lib.hid (by simp [doneW]), World.ownsRow_nil _ _ _ _, Ext.refl _⟩
  case round =>
    obtain ⟨k, d, rfl, rfl, hkn, hd, hrow, hE⟩ := hrel
    obtain ⟨⟨z0, _⟩, ⟨z1, _⟩, ⟨z2, _⟩⟩ := (hB.ext hE).three
    have hrl := rowW_len l e k
    obtain ⟨m, hm⟩ : ∃ m, (rowW l e k).length = m := ⟨_, rfl⟩
    rw [hm] at hrow hrl
    have hm2 : m ≤ 100002 := by have := Hn.out; omega
    have Hm := Lib.hid hm
    have Hrow := Lib.hid hrow
    obtain ⟨A5, c5, rfl⟩ := own_form hrow
    clear hrow hrl hm
    by_cases hlt : k < n
    · have hh : k < l.length := by have := Hn.out; omega
      obtain ⟨b, o, rfl, hcell⟩ := Hcell.out (List.ne_nil_of_length_pos (by omega))
      obtain ⟨q0, q1, q2, hfx⟩ := hcell k hh
      obtain ⟨x, hx⟩ : ∃ x, l[k]'hh = x := ⟨_, rfl⟩
      rw [hx] at q0 q1 q2 hfx
      have g0 := (hE0.trans hE).cell q0
      have g1 := (hE0.trans hE).cell q1
      have g2 := (hE0.trans hE).cell q2
      have g0' := fun d os => cell_regrown g0 d os
      have z0' := fun d os => cell_regrown z0 d os
      have HL := fun W => RLess_any x.path e.path W hfx.1 He.out.1
      have hpn : (x.path.toList == e.path.toList) = decide (x.path = e.path) := path_eqR _ _
      have hlt' : (k : Int) < (n : Int) := by omega
      have Hq := Lib.hid (And.intro q0 (And.intro q1 q2))
      clear q0 q1 q2 hcell hfx
      rcases d with _ | _
      · rcases hl1 : lt x.path e.path with _ | _
        · rw [hl1] at HL
          by_cases hxe : x.path = e.path
          · rw [decide_eq_true hxe] at hpn
            obtain ⟨hd2, hr2⟩ := rowW_same hh hd.out.symm (by rw [hx]; exact hxe)
            have Hn2 := Lib.hid (And.intro hd2 hr2)
            clear hl1 hxe hd2 hr2 hx
            go_upto_region 6 with (fail)
            (refine wp_region_quiet_below (by kernel_rfl) (by kernel_rfl) ?_; (repeat (go_big_quiet_step ((go_at_call 107; exact Calls.regrown_of (HL _))))); refine wpQuiet_nil ?_; intro _ hq; obtain ⟨⟨dq, osq⟩, hq2⟩ := hq; subst hq2)
            have hE6 := below_regrown wr dq osq
            obtain ⟨W6, hW6⟩ : ∃ W6, Sort.grow (redrawn wr dq) osq = W6 := ⟨_, rfl⟩
            rw [hW6] at hE6
            try rw [hW6]
            have hE6w : Ext wr W6 := hE6
            have hE6 : Ext W1 W6 := hE.trans hE6w
            have hrow6 := Lib.hid (own_ext Hrow.out hE6w)
            have hs6 := hE6.size
            clear hW6 g0 g1 g2 g0' z0' z0 z1 z2
            obtain ⟨⟨z0, _⟩, ⟨z1, _⟩, ⟨z2, _⟩⟩ := (hB.ext hE6).three
            have g0 := (hE0.trans hE6).cell Hq.out.1
            have g1 := (hE0.trans hE6).cell Hq.out.2.1
            have g2 := (hE0.trans hE6).cell Hq.out.2.2
            go_upto_region 9 with (at_builtin; refine wpList_append_own _ rfl _ _ 34 rfl W1.heap.size 33 i0 (.agg #[.string ⟨#[]⟩, .int .i64 0, .string ⟨#[]⟩]) 3 40 Tryz.underlying34 hi hz0 hz1 hz2 rfl (by decide) _ _ _ rfl (hrow6.out.alloc _) ⟨W6.heap.size, 0, none⟩ 1 1 [.string e.path, .int .i64 e.kind, .string e.data] rfl rfl (World.news_of_block (cs := #[.string e.path, .int .i64 e.kind, .string e.data]) (t := 33) (fr := (0, 0)) (Blk.new W6 _ _)) (by simp [Value.oneCell']) (by unfold maxLen; omega) (by omega) (by rw [World.size_alloc]; omega) ?_; intro v7 W7 hown7 hgrow7 hnil7)
            have hE7 : Ext W1 W7 := Ext.grown (hE6.alloc _) hgrow7 (fun j hj => (hrow6.out.lt j hj).1)
            have hs7 := hE7.size
            have Hown7 := Lib.hid (row_put Hm.out hown7)
            obtain ⟨A7, c7, rfl⟩ := own_form hown7
            clear hown7 hgrow7 hnil7 z0 z1 z2 g0 g1 g2
            obtain ⟨⟨z0, _⟩, ⟨z1, _⟩, ⟨z2, _⟩⟩ := (hB.ext hE7).three
            have g0 := (hE0.trans hE7).cell Hq.out.1
            have g1 := (hE0.trans hE7).cell Hq.out.2.1
            have g2 := (hE0.trans hE7).cell Hq.out.2.2
            go_quiet (fail)
            go_wp2
            exact wt_next hlt Hn2.out.1 Hn2.out.2 (own_ext Hown7.out ((Ext.refl _).drewN _)) (hE7.drewN _)
          · rw [decide_eq_false hxe] at hpn
            have hgt : lt e.path x.path = true := by
              rcases h : lt e.path x.path with _ | _
              · exact absurd (lt_total hl1 h) hxe
              · rfl
            obtain ⟨hd2, hr2⟩ := rowW_more hh hd.out.symm (by rw [hx]; exact hgt)
            rw [hx] at hr2
            have Hn2 := Lib.hid (And.intro hd2 hr2)
            clear hl1 hxe hd2 hr2 hx hgt
            go_upto_region 6 with (fail)
            (refine wp_region_quiet_below (by kernel_rfl) (by kernel_rfl) ?_; (repeat (go_big_quiet_step ((go_at_call 107; exact Calls.regrown_of (HL _))))); refine wpQuiet_nil ?_; intro _ hq; obtain ⟨⟨dq, osq⟩, hq2⟩ := hq; subst hq2)
            have hE6 := below_regrown wr dq osq
            obtain ⟨W6, hW6⟩ : ∃ W6, Sort.grow (redrawn wr dq) osq = W6 := ⟨_, rfl⟩
            rw [hW6] at hE6
            try rw [hW6]
            have hE6w : Ext wr W6 := hE6
            have hE6 : Ext W1 W6 := hE.trans hE6w
            have hrow6 := Lib.hid (own_ext Hrow.out hE6w)
            have hs6 := hE6.size
            clear hW6 g0 g1 g2 g0' z0' z0 z1 z2
            obtain ⟨⟨z0, _⟩, ⟨z1, _⟩, ⟨z2, _⟩⟩ := (hB.ext hE6).three
            have g0 := (hE0.trans hE6).cell Hq.out.1
            have g1 := (hE0.trans hE6).cell Hq.out.2.1
            have g2 := (hE0.trans hE6).cell Hq.out.2.2
            go_upto_region 9 with (at_builtin; refine wpList_append_own _ rfl _ _ 34 rfl W1.heap.size 33 i0 (.agg #[.string ⟨#[]⟩, .int .i64 0, .string ⟨#[]⟩]) 3 40 Tryz.underlying34 hi hz0 hz1 hz2 rfl (by decide) _ _ _ rfl (hrow6.out.alloc _) ⟨W6.heap.size, 0, none⟩ 1 1 [.string e.path, .int .i64 e.kind, .string e.data] rfl rfl (World.news_of_block (cs := #[.string e.path, .int .i64 e.kind, .string e.data]) (t := 33) (fr := (0, 0)) (Blk.new W6 _ _)) (by simp [Value.oneCell']) (by unfold maxLen; omega) (by omega) (by rw [World.size_alloc]; omega) ?_; intro v7 W7 hown7 hgrow7 hnil7)
            have hE7 : Ext W1 W7 := Ext.grown (hE6.alloc _) hgrow7 (fun j hj => (hrow6.out.lt j hj).1)
            have hs7 := hE7.size
            have Hown7 := Lib.hid (row_put Hm.out hown7)
            obtain ⟨A7, c7, rfl⟩ := own_form hown7
            clear hown7 hgrow7 hnil7 z0 z1 z2 g0 g1 g2
            obtain ⟨⟨z0, _⟩, ⟨z1, _⟩, ⟨z2, _⟩⟩ := (hB.ext hE7).three
            have g0 := (hE0.trans hE7).cell Hq.out.1
            have g1 := (hE0.trans hE7).cell Hq.out.2.1
            have g2 := (hE0.trans hE7).cell Hq.out.2.2
            go_quiet (fail)
            obtain ⟨W8, hW8⟩ : ∃ W8, W7.drewN nq = W8 := ⟨_, rfl⟩
            try rw [hW8]
            have hE8 : Ext W1 W8 := by rw [← hW8]; exact hE7.drewN _
            have hrow8 : Hid (W8.ownsRow W1.heap.size 33 3 (.slice A7 (m + 1) c7) (m + 1) (flatE (rowW l e k ++ [e]))) := Lib.hid (by have := own_ext Hown7.out ((Ext.refl W7).drewN nq); rw [List.length_append, List.length_singleton, Hm.out, hW8] at this; exact this)
            have hs8 := hE8.size
            clear hW8 z0 z1 z2 g0 g1 g2
            have g0 := (hE0.trans hE8).cell Hq.out.1
            have g1 := (hE0.trans hE8).cell Hq.out.2.1
            have g2 := (hE0.trans hE8).cell Hq.out.2.2
            go_wp2_with (at_builtin; refine wpList_append_own _ rfl _ _ 34 rfl W1.heap.size 33 i0 (.agg #[.string ⟨#[]⟩, .int .i64 0, .string ⟨#[]⟩]) 3 40 Tryz.underlying34 hi hz0 hz1 hz2 rfl (by decide) _ _ _ rfl (hrow8.out.alloc _) ⟨W8.heap.size, 0, none⟩ 1 1 [.string x.path, .int .i64 x.kind, .string x.data] rfl rfl (World.news_of_block (cs := #[.string x.path, .int .i64 x.kind, .string x.data]) (t := 33) (fr := (0, 0)) (Blk.new W8 _ _)) (by simp [Value.oneCell']) (by unfold maxLen; omega) (by omega) (by rw [World.size_alloc]; omega) ?_; intro v9 W9 hown9 hgrow9 hnil9)
            exact wt_next hlt Hn2.out.1 Hn2.out.2 (row_put (by rw [List.length_append, Hm.out]; rfl) hown9) (Ext.grown (hE8.alloc _) hgrow9 (fun j hj => (hrow8.out.lt j hj).1))
        · rw [hl1] at HL
          rw [decide_eq_false (lt_ne hl1)] at hpn
          obtain ⟨hd2, hr2⟩ := rowW_less hh hd.out.symm (by rw [hx]; exact hl1)
          rw [hx] at hr2
          have Hn2 := Lib.hid (And.intro hd2 hr2)
          clear hl1 hd2 hr2 hx
          go_upto_region 6 with (fail)
          (refine wp_region_quiet_below (by kernel_rfl) (by kernel_rfl) ?_; (repeat (go_big_quiet_step ((go_at_call 107; exact Calls.regrown_of (HL _))))); refine wpQuiet_nil ?_; intro _ hq; obtain ⟨⟨dq, osq⟩, hq2⟩ := hq; subst hq2)
          have hE6 := below_regrown wr dq osq
          obtain ⟨W6, hW6⟩ : ∃ W6, Sort.grow (redrawn wr dq) osq = W6 := ⟨_, rfl⟩
          rw [hW6] at hE6
          try rw [hW6]
          have hE6w : Ext wr W6 := hE6
          have hE6 : Ext W1 W6 := hE.trans hE6w
          have hrow6 := Lib.hid (own_ext Hrow.out hE6w)
          have hs6 := hE6.size
          clear hW6 g0 g1 g2 g0' z0' z0 z1 z2
          obtain ⟨⟨z0, _⟩, ⟨z1, _⟩, ⟨z2, _⟩⟩ := (hB.ext hE6).three
          have g0 := (hE0.trans hE6).cell Hq.out.1
          have g1 := (hE0.trans hE6).cell Hq.out.2.1
          have g2 := (hE0.trans hE6).cell Hq.out.2.2
          go_upto_region 9 with (fail)
          go_quiet (fail)
          obtain ⟨W8, hW8⟩ : ∃ W8, W6.drewN nq = W8 := ⟨_, rfl⟩
          try rw [hW8]
          have hE8 : Ext W1 W8 := by rw [← hW8]; exact hE6.drewN _
          have hrow8 : Hid (W8.ownsRow W1.heap.size 33 3 (.slice A5 m c5) m (flatE (rowW l e k))) := Lib.hid (by rw [← hW8]; exact own_ext hrow6.out ((Ext.refl W6).drewN nq))
          have hs8 := hE8.size
          clear hW8 z0 z1 z2 g0 g1 g2
          have g0 := (hE0.trans hE8).cell Hq.out.1
          have g1 := (hE0.trans hE8).cell Hq.out.2.1
          have g2 := (hE0.trans hE8).cell Hq.out.2.2
          go_wp2_with (at_builtin; refine wpList_append_own _ rfl _ _ 34 rfl W1.heap.size 33 i0 (.agg #[.string ⟨#[]⟩, .int .i64 0, .string ⟨#[]⟩]) 3 40 Tryz.underlying34 hi hz0 hz1 hz2 rfl (by decide) _ _ _ rfl (hrow8.out.alloc _) ⟨W8.heap.size, 0, none⟩ 1 1 [.string x.path, .int .i64 x.kind, .string x.data] rfl rfl (World.news_of_block (cs := #[.string x.path, .int .i64 x.kind, .string x.data]) (t := 33) (fr := (0, 0)) (Blk.new W8 _ _)) (by simp [Value.oneCell']) (by unfold maxLen; omega) (by omega) (by rw [World.size_alloc]; omega) ?_; intro v9 W9 hown9 hgrow9 hnil9)
          exact wt_next hlt Hn2.out.1 Hn2.out.2 (row_put Hm.out hown9) (Ext.grown (hE8.alloc _) hgrow9 (fun j hj => (hrow8.out.lt j hj).1))
      · obtain ⟨hd2, hr2, hgt⟩ := rowW_done Hr.out hh hd.out.symm
        rw [hx] at hr2 hgt
        rw [decide_eq_false (fun h => by rw [h, lt_irrefl] at hgt; cases hgt)] at hpn
        have Hn2 := Lib.hid (And.intro hd2 hr2)
        clear hd2 hr2 hx hgt
        go_upto_region 6 with (fail)
        (refine wp_region_quiet_below (by kernel_rfl) (by kernel_rfl) ?_; (repeat (go_big_quiet_step ((go_at_call 107; exact Calls.regrown_of (HL _))))); refine wpQuiet_nil ?_; intro _ hq; obtain ⟨⟨dq, osq⟩, hq2⟩ := hq; subst hq2)
        have hE6 := below_regrown wr dq osq
        obtain ⟨W6, hW6⟩ : ∃ W6, Sort.grow (redrawn wr dq) osq = W6 := ⟨_, rfl⟩
        rw [hW6] at hE6
        try rw [hW6]
        have hE6w : Ext wr W6 := hE6
        have hE6 : Ext W1 W6 := hE.trans hE6w
        have hrow6 := Lib.hid (own_ext Hrow.out hE6w)
        have hs6 := hE6.size
        clear hW6 g0 g1 g2 g0' z0' z0 z1 z2
        obtain ⟨⟨z0, _⟩, ⟨z1, _⟩, ⟨z2, _⟩⟩ := (hB.ext hE6).three
        have g0 := (hE0.trans hE6).cell Hq.out.1
        have g1 := (hE0.trans hE6).cell Hq.out.2.1
        have g2 := (hE0.trans hE6).cell Hq.out.2.2
        go_upto_region 9 with (fail)
        go_quiet (fail)
        obtain ⟨W8, hW8⟩ : ∃ W8, W6.drewN nq = W8 := ⟨_, rfl⟩
        try rw [hW8]
        have hE8 : Ext W1 W8 := by rw [← hW8]; exact hE6.drewN _
        have hrow8 : Hid (W8.ownsRow W1.heap.size 33 3 (.slice A5 m c5) m (flatE (rowW l e k))) := Lib.hid (by rw [← hW8]; exact own_ext hrow6.out ((Ext.refl W6).drewN nq))
        have hs8 := hE8.size
        clear hW8 z0 z1 z2 g0 g1 g2
        have g0 := (hE0.trans hE8).cell Hq.out.1
        have g1 := (hE0.trans hE8).cell Hq.out.2.1
        have g2 := (hE0.trans hE8).cell Hq.out.2.2
        go_wp2_with (at_builtin; refine wpList_append_own _ rfl _ _ 34 rfl W1.heap.size 33 i0 (.agg #[.string ⟨#[]⟩, .int .i64 0, .string ⟨#[]⟩]) 3 40 Tryz.underlying34 hi hz0 hz1 hz2 rfl (by decide) _ _ _ rfl (hrow8.out.alloc _) ⟨W8.heap.size, 0, none⟩ 1 1 [.string x.path, .int .i64 x.kind, .string x.data] rfl rfl (World.news_of_block (cs := #[.string x.path, .int .i64 x.kind, .string x.data]) (t := 33) (fr := (0, 0)) (Blk.new W8 _ _)) (by simp [Value.oneCell']) (by unfold maxLen; omega) (by omega) (by rw [World.size_alloc]; omega) ?_; intro v9 W9 hown9 hgrow9 hnil9)
        exact wt_next hlt Hn2.out.1 Hn2.out.2 (row_put Hm.out hown9) (Ext.grown (hE8.alloc _) hgrow9 (fun j hj => (hrow8.out.lt j hj).1))
    · have hkn' : k = n := by omega
      have hend := rowW_end (e := e) (show l.length ≤ k by have := Hn.out; omega)
      have hfit : ∀ y ∈ insT l e, y.fits := fun y hy => by
        rcases mem_insT.1 hy with rfl | ⟨h, _⟩
        · exact He.out
        · exact Hf.out y h
      have Hfit := Lib.hid hfit
      have hs := hE.size
      rcases d with _ | _
      · have Hend := Lib.hid (hend.2 hd.out.symm)
        clear hend hfit
        go_wp2_with (at_builtin; refine wpList_append_own _ rfl _ _ 34 rfl W1.heap.size 33 i0 (.agg #[.string ⟨#[]⟩, .int .i64 0, .string ⟨#[]⟩]) 3 40 Tryz.underlying34 hi hz0 hz1 hz2 rfl (by decide) _ _ _ rfl (Hrow.out.alloc _) ⟨wr.heap.size, 0, none⟩ 1 1 [.string e.path, .int .i64 e.kind, .string e.data] rfl rfl (World.news_of_block (cs := #[.string e.path, .int .i64 e.kind, .string e.data]) (t := 33) (fr := (0, 0)) (Blk.new wr _ _)) (by simp [Value.oneCell']) (by unfold maxLen; omega) (by omega) (by rw [World.size_alloc]; omega) ?_; intro v9 W9 hown9 hgrow9 hnil9)
        have hrow9 := row_put Hm.out hown9
        rw [Hend.out] at hrow9
        have hlen : (insT l e).length ≤ 1000000 := by
          have := congrArg List.length Hend.out
          rw [List.length_append, List.length_singleton, Hm.out] at this
          omega
        have Hrd := Lib.hid (RdE.of_own hrow9 (by omega) Hfit.out)
        clear hown9 hrow9 hlen
        go_ret
        exact ⟨_, rfl, Hrd.out, hE0.trans (Ext.grown (hE.alloc _) hgrow9 (fun j hj => (Hrow.out.lt j hj).1))⟩
      · have Hend := Lib.hid (hend.1 hd.out.symm)
        clear hend hfit
        have hrow9 := Hrow.out
        rw [← Hm.out, Hend.out] at hrow9
        have hlen : (insT l e).length = m := by rw [← Hend.out, Hm.out]
        have Hrd := Lib.hid (RdE.of_own (xs := insT l e) hrow9 (by omega) Hfit.out)
        rw [hlen] at Hrd
        clear hrow9 hlen
        go_wp2
        go_ret
        exact ⟨_, rfl, Hrd.out, hE0.trans hE⟩
end Go.Proofs.YtknfaabhlcdeoaaGreatDoor
