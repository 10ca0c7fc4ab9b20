/- The document's Over and Stack. -/
import Derived.Test.YtknfaabhlcdeoaaGreatDoorRFold
namespace Go.Proofs.YtknfaabhlcdeoaaGreatDoor
open Go Go.RowKit Go.Shelf Go.Proofs

/-- Whether a directory stands at the entry's path. -/
def dirB (t : List Ent) (e : Ent) : Bool := t.any fun x => decide (x.path = e.path) && (x.kind == 2)

theorem one_ref {t : List Ent} {e : Ent} (hr : Rising t) (hm : MemT t) (he : entOk e = true) :
    oneT t e = if e.kind = 1 then insT (stayT t e) e else if (e.kind = 2 ∧ dirB t e = false) ∨ e.kind = 4 then insT (stayT t e) ⟨e.path, 2, ⟨#[]⟩⟩ else stayT t e := by
  have hk := entOk_kind he
  show (if e.kind = 3 then stayT t e else insT (stayT t e) (if e.kind = 4 then ⟨e.path, 2, e.data⟩ else e)) = _
  by_cases h3 : e.kind = 3
  · rw [if_pos h3, if_neg (by omega), if_neg (by omega)]
  · rw [if_neg h3]
    by_cases h1 : e.kind = 1
    · rw [if_pos h1, if_neg (by omega)]
    · obtain ⟨_, hd⟩ := resE_dir he h3 h1
      rw [if_neg h1]
      by_cases h4 : e.kind = 4
      · rw [if_pos h4, if_pos (.inr h4), hd]
      · have h2 : e.kind = 2 := by omega
        have hee : e = ⟨e.path, 2, ⟨#[]⟩⟩ := by
          cases e
          simp at h2 hd ⊢
          exact ⟨h2, hd⟩
        rw [if_neg h4]
        rcases hdb : dirB t e with _ | _
        · rw [if_pos (.inl ⟨h2, rfl⟩), ← hee]
        · rw [if_neg (by simp [h4])]
          rw [dirB, List.any_eq_true] at hdb
          obtain ⟨x, hx, h5⟩ := hdb
          rw [Bool.and_eq_true, decide_eq_true_eq, beq_iff_eq] at h5
          have hxe : x = e := by
            have h6 := (hm x hx).1
            obtain ⟨_, h7⟩ := resE_dir h6 (by omega) (by omega)
            rw [hee]
            cases x
            simp at h5 h7 ⊢
            exact ⟨h5.1, h5.2, h7⟩
          have hin : e ∈ stayT t e := by
            rw [stayT, List.mem_filter]
            refine ⟨by rw [← hxe]; exact hx, ?_⟩
            rw [goesB, if_pos h2]
            simp [h2]
          exact insT_same (List.Pairwise.filter _ hr) hin

def leftF (t : List Ent) (e : Ent) (k : Nat) : List Ent := (t.take k).filter fun x => !goesB e x
def dirF (t : List Ent) (e : Ent) (k : Nat) : Bool := (t.take k).any fun x => decide (x.path = e.path) && (x.kind == 2)

theorem left_succ {t : List Ent} {e x : Ent} {k : Nat} (hh : k < t.length) (hx : t[k] = x) : leftF t e (k + 1) = leftF t e k ++ (if goesB e x = true then [] else [x]) := by
  rw [leftF, ← List.take_append_getElem hh, List.filter_append, ← leftF, hx]
  congr 1
  rcases h : goesB e x with _ | _ <;> simp [h]
theorem dir_succ {t : List Ent} {e x : Ent} {k : Nat} (hh : k < t.length) (hx : t[k] = x) : dirF t e (k + 1) = (dirF t e k || (decide (x.path = e.path) && (x.kind == 2))) := by
  rw [dirF, ← List.take_append_getElem hh, List.any_append, ← dirF, hx]
  simp

def LfRel (t : List Ent) (e : Ent) (n : Nat) (w : World) (v7 v8 v9 : Value) (wr : World) : Prop :=
  ∃ (k : Nat) (d : Bool), v9 = .int .i64 k ∧ v8 = .bool d ∧ k ≤ n ∧ Hid (d = ((e.kind == 2) && dirF t e k)) ∧ wr.ownsRow w.heap.size 33 3 v7 (leftF t e k).length (flatE (leftF t e k)) ∧ Ext w wr

theorem lf_next {t : List Ent} {e : Ent} {n k : Nat} {w W : World} {v7 : Value} {d : Bool} {r : List Ent} (hlt : k < n) (hd : d = ((e.kind == 2) && dirF t e (k + 1))) (hr : leftF t e (k + 1) = r) (hrow : W.ownsRow w.heap.size 33 3 v7 r.length (flatE r)) (hE : Ext w W) :
    LfRel t e n w v7 (.bool d) (.int .i64 ((k : Int) + 1)) W ∧ n - (intOf (.int .i64 ((k : Int) + 1))).toNat < n - (intOf (.int .i64 (k : Int))).toNat :=
  ⟨⟨k + 1, d, by simp, rfl, by omega, Lib.hid hd, by rw [hr]; exact hrow, hE⟩, by simp [intOf]; omega⟩

def ROvRel (t l : List Ent) (n : Nat) (w : World) (v5 v6 : Value) (wr : World) : Prop := ∃ k : Nat, v6 = .int .i64 k ∧ k ≤ n ∧ Hid (RdE wr v5 (overT t (l.take k))) ∧ Ext w wr
theorem rov_next {t l : List Ent} {n k : Nat} {w W : World} {v5 : Value} (hlt : k < n) (h : RdE W v5 (overT t (l.take (k + 1)))) (hE : Ext w W) :
    ROvRel t l n w v5 (.int .i64 ((k : Int) + 1)) W ∧ n - (intOf (.int .i64 ((k : Int) + 1))).toNat < n - (intOf (.int .i64 (k : Int))).toNat :=
  ⟨⟨k + 1, by simp, by omega, Lib.hid h, hE⟩, by simp [intOf]; omega⟩

theorem run_append_none_ents {w : World} (base : Nat) (ty : TypeId) (c : Nat) (v : Value) (n : Nat) (xs : List Value) (hown : w.ownsRow base 33 3 v n xs) :
    (Builtin.append_ #[34, 34] ty #[v, .slice none 0 c]).run Tryz.prog w = .ok v w := by
  obtain ⟨i0, hi, hz0, hz1, hz2⟩ := info_parts info_ent
  rcases hown.2 with ⟨rfl, rfl⟩ | ⟨g, cap, cur, rfl, _, _, hnc, _⟩
  · simp [Builtin.append_, run_underlying Tryz.underlying34, sizeOf, typeInfo, hi, Builtin.lenOf, Builtin.firstCells]
  · simp [Builtin.append_, run_underlying Tryz.underlying34, sizeOf, typeInfo, hi, Builtin.lenOf, Builtin.firstCells, hnc, storeCells]

/-- A list that is read, behind a row. -/
theorem append_rdE {w : World} {ops : Array Oper} {rest : List Oper} {o : Oper} {a : Act} {Q : Exit → Act → World → Prop} (hgd : o.guard = none) (s x : Operand)
    (ho : o.op = .call { callee := .builtin .append, args := #[s, x], argTypes := #[34, 34] }) (base : Nat) (hbase : base ≤ w.heap.size) (v : Value) (n : Nat) (xs : List Value) (hs : a.eval s = v) (hown : w.ownsRow base 33 3 v n xs)
    (A : Option Addr) (c : Nat) (sub : List Ent) (hx : a.eval x = .slice A sub.length c) (hr : RdE w (.slice A sub.length c) sub) (hn : n + sub.length ≤ 1000000)
    (h : ∀ v' w', w'.ownsRow base 33 3 v' (n + sub.length) (xs ++ flatE sub) → w.grownBy w' v.ownBlock → wpList Tryz.prog ops Q rest (a.put o.dst v') w') : wpList Tryz.prog ops Q (o :: rest) a w := by
  obtain ⟨i0, hi, hz0, hz1, hz2⟩ := info_parts info_ent
  rcases A with _ | ad
  · have h0 : sub = [] := Classical.byContradiction fun e => by
      obtain ⟨b, o, c', e2, _⟩ := RdE.open_ hr e
      cases e2
    subst h0
    refine wpList_plain hgd fun K hK => ?_
    have hrun := run_append_none_ents (w := w) base o.type c v n xs hown
    unfold Oper.wp
    simp only [List.length_nil] at hx
    simp [execOp, ho, resolve, invoke, builtin, hs, hx, hrun, Result.andThen]
    exact hK _ _ (h v w (by simpa [flatE] using hown) ⟨rfl, rfl, rfl, Nat.le_refl _, fun _ _ _ => rfl⟩)
  · refine wpList_append_own w hgd _ _ 34 ho base 33 i0 (.agg #[.string ⟨#[]⟩, .int .i64 0, .string ⟨#[]⟩]) 3 40 Tryz.underlying34 hi hz0 hz1 hz2 rfl (by decide) v n xs hs hown ad sub.length c (flatE sub) hx (ents_length sub) (fun j u hj => ?_) (ents_one sub) (by unfold maxLen; omega) (by omega) hbase fun v' w' h2 h3 _ => h v' w' h2 h3
    obtain ⟨j', y, i, hy, hyi, rfl⟩ := ents_at sub j u hj
    obtain ⟨A', c', e, _, _, _, hne⟩ := hr
    cases e
    obtain ⟨b, o, e, hc⟩ := hne (by rintro rfl; simp at hy)
    cases e
    obtain ⟨cs, ⟨rfl, _⟩, hu⟩ := hc j' y hy
    have := hu i u hyi
    rw [Addr.add_lit, ← Nat.add_assoc]
    exact this

theorem stay_len (t : List Ent) (e : Ent) : (stayT t e).length ≤ t.length := List.length_filter_le _ _

set_option maxHeartbeats 16000000 in
set_option maxRecDepth 20000 in
theorem ROver_any (v u : Value) (t l : List Ent) (w : World) (hv : RdE w v t) (hu : RdE w u l) (ht : treeOk t = true) (hl : layerOk l = true) (hlen : t.length + l.length ≤ 1024) :
    Calls Tryz.prog 116 #[v, u] w (RdAns (overT t l) w) := by
  obtain ⟨_, hr, hall⟩ := treeOk_iff.1 ht
  obtain ⟨_, _, hlall⟩ := layerOk_iff.1 hl
  have hmem : ∀ k, MemT (overT t (l.take k)) := fun k => mem_over (fun e he => (hlall e (List.mem_of_mem_take he)).1) fun x hx => ⟨(hall x hx).1, (hall x hx).2.1⟩
  have hln : ∀ k, (overT t (l.take k)).length ≤ 1024 := fun k => by
    have h1 := over_len t (l.take k)
    rw [List.length_take] at h1
    omega
  have hro : ∀ k, Rising (overT t (l.take k)) := fun k => rising_over hr (l.take k)
  obtain ⟨i0, hi, hz0, hz1, hz2⟩ := info_parts info_ent
  have hfits := RdE.fits hv
  obtain ⟨n, hn⟩ : ∃ n, n = l.length := ⟨_, rfl⟩
  have Hn := Lib.hid hn
  have hlu := Rd.len hu
  obtain ⟨A, c, rfl, _, _, _⟩ := rdE_form hv rfl
  obtain ⟨A2, c2, rfl, hd1, hd2, Hcell⟩ := rdE_form hu hn
  rw [← hn] at hlu
  have Hv := Lib.hid hv
  have Hmem := Lib.hid hmem
  have Hln := Lib.hid hln
  have Hlall := Lib.hid hlall
  have Hro := Lib.hid hro
  have Hfits := Lib.hid hfits
  have htl : t.length ≤ 1024 := by omega
  clear hv hu ht hl hr hall hlall hmem hln hlen hn hro hfits
  go_enter Tryz.func116, Tryz.ntmps116
  go_upto_region 3 with (at_builtin; refine append_rdE rfl _ _ rfl w.heap.size (by rw [World.size_alloc]; omega) _ 0 [] rfl (World.ownsRow_made w #[] 0 (Nat.le_refl _) (Nat.zero_le _) rfl) A c t rfl (Hv.out.ext (by exact (by repeat (first | exact Ext.refl _ | assumption | refine Ext.alloc ?_ _ | refine Ext.drew ?_ | refine Ext.drewN ?_ _ | refine Ext.setCell ?_ (by first | omega | (simp; done) | (simp; omega)) _ | refine Ext.trans ?_ (by assumption))))) (by omega) ?_; intro v5 W5 hown5 hgrow5)
  have hE5 : Ext w W5 := Ext.grown (by exact (by repeat (first | exact Ext.refl _ | assumption | refine Ext.alloc ?_ _ | refine Ext.drew ?_ | refine Ext.drewN ?_ _ | refine Ext.setCell ?_ (by first | omega | (simp; done) | (simp; omega)) _ | refine Ext.trans ?_ (by assumption)))) hgrow5 (fun k hk => by cases hk; exact Nat.le_refl _)
  rw [Nat.zero_add, List.nil_append] at hown5
  have Hr5 := Lib.hid (RdE.of_own hown5 (by omega) Hfits.out)
  clear hown5 hgrow5
  go_loopw [5, 6] (fun v5 v6 wr => ROvRel t l n W5 v5 v6 wr) (fun _ v6 _ => n - (intOf v6).toNat)
  case atStart => exact ⟨0, rfl, Nat.zero_le _, Lib.hid (by simpa [overT] using Hr5.out), Ext.refl _⟩
  case round =>
    obtain ⟨k, rfl, hkn, hrd, hE⟩ := hrel
    by_cases hlt : k < n
    · have hh : k < l.length := by have := Hn.out; omega
      obtain ⟨b, o, rfl, hcell⟩ := Hcell.out (List.ne_nil_of_length_pos (by omega))
      obtain ⟨q0, q1, q2, hfe⟩ := hcell k hh
      obtain ⟨e, hx⟩ : ∃ e, l[k]'hh = e := ⟨_, rfl⟩
      rw [hx] at q0 q1 q2 hfe
      have Hq : Hid (∀ W, Ext w W → W.cell? ⟨b, o + k * 3, none⟩ = some (.string e.path) ∧ W.cell? ⟨b, o + k * 3 + 1, none⟩ = some (.int .i64 e.kind) ∧ W.cell? ⟨b, o + k * 3 + 2, none⟩ = some (.string e.data)) := Lib.hid fun W hW => ⟨hW.cell q0, hW.cell q1, hW.cell q2⟩
      have hoe := (Hlall.out e (by rw [← hx]; exact List.getElem_mem hh)).1
      have hstep : overT t (l.take (k + 1)) = oneT (overT t (l.take k)) e := by rw [overT_take t hh, hx]
      obtain ⟨T, hT⟩ : ∃ T, overT t (l.take k) = T := ⟨_, rfl⟩
      have hTl := Hln.out k
      have hTm := Hmem.out k
      have hTr := Hro.out k
      rw [hT] at hstep hTl hTm hTr
      rw [one_ref hTr hTm hoe] at hstep
      have Hrd : Hid (RdE wr u5 T) := Lib.hid (by rw [← hT]; exact hrd.out)
      obtain ⟨n2, hn2⟩ : ∃ n2, n2 = T.length := ⟨_, rfl⟩
      have Hn2 := Lib.hid hn2
      obtain ⟨A5, c5, rfl, hc51, hc52, Hcell5⟩ := rdE_form Hrd.out hn2
      rw [← hn2] at hTl
      have HTm := Lib.hid hTm
      have HTr := Lib.hid hTr
      have Hoe := Lib.hid hoe
      have Hstep := Lib.hid hstep
      have hE0 := Lib.hid (hE5.trans hE)
      obtain ⟨wo, hwo⟩ : ∃ wo, wo = wr := ⟨_, rfl⟩
      subst hwo
      have hlt' : (k : Int) < (n : Int) := by omega
      have hps := path_size hoe
      clear q0 q1 q2 hcell hx hoe hstep hT hTm hTr hrd hn2
      go_upto_region 8 with (fail)
      go_loopw [7, 8, 9] (fun v7 v8 v9 wr => LfRel T e n2 wo v7 v8 v9 wr) (fun _ _ v9 _ => n2 - (intOf v9).toNat)
      case atStart => exact ⟨0, false, rfl, rfl, Nat.zero_le _, Lib.hid (by simp [dirF]), World.ownsRow_nil _ _ _ _, Ext.refl _⟩
      case round =>
        obtain ⟨j, d, rfl, rfl, hjn, hd, hrow, hEj⟩ := hrel
        by_cases hlt2 : j < n2
        · have hjh : j < T.length := by have := Hn2.out; omega
          obtain ⟨bt, ot, rfl, hcell5⟩ := Hcell5.out (List.ne_nil_of_length_pos (by omega))
          obtain ⟨p0, p1, p2, hfx⟩ := hcell5 j hjh
          obtain ⟨x, hx⟩ : ∃ x, T[j]'hjh = x := ⟨_, rfl⟩
          rw [hx] at p0 p1 p2 hfx
          have g0 := hEj.cell p0
          have g1 := hEj.cell p1
          have g2 := hEj.cell p2
          have hxm := HTm.out x (by rw [← hx]; exact List.getElem_mem hjh)
          have hxk1 := entOk_kind hxm.1
          obtain ⟨xs', xz, hxn, n1, n2', n3, n4, n5⟩ := ent_names hxm.1
          obtain ⟨es', ez, hen, m1, m2, m3, m4, m5⟩ := ent_names Hoe.out
          have hun : underB x.path e.path = Lib.hasPrefix x.path.data.toList (e.path.data.toList ++ [47]) := under_pre hxn hen (by simp)
          have HU0 : ∀ W, Calls Tryz.prog 176 #[.string x.path, .string e.path] W fun e' w' => e' = .returned (.bool (underB x.path e.path)) ∧ Ext W w' := fun W => (RUnder_any x.path e.path W hfx.1 (by omega)).mono fun e' w' ⟨h1, h2⟩ => ⟨by rw [h1, hun], by rw [h2]; exact Ext.refl _⟩
          have hhe := path_eqR x.path e.path
          have hln := left_succ (e := e) hjh hx
          have hdn := dir_succ (e := e) hjh hx
          have hgb : goesB e x = if e.kind = 2 then decide (x.path = e.path) && decide (x.kind = 1) else decide (x.path = e.path) || underB x.path e.path := rfl
          have hxk12 : decide (x.kind = 1) = !(x.kind == 2) := by
            rw [Bool.eq_iff_iff]
            simp
            omega
          rw [hxk12] at hgb
          obtain ⟨m, hm⟩ : ∃ m, (leftF T e j).length = m := ⟨_, rfl⟩
          have hml : m ≤ 1024 := by
            rw [← hm, leftF]
            exact Nat.le_trans (List.length_filter_le _ _) (by rw [List.length_take]; have := Hn2.out; omega)
          rw [hm] at hrow
          have Hm := Lib.hid hm
          have Hrow := Lib.hid hrow
          obtain ⟨A7, c7, rfl⟩ := own_form hrow
          clear p0 p1 p2 hcell5 hfx hxm hxk1 hxn n1 n2' n3 n4 n5 hen m1 m2 m3 m4 m5 hun hxk12 hm hrow hx
          obtain ⟨un, hune⟩ : ∃ un, underB x.path e.path = un := ⟨_, rfl⟩
          have HU := HU0
          rw [hune] at HU hgb
          obtain ⟨he, hhe2⟩ : ∃ he, decide (x.path = e.path) = he := ⟨_, rfl⟩
          rw [hhe2] at hhe hgb
          obtain ⟨xk, hxk⟩ : ∃ xk, (x.kind == 2) = xk := ⟨_, rfl⟩
          rw [hxk] at hgb
          clear HU0 hune
          rcases hek : (e.kind == 2) with _ | _
          · have hek2 : (e.kind != 2) = true := by rw [bne, hek]; rfl
            rw [if_neg (by simpa using hek)] at hgb
            have hdf : d = false := by rw [hd.out, hek]; rfl
            subst hdf
            rcases he with _ | _
            · rcases un with _ | _
              · have hgo : goesB e x = false := hgb
                clear hgb
                rcases xk with _ | _
                · have Hnx : Hid (false = ((e.kind == 2) && dirF T e (j + 1)) ∧ leftF T e (j + 1) = leftF T e j ++ [x]) := Lib.hid ⟨by rw [hek]; rfl, by rw [hln, hgo]; simp⟩
                  clear hgo hdn hln hhe2 hd
                  go_upto_region 11 with (fail)
                  have hX := Blk.new wr 33 #[.string x.path, .int .i64 x.kind, .string x.data]
                  have hEx : Ext wr (wr.alloc (.cells #[.string x.path, .int .i64 x.kind, .string x.data] 33)) := (Ext.refl wr).alloc _
                  obtain ⟨xb, hxb⟩ : ∃ xb, wr.heap.size = xb := ⟨_, rfl⟩
                  rw [hxb] at hX
                  rw [hxb]
                  clear hxb g0 g1 g2
                  generalize wr.alloc (.cells #[.string x.path, .int .i64 x.kind, .string x.data] 33) = W10 at hX hEx ⊢
                  have hE10 : Ext wo W10 := hEj.trans hEx
                  obtain ⟨⟨x0, _⟩, ⟨x1, _⟩, ⟨x2, _⟩⟩ := hX.three
                  obtain ⟨e0, e1, e2⟩ := Hq.out W10 (hE0.out.trans hE10)
                  go_quiet (fail)
                  obtain ⟨W11, hW11⟩ : ∃ W11, W10.drewN nq = W11 := ⟨_, rfl⟩
                  try rw [hW11]
                  have hE1011 : Ext W10 W11 := by rw [← hW11]; exact (Ext.refl W10).drewN _
                  have hE11 : Ext wo W11 := hE10.trans hE1011
                  clear hW11 x0 x1 x2 e0 e1 e2
                  obtain ⟨⟨x0, _⟩, ⟨x1, _⟩, ⟨x2, _⟩⟩ := (hX.ext hE1011).three
                  obtain ⟨e0, e1, e2⟩ := Hq.out W11 (hE0.out.trans hE11)
                  have x0' := fun d os => cell_regrown x0 d os
                  have x1' := fun d os => cell_regrown x1 d os
                  have e0' := fun d os => cell_regrown e0 d os
                  have e1' := fun d os => cell_regrown e1 d os
                  go_upto_region 14 with (fail)
                  (refine wp_region_quiet_below (by kernel_rfl) (by kernel_rfl) ?_; (repeat (go_big_quiet_step ((go_at_call 176; exact Calls.regrown_of (HU _))))); refine wpQuiet_nil ?_; intro _ hq; obtain ⟨⟨dq, osq⟩, hq2⟩ := hq; subst hq2)
                  have hE14 := below_regrown W11 dq osq
                  obtain ⟨W14, hW14⟩ : ∃ W14, Sort.grow (redrawn W11 dq) osq = W14 := ⟨_, rfl⟩
                  rw [hW14] at hE14
                  try rw [hW14]
                  have hE1114 : Ext W11 W14 := hE14
                  have hE14' : Ext wo W14 := hE11.trans hE1114
                  have hrow14 := Lib.hid (own_ext Hrow.out (hEx.trans (hE1011.trans hE1114)))
                  have hs14 := hE14'.size
                  clear hW14 x0' x1' e0' e1' x0 x1 x2 e0 e1 e2
                  obtain ⟨⟨x0, _⟩, ⟨x1, _⟩, ⟨x2, _⟩⟩ := (hX.ext (hE1011.trans hE1114)).three
                  go_wp2_with (at_builtin; refine wpList_append_own _ rfl _ _ 34 rfl wo.heap.size 33 i0 (.agg #[.string ⟨#[]⟩, .int .i64 0, .string ⟨#[]⟩]) 3 40 Tryz.underlying34 hi hz0 hz1 hz2 rfl (by decide) _ _ _ rfl (hrow14.out.alloc _) ⟨W14.heap.size, 0, none⟩ 1 1 [.string x.path, .int .i64 x.kind, .string x.data] rfl rfl (World.news_of_block (cs := #[.string x.path, .int .i64 x.kind, .string x.data]) (t := 33) (fr := (0, 0)) (Blk.new W14 _ _)) (by simp [Value.oneCell']) (by unfold maxLen; omega) (by omega) (by rw [World.size_alloc]; omega) ?_; intro v9 W9 hown9 hgrow9 hnil9)
                  exact lf_next hlt2 Hnx.out.1 Hnx.out.2 (row_put Hm.out hown9) (Ext.grown (hE14'.alloc _) hgrow9 (fun j hj => (hrow14.out.lt j hj).1))
                · have Hnx : Hid (false = ((e.kind == 2) && dirF T e (j + 1)) ∧ leftF T e (j + 1) = leftF T e j ++ [x]) := Lib.hid ⟨by rw [hek]; rfl, by rw [hln, hgo]; simp⟩
                  clear hgo hdn hln hhe2 hd
                  go_upto_region 11 with (fail)
                  have hX := Blk.new wr 33 #[.string x.path, .int .i64 x.kind, .string x.data]
                  have hEx : Ext wr (wr.alloc (.cells #[.string x.path, .int .i64 x.kind, .string x.data] 33)) := (Ext.refl wr).alloc _
                  obtain ⟨xb, hxb⟩ : ∃ xb, wr.heap.size = xb := ⟨_, rfl⟩
                  rw [hxb] at hX
                  rw [hxb]
                  clear hxb g0 g1 g2
                  generalize wr.alloc (.cells #[.string x.path, .int .i64 x.kind, .string x.data] 33) = W10 at hX hEx ⊢
                  have hE10 : Ext wo W10 := hEj.trans hEx
                  obtain ⟨⟨x0, _⟩, ⟨x1, _⟩, ⟨x2, _⟩⟩ := hX.three
                  obtain ⟨e0, e1, e2⟩ := Hq.out W10 (hE0.out.trans hE10)
                  go_quiet (fail)
                  obtain ⟨W11, hW11⟩ : ∃ W11, W10.drewN nq = W11 := ⟨_, rfl⟩
                  try rw [hW11]
                  have hE1011 : Ext W10 W11 := by rw [← hW11]; exact (Ext.refl W10).drewN _
                  have hE11 : Ext wo W11 := hE10.trans hE1011
                  clear hW11 x0 x1 x2 e0 e1 e2
                  obtain ⟨⟨x0, _⟩, ⟨x1, _⟩, ⟨x2, _⟩⟩ := (hX.ext hE1011).three
                  obtain ⟨e0, e1, e2⟩ := Hq.out W11 (hE0.out.trans hE11)
                  have x0' := fun d os => cell_regrown x0 d os
                  have x1' := fun d os => cell_regrown x1 d os
                  have e0' := fun d os => cell_regrown e0 d os
                  have e1' := fun d os => cell_regrown e1 d os
                  go_upto_region 14 with (fail)
                  (refine wp_region_quiet_below (by kernel_rfl) (by kernel_rfl) ?_; (repeat (go_big_quiet_step ((go_at_call 176; exact Calls.regrown_of (HU _))))); refine wpQuiet_nil ?_; intro _ hq; obtain ⟨⟨dq, osq⟩, hq2⟩ := hq; subst hq2)
                  have hE14 := below_regrown W11 dq osq
                  obtain ⟨W14, hW14⟩ : ∃ W14, Sort.grow (redrawn W11 dq) osq = W14 := ⟨_, rfl⟩
                  rw [hW14] at hE14
                  try rw [hW14]
                  have hE1114 : Ext W11 W14 := hE14
                  have hE14' : Ext wo W14 := hE11.trans hE1114
                  have hrow14 := Lib.hid (own_ext Hrow.out (hEx.trans (hE1011.trans hE1114)))
                  have hs14 := hE14'.size
                  clear hW14 x0' x1' e0' e1' x0 x1 x2 e0 e1 e2
                  obtain ⟨⟨x0, _⟩, ⟨x1, _⟩, ⟨x2, _⟩⟩ := (hX.ext (hE1011.trans hE1114)).three
                  go_wp2_with (at_builtin; refine wpList_append_own _ rfl _ _ 34 rfl wo.heap.size 33 i0 (.agg #[.string ⟨#[]⟩, .int .i64 0, .string ⟨#[]⟩]) 3 40 Tryz.underlying34 hi hz0 hz1 hz2 rfl (by decide) _ _ _ rfl (hrow14.out.alloc _) ⟨W14.heap.size, 0, none⟩ 1 1 [.string x.path, .int .i64 x.kind, .string x.data] rfl rfl (World.news_of_block (cs := #[.string x.path, .int .i64 x.kind, .string x.data]) (t := 33) (fr := (0, 0)) (Blk.new W14 _ _)) (by simp [Value.oneCell']) (by unfold maxLen; omega) (by omega) (by rw [World.size_alloc]; omega) ?_; intro v9 W9 hown9 hgrow9 hnil9)
                  exact lf_next hlt2 Hnx.out.1 Hnx.out.2 (row_put Hm.out hown9) (Ext.grown (hE14'.alloc _) hgrow9 (fun j hj => (hrow14.out.lt j hj).1))
              · have hgo : goesB e x = true := hgb
                clear hgb
                rcases xk with _ | _
                · have Hnx : Hid (false = ((e.kind == 2) && dirF T e (j + 1)) ∧ leftF T e (j + 1) = leftF T e j) := Lib.hid ⟨by rw [hek]; rfl, by rw [hln, hgo]; simp⟩
                  clear hgo hdn hln hhe2 hd
                  go_upto_region 11 with (fail)
                  have hX := Blk.new wr 33 #[.string x.path, .int .i64 x.kind, .string x.data]
                  have hEx : Ext wr (wr.alloc (.cells #[.string x.path, .int .i64 x.kind, .string x.data] 33)) := (Ext.refl wr).alloc _
                  obtain ⟨xb, hxb⟩ : ∃ xb, wr.heap.size = xb := ⟨_, rfl⟩
                  rw [hxb] at hX
                  rw [hxb]
                  clear hxb g0 g1 g2
                  generalize wr.alloc (.cells #[.string x.path, .int .i64 x.kind, .string x.data] 33) = W10 at hX hEx ⊢
                  have hE10 : Ext wo W10 := hEj.trans hEx
                  obtain ⟨⟨x0, _⟩, ⟨x1, _⟩, ⟨x2, _⟩⟩ := hX.three
                  obtain ⟨e0, e1, e2⟩ := Hq.out W10 (hE0.out.trans hE10)
                  go_quiet (fail)
                  obtain ⟨W11, hW11⟩ : ∃ W11, W10.drewN nq = W11 := ⟨_, rfl⟩
                  try rw [hW11]
                  have hE1011 : Ext W10 W11 := by rw [← hW11]; exact (Ext.refl W10).drewN _
                  have hE11 : Ext wo W11 := hE10.trans hE1011
                  clear hW11 x0 x1 x2 e0 e1 e2
                  obtain ⟨⟨x0, _⟩, ⟨x1, _⟩, ⟨x2, _⟩⟩ := (hX.ext hE1011).three
                  obtain ⟨e0, e1, e2⟩ := Hq.out W11 (hE0.out.trans hE11)
                  have x0' := fun d os => cell_regrown x0 d os
                  have x1' := fun d os => cell_regrown x1 d os
                  have e0' := fun d os => cell_regrown e0 d os
                  have e1' := fun d os => cell_regrown e1 d os
                  go_upto_region 14 with (fail)
                  (refine wp_region_quiet_below (by kernel_rfl) (by kernel_rfl) ?_; (repeat (go_big_quiet_step ((go_at_call 176; exact Calls.regrown_of (HU _))))); refine wpQuiet_nil ?_; intro _ hq; obtain ⟨⟨dq, osq⟩, hq2⟩ := hq; subst hq2)
                  have hE14 := below_regrown W11 dq osq
                  obtain ⟨W14, hW14⟩ : ∃ W14, Sort.grow (redrawn W11 dq) osq = W14 := ⟨_, rfl⟩
                  rw [hW14] at hE14
                  try rw [hW14]
                  have hE1114 : Ext W11 W14 := hE14
                  have hE14' : Ext wo W14 := hE11.trans hE1114
                  have hrow14 := Lib.hid (own_ext Hrow.out (hEx.trans (hE1011.trans hE1114)))
                  have hs14 := hE14'.size
                  clear hW14 x0' x1' e0' e1' x0 x1 x2 e0 e1 e2
                  obtain ⟨⟨x0, _⟩, ⟨x1, _⟩, ⟨x2, _⟩⟩ := (hX.ext (hE1011.trans hE1114)).three
                  go_wp2
                  exact lf_next hlt2 Hnx.out.1 Hnx.out.2 (by rw [Hm.out]; exact hrow14.out) hE14'
                · have Hnx : Hid (false = ((e.kind == 2) && dirF T e (j + 1)) ∧ leftF T e (j + 1) = leftF T e j) := Lib.hid ⟨by rw [hek]; rfl, by rw [hln, hgo]; simp⟩
                  clear hgo hdn hln hhe2 hd
                  go_upto_region 11 with (fail)
                  have hX := Blk.new wr 33 #[.string x.path, .int .i64 x.kind, .string x.data]
                  have hEx : Ext wr (wr.alloc (.cells #[.string x.path, .int .i64 x.kind, .string x.data] 33)) := (Ext.refl wr).alloc _
                  obtain ⟨xb, hxb⟩ : ∃ xb, wr.heap.size = xb := ⟨_, rfl⟩
                  rw [hxb] at hX
                  rw [hxb]
                  clear hxb g0 g1 g2
                  generalize wr.alloc (.cells #[.string x.path, .int .i64 x.kind, .string x.data] 33) = W10 at hX hEx ⊢
                  have hE10 : Ext wo W10 := hEj.trans hEx
                  obtain ⟨⟨x0, _⟩, ⟨x1, _⟩, ⟨x2, _⟩⟩ := hX.three
                  obtain ⟨e0, e1, e2⟩ := Hq.out W10 (hE0.out.trans hE10)
                  go_quiet (fail)
                  obtain ⟨W11, hW11⟩ : ∃ W11, W10.drewN nq = W11 := ⟨_, rfl⟩
                  try rw [hW11]
                  have hE1011 : Ext W10 W11 := by rw [← hW11]; exact (Ext.refl W10).drewN _
                  have hE11 : Ext wo W11 := hE10.trans hE1011
                  clear hW11 x0 x1 x2 e0 e1 e2
                  obtain ⟨⟨x0, _⟩, ⟨x1, _⟩, ⟨x2, _⟩⟩ := (hX.ext hE1011).three
                  obtain ⟨e0, e1, e2⟩ := Hq.out W11 (hE0.out.trans hE11)
                  have x0' := fun d os => cell_regrown x0 d os
                  have x1' := fun d os => cell_regrown x1 d os
                  have e0' := fun d os => cell_regrown e0 d os
                  have e1' := fun d os => cell_regrown e1 d os
                  go_upto_region 14 with (fail)
                  (refine wp_region_quiet_below (by kernel_rfl) (by kernel_rfl) ?_; (repeat (go_big_quiet_step ((go_at_call 176; exact Calls.regrown_of (HU _))))); refine wpQuiet_nil ?_; intro _ hq; obtain ⟨⟨dq, osq⟩, hq2⟩ := hq; subst hq2)
                  have hE14 := below_regrown W11 dq osq
                  obtain ⟨W14, hW14⟩ : ∃ W14, Sort.grow (redrawn W11 dq) osq = W14 := ⟨_, rfl⟩
                  rw [hW14] at hE14
                  try rw [hW14]
                  have hE1114 : Ext W11 W14 := hE14
                  have hE14' : Ext wo W14 := hE11.trans hE1114
                  have hrow14 := Lib.hid (own_ext Hrow.out (hEx.trans (hE1011.trans hE1114)))
                  have hs14 := hE14'.size
                  clear hW14 x0' x1' e0' e1' x0 x1 x2 e0 e1 e2
                  obtain ⟨⟨x0, _⟩, ⟨x1, _⟩, ⟨x2, _⟩⟩ := (hX.ext (hE1011.trans hE1114)).three
                  go_wp2
                  exact lf_next hlt2 Hnx.out.1 Hnx.out.2 (by rw [Hm.out]; exact hrow14.out) hE14'
            · have hgo : goesB e x = true := hgb
              clear hgb
              rcases xk with _ | _
              · have Hnx : Hid (false = ((e.kind == 2) && dirF T e (j + 1)) ∧ leftF T e (j + 1) = leftF T e j) := Lib.hid ⟨by rw [hek]; rfl, by rw [hln, hgo]; simp⟩
                clear hgo hdn hln hhe2 hd
                go_upto_region 11 with (fail)
                have hX := Blk.new wr 33 #[.string x.path, .int .i64 x.kind, .string x.data]
                have hEx : Ext wr (wr.alloc (.cells #[.string x.path, .int .i64 x.kind, .string x.data] 33)) := (Ext.refl wr).alloc _
                obtain ⟨xb, hxb⟩ : ∃ xb, wr.heap.size = xb := ⟨_, rfl⟩
                rw [hxb] at hX
                rw [hxb]
                clear hxb g0 g1 g2
                generalize wr.alloc (.cells #[.string x.path, .int .i64 x.kind, .string x.data] 33) = W10 at hX hEx ⊢
                have hE10 : Ext wo W10 := hEj.trans hEx
                obtain ⟨⟨x0, _⟩, ⟨x1, _⟩, ⟨x2, _⟩⟩ := hX.three
                obtain ⟨e0, e1, e2⟩ := Hq.out W10 (hE0.out.trans hE10)
                go_quiet (fail)
                obtain ⟨W11, hW11⟩ : ∃ W11, W10.drewN nq = W11 := ⟨_, rfl⟩
                try rw [hW11]
                have hE1011 : Ext W10 W11 := by rw [← hW11]; exact (Ext.refl W10).drewN _
                have hE11 : Ext wo W11 := hE10.trans hE1011
                clear hW11 x0 x1 x2 e0 e1 e2
                obtain ⟨⟨x0, _⟩, ⟨x1, _⟩, ⟨x2, _⟩⟩ := (hX.ext hE1011).three
                obtain ⟨e0, e1, e2⟩ := Hq.out W11 (hE0.out.trans hE11)
                have x0' := fun d os => cell_regrown x0 d os
                have x1' := fun d os => cell_regrown x1 d os
                have e0' := fun d os => cell_regrown e0 d os
                have e1' := fun d os => cell_regrown e1 d os
                go_upto_region 14 with (fail)
                (refine wp_region_quiet_below (by kernel_rfl) (by kernel_rfl) ?_; (repeat (go_big_quiet_step ((go_at_call 176; exact Calls.regrown_of (HU _))))); refine wpQuiet_nil ?_; intro _ hq; obtain ⟨⟨dq, osq⟩, hq2⟩ := hq; subst hq2)
                have hE14 := below_regrown W11 dq osq
                obtain ⟨W14, hW14⟩ : ∃ W14, Sort.grow (redrawn W11 dq) osq = W14 := ⟨_, rfl⟩
                rw [hW14] at hE14
                try rw [hW14]
                have hE1114 : Ext W11 W14 := hE14
                have hE14' : Ext wo W14 := hE11.trans hE1114
                have hrow14 := Lib.hid (own_ext Hrow.out (hEx.trans (hE1011.trans hE1114)))
                have hs14 := hE14'.size
                clear hW14 x0' x1' e0' e1' x0 x1 x2 e0 e1 e2
                obtain ⟨⟨x0, _⟩, ⟨x1, _⟩, ⟨x2, _⟩⟩ := (hX.ext (hE1011.trans hE1114)).three
                go_wp2
                exact lf_next hlt2 Hnx.out.1 Hnx.out.2 (by rw [Hm.out]; exact hrow14.out) hE14'
              · have Hnx : Hid (false = ((e.kind == 2) && dirF T e (j + 1)) ∧ leftF T e (j + 1) = leftF T e j) := Lib.hid ⟨by rw [hek]; rfl, by rw [hln, hgo]; simp⟩
                clear hgo hdn hln hhe2 hd
                go_upto_region 11 with (fail)
                have hX := Blk.new wr 33 #[.string x.path, .int .i64 x.kind, .string x.data]
                have hEx : Ext wr (wr.alloc (.cells #[.string x.path, .int .i64 x.kind, .string x.data] 33)) := (Ext.refl wr).alloc _
                obtain ⟨xb, hxb⟩ : ∃ xb, wr.heap.size = xb := ⟨_, rfl⟩
                rw [hxb] at hX
                rw [hxb]
                clear hxb g0 g1 g2
                generalize wr.alloc (.cells #[.string x.path, .int .i64 x.kind, .string x.data] 33) = W10 at hX hEx ⊢
                have hE10 : Ext wo W10 := hEj.trans hEx
                obtain ⟨⟨x0, _⟩, ⟨x1, _⟩, ⟨x2, _⟩⟩ := hX.three
                obtain ⟨e0, e1, e2⟩ := Hq.out W10 (hE0.out.trans hE10)
                go_quiet (fail)
                obtain ⟨W11, hW11⟩ : ∃ W11, W10.drewN nq = W11 := ⟨_, rfl⟩
                try rw [hW11]
                have hE1011 : Ext W10 W11 := by rw [← hW11]; exact (Ext.refl W10).drewN _
                have hE11 : Ext wo W11 := hE10.trans hE1011
                clear hW11 x0 x1 x2 e0 e1 e2
                obtain ⟨⟨x0, _⟩, ⟨x1, _⟩, ⟨x2, _⟩⟩ := (hX.ext hE1011).three
                obtain ⟨e0, e1, e2⟩ := Hq.out W11 (hE0.out.trans hE11)
                have x0' := fun d os => cell_regrown x0 d os
                have x1' := fun d os => cell_regrown x1 d os
                have e0' := fun d os => cell_regrown e0 d os
                have e1' := fun d os => cell_regrown e1 d os
                go_upto_region 14 with (fail)
                (refine wp_region_quiet_below (by kernel_rfl) (by kernel_rfl) ?_; (repeat (go_big_quiet_step ((go_at_call 176; exact Calls.regrown_of (HU _))))); refine wpQuiet_nil ?_; intro _ hq; obtain ⟨⟨dq, osq⟩, hq2⟩ := hq; subst hq2)
                have hE14 := below_regrown W11 dq osq
                obtain ⟨W14, hW14⟩ : ∃ W14, Sort.grow (redrawn W11 dq) osq = W14 := ⟨_, rfl⟩
                rw [hW14] at hE14
                try rw [hW14]
                have hE1114 : Ext W11 W14 := hE14
                have hE14' : Ext wo W14 := hE11.trans hE1114
                have hrow14 := Lib.hid (own_ext Hrow.out (hEx.trans (hE1011.trans hE1114)))
                have hs14 := hE14'.size
                clear hW14 x0' x1' e0' e1' x0 x1 x2 e0 e1 e2
                obtain ⟨⟨x0, _⟩, ⟨x1, _⟩, ⟨x2, _⟩⟩ := (hX.ext (hE1011.trans hE1114)).three
                go_wp2
                exact lf_next hlt2 Hnx.out.1 Hnx.out.2 (by rw [Hm.out]; exact hrow14.out) hE14'
          · have hek2 : (e.kind != 2) = false := by rw [bne, hek]; rfl
            have Hdj : Hid (d = dirF T e j) := Lib.hid (by rw [hd.out, hek]; rfl)
            rw [if_pos (by simpa using hek)] at hgb
            rcases he with _ | _
            · have hgo : goesB e x = false := hgb
              clear hgb
              rcases xk with _ | _
              · have Hnx : Hid (d = ((e.kind == 2) && dirF T e (j + 1)) ∧ leftF T e (j + 1) = leftF T e j ++ [x]) := Lib.hid ⟨by rw [hdn, hhe2, hxk, hek, ← Hdj.out]; simp, by rw [hln, hgo]; simp⟩
                clear hgo hdn hln hhe2 hd
                go_upto_region 11 with (fail)
                have hX := Blk.new wr 33 #[.string x.path, .int .i64 x.kind, .string x.data]
                have hEx : Ext wr (wr.alloc (.cells #[.string x.path, .int .i64 x.kind, .string x.data] 33)) := (Ext.refl wr).alloc _
                obtain ⟨xb, hxb⟩ : ∃ xb, wr.heap.size = xb := ⟨_, rfl⟩
                rw [hxb] at hX
                rw [hxb]
                clear hxb g0 g1 g2
                generalize wr.alloc (.cells #[.string x.path, .int .i64 x.kind, .string x.data] 33) = W10 at hX hEx ⊢
                have hE10 : Ext wo W10 := hEj.trans hEx
                obtain ⟨⟨x0, _⟩, ⟨x1, _⟩, ⟨x2, _⟩⟩ := hX.three
                obtain ⟨e0, e1, e2⟩ := Hq.out W10 (hE0.out.trans hE10)
                go_quiet (fail)
                obtain ⟨W11, hW11⟩ : ∃ W11, W10.drewN nq = W11 := ⟨_, rfl⟩
                try rw [hW11]
                have hE1011 : Ext W10 W11 := by rw [← hW11]; exact (Ext.refl W10).drewN _
                have hE11 : Ext wo W11 := hE10.trans hE1011
                clear hW11 x0 x1 x2 e0 e1 e2
                obtain ⟨⟨x0, _⟩, ⟨x1, _⟩, ⟨x2, _⟩⟩ := (hX.ext hE1011).three
                obtain ⟨e0, e1, e2⟩ := Hq.out W11 (hE0.out.trans hE11)
                have x0' := fun d os => cell_regrown x0 d os
                have x1' := fun d os => cell_regrown x1 d os
                have e0' := fun d os => cell_regrown e0 d os
                have e1' := fun d os => cell_regrown e1 d os
                go_upto_region 14 with (fail)
                (refine wp_region_quiet_below (by kernel_rfl) (by kernel_rfl) ?_; (repeat (go_big_quiet_step ((go_at_call 176; exact Calls.regrown_of (HU _))))); refine wpQuiet_nil ?_; intro _ hq; obtain ⟨⟨dq, osq⟩, hq2⟩ := hq; subst hq2)
                have hE14 := below_regrown W11 dq osq
                obtain ⟨W14, hW14⟩ : ∃ W14, Sort.grow (redrawn W11 dq) osq = W14 := ⟨_, rfl⟩
                rw [hW14] at hE14
                try rw [hW14]
                have hE1114 : Ext W11 W14 := hE14
                have hE14' : Ext wo W14 := hE11.trans hE1114
                have hrow14 := Lib.hid (own_ext Hrow.out (hEx.trans (hE1011.trans hE1114)))
                have hs14 := hE14'.size
                clear hW14 x0' x1' e0' e1' x0 x1 x2 e0 e1 e2
                obtain ⟨⟨x0, _⟩, ⟨x1, _⟩, ⟨x2, _⟩⟩ := (hX.ext (hE1011.trans hE1114)).three
                go_wp2_with (at_builtin; refine wpList_append_own _ rfl _ _ 34 rfl wo.heap.size 33 i0 (.agg #[.string ⟨#[]⟩, .int .i64 0, .string ⟨#[]⟩]) 3 40 Tryz.underlying34 hi hz0 hz1 hz2 rfl (by decide) _ _ _ rfl (hrow14.out.alloc _) ⟨W14.heap.size, 0, none⟩ 1 1 [.string x.path, .int .i64 x.kind, .string x.data] rfl rfl (World.news_of_block (cs := #[.string x.path, .int .i64 x.kind, .string x.data]) (t := 33) (fr := (0, 0)) (Blk.new W14 _ _)) (by simp [Value.oneCell']) (by unfold maxLen; omega) (by omega) (by rw [World.size_alloc]; omega) ?_; intro v9 W9 hown9 hgrow9 hnil9)
                exact lf_next hlt2 Hnx.out.1 Hnx.out.2 (row_put Hm.out hown9) (Ext.grown (hE14'.alloc _) hgrow9 (fun j hj => (hrow14.out.lt j hj).1))
              · have Hnx : Hid (d = ((e.kind == 2) && dirF T e (j + 1)) ∧ leftF T e (j + 1) = leftF T e j ++ [x]) := Lib.hid ⟨by rw [hdn, hhe2, hxk, hek, ← Hdj.out]; simp, by rw [hln, hgo]; simp⟩
                clear hgo hdn hln hhe2 hd
                go_upto_region 11 with (fail)
                have hX := Blk.new wr 33 #[.string x.path, .int .i64 x.kind, .string x.data]
                have hEx : Ext wr (wr.alloc (.cells #[.string x.path, .int .i64 x.kind, .string x.data] 33)) := (Ext.refl wr).alloc _
                obtain ⟨xb, hxb⟩ : ∃ xb, wr.heap.size = xb := ⟨_, rfl⟩
                rw [hxb] at hX
                rw [hxb]
                clear hxb g0 g1 g2
                generalize wr.alloc (.cells #[.string x.path, .int .i64 x.kind, .string x.data] 33) = W10 at hX hEx ⊢
                have hE10 : Ext wo W10 := hEj.trans hEx
                obtain ⟨⟨x0, _⟩, ⟨x1, _⟩, ⟨x2, _⟩⟩ := hX.three
                obtain ⟨e0, e1, e2⟩ := Hq.out W10 (hE0.out.trans hE10)
                go_quiet (fail)
                obtain ⟨W11, hW11⟩ : ∃ W11, W10.drewN nq = W11 := ⟨_, rfl⟩
                try rw [hW11]
                have hE1011 : Ext W10 W11 := by rw [← hW11]; exact (Ext.refl W10).drewN _
                have hE11 : Ext wo W11 := hE10.trans hE1011
                clear hW11 x0 x1 x2 e0 e1 e2
                obtain ⟨⟨x0, _⟩, ⟨x1, _⟩, ⟨x2, _⟩⟩ := (hX.ext hE1011).three
                obtain ⟨e0, e1, e2⟩ := Hq.out W11 (hE0.out.trans hE11)
                have x0' := fun d os => cell_regrown x0 d os
                have x1' := fun d os => cell_regrown x1 d os
                have e0' := fun d os => cell_regrown e0 d os
                have e1' := fun d os => cell_regrown e1 d os
                go_upto_region 14 with (fail)
                (refine wp_region_quiet_below (by kernel_rfl) (by kernel_rfl) ?_; (repeat (go_big_quiet_step ((go_at_call 176; exact Calls.regrown_of (HU _))))); refine wpQuiet_nil ?_; intro _ hq; obtain ⟨⟨dq, osq⟩, hq2⟩ := hq; subst hq2)
                have hE14 := below_regrown W11 dq osq
                obtain ⟨W14, hW14⟩ : ∃ W14, Sort.grow (redrawn W11 dq) osq = W14 := ⟨_, rfl⟩
                rw [hW14] at hE14
                try rw [hW14]
                have hE1114 : Ext W11 W14 := hE14
                have hE14' : Ext wo W14 := hE11.trans hE1114
                have hrow14 := Lib.hid (own_ext Hrow.out (hEx.trans (hE1011.trans hE1114)))
                have hs14 := hE14'.size
                clear hW14 x0' x1' e0' e1' x0 x1 x2 e0 e1 e2
                obtain ⟨⟨x0, _⟩, ⟨x1, _⟩, ⟨x2, _⟩⟩ := (hX.ext (hE1011.trans hE1114)).three
                go_wp2_with (at_builtin; refine wpList_append_own _ rfl _ _ 34 rfl wo.heap.size 33 i0 (.agg #[.string ⟨#[]⟩, .int .i64 0, .string ⟨#[]⟩]) 3 40 Tryz.underlying34 hi hz0 hz1 hz2 rfl (by decide) _ _ _ rfl (hrow14.out.alloc _) ⟨W14.heap.size, 0, none⟩ 1 1 [.string x.path, .int .i64 x.kind, .string x.data] rfl rfl (World.news_of_block (cs := #[.string x.path, .int .i64 x.kind, .string x.data]) (t := 33) (fr := (0, 0)) (Blk.new W14 _ _)) (by simp [Value.oneCell']) (by unfold maxLen; omega) (by omega) (by rw [World.size_alloc]; omega) ?_; intro v9 W9 hown9 hgrow9 hnil9)
                exact lf_next hlt2 Hnx.out.1 Hnx.out.2 (row_put Hm.out hown9) (Ext.grown (hE14'.alloc _) hgrow9 (fun j hj => (hrow14.out.lt j hj).1))
            · rcases xk with _ | _
              · have hgo : goesB e x = true := hgb
                clear hgb
                have Hnx : Hid (d = ((e.kind == 2) && dirF T e (j + 1)) ∧ leftF T e (j + 1) = leftF T e j) := Lib.hid ⟨by rw [hdn, hhe2, hxk, hek, ← Hdj.out]; simp, by rw [hln, hgo]; simp⟩
                clear hgo hdn hln hhe2 hd
                go_upto_region 11 with (fail)
                have hX := Blk.new wr 33 #[.string x.path, .int .i64 x.kind, .string x.data]
                have hEx : Ext wr (wr.alloc (.cells #[.string x.path, .int .i64 x.kind, .string x.data] 33)) := (Ext.refl wr).alloc _
                obtain ⟨xb, hxb⟩ : ∃ xb, wr.heap.size = xb := ⟨_, rfl⟩
                rw [hxb] at hX
                rw [hxb]
                clear hxb g0 g1 g2
                generalize wr.alloc (.cells #[.string x.path, .int .i64 x.kind, .string x.data] 33) = W10 at hX hEx ⊢
                have hE10 : Ext wo W10 := hEj.trans hEx
                obtain ⟨⟨x0, _⟩, ⟨x1, _⟩, ⟨x2, _⟩⟩ := hX.three
                obtain ⟨e0, e1, e2⟩ := Hq.out W10 (hE0.out.trans hE10)
                go_quiet (fail)
                obtain ⟨W11, hW11⟩ : ∃ W11, W10.drewN nq = W11 := ⟨_, rfl⟩
                try rw [hW11]
                have hE1011 : Ext W10 W11 := by rw [← hW11]; exact (Ext.refl W10).drewN _
                have hE11 : Ext wo W11 := hE10.trans hE1011
                clear hW11 x0 x1 x2 e0 e1 e2
                obtain ⟨⟨x0, _⟩, ⟨x1, _⟩, ⟨x2, _⟩⟩ := (hX.ext hE1011).three
                obtain ⟨e0, e1, e2⟩ := Hq.out W11 (hE0.out.trans hE11)
                have x0' := fun d os => cell_regrown x0 d os
                have x1' := fun d os => cell_regrown x1 d os
                have e0' := fun d os => cell_regrown e0 d os
                have e1' := fun d os => cell_regrown e1 d os
                go_upto_region 14 with (fail)
                (refine wp_region_quiet_below (by kernel_rfl) (by kernel_rfl) ?_; (repeat (go_big_quiet_step ((go_at_call 176; exact Calls.regrown_of (HU _))))); refine wpQuiet_nil ?_; intro _ hq; obtain ⟨⟨dq, osq⟩, hq2⟩ := hq; subst hq2)
                have hE14 := below_regrown W11 dq osq
                obtain ⟨W14, hW14⟩ : ∃ W14, Sort.grow (redrawn W11 dq) osq = W14 := ⟨_, rfl⟩
                rw [hW14] at hE14
                try rw [hW14]
                have hE1114 : Ext W11 W14 := hE14
                have hE14' : Ext wo W14 := hE11.trans hE1114
                have hrow14 := Lib.hid (own_ext Hrow.out (hEx.trans (hE1011.trans hE1114)))
                have hs14 := hE14'.size
                clear hW14 x0' x1' e0' e1' x0 x1 x2 e0 e1 e2
                obtain ⟨⟨x0, _⟩, ⟨x1, _⟩, ⟨x2, _⟩⟩ := (hX.ext (hE1011.trans hE1114)).three
                go_wp2
                exact lf_next hlt2 Hnx.out.1 Hnx.out.2 (by rw [Hm.out]; exact hrow14.out) hE14'
              · have hgo : goesB e x = false := hgb
                clear hgb
                have Hnx : Hid (true = ((e.kind == 2) && dirF T e (j + 1)) ∧ leftF T e (j + 1) = leftF T e j ++ [x]) := Lib.hid ⟨by rw [hdn, hhe2, hxk, hek, ← Hdj.out]; simp, by rw [hln, hgo]; simp⟩
                clear hgo hdn hln hhe2 hd
                go_upto_region 11 with (fail)
                have hX := Blk.new wr 33 #[.string x.path, .int .i64 x.kind, .string x.data]
                have hEx : Ext wr (wr.alloc (.cells #[.string x.path, .int .i64 x.kind, .string x.data] 33)) := (Ext.refl wr).alloc _
                obtain ⟨xb, hxb⟩ : ∃ xb, wr.heap.size = xb := ⟨_, rfl⟩
                rw [hxb] at hX
                rw [hxb]
                clear hxb g0 g1 g2
                generalize wr.alloc (.cells #[.string x.path, .int .i64 x.kind, .string x.data] 33) = W10 at hX hEx ⊢
                have hE10 : Ext wo W10 := hEj.trans hEx
                obtain ⟨⟨x0, _⟩, ⟨x1, _⟩, ⟨x2, _⟩⟩ := hX.three
                obtain ⟨e0, e1, e2⟩ := Hq.out W10 (hE0.out.trans hE10)
                go_quiet (fail)
                obtain ⟨W11, hW11⟩ : ∃ W11, W10.drewN nq = W11 := ⟨_, rfl⟩
                try rw [hW11]
                have hE1011 : Ext W10 W11 := by rw [← hW11]; exact (Ext.refl W10).drewN _
                have hE11 : Ext wo W11 := hE10.trans hE1011
                clear hW11 x0 x1 x2 e0 e1 e2
                obtain ⟨⟨x0, _⟩, ⟨x1, _⟩, ⟨x2, _⟩⟩ := (hX.ext hE1011).three
                obtain ⟨e0, e1, e2⟩ := Hq.out W11 (hE0.out.trans hE11)
                have x0' := fun d os => cell_regrown x0 d os
                have x1' := fun d os => cell_regrown x1 d os
                have e0' := fun d os => cell_regrown e0 d os
                have e1' := fun d os => cell_regrown e1 d os
                go_upto_region 14 with (fail)
                (refine wp_region_quiet_below (by kernel_rfl) (by kernel_rfl) ?_; (repeat (go_big_quiet_step ((go_at_call 176; exact Calls.regrown_of (HU _))))); refine wpQuiet_nil ?_; intro _ hq; obtain ⟨⟨dq, osq⟩, hq2⟩ := hq; subst hq2)
                have hE14 := below_regrown W11 dq osq
                obtain ⟨W14, hW14⟩ : ∃ W14, Sort.grow (redrawn W11 dq) osq = W14 := ⟨_, rfl⟩
                rw [hW14] at hE14
                try rw [hW14]
                have hE1114 : Ext W11 W14 := hE14
                have hE14' : Ext wo W14 := hE11.trans hE1114
                have hrow14 := Lib.hid (own_ext Hrow.out (hEx.trans (hE1011.trans hE1114)))
                have hs14 := hE14'.size
                clear hW14 x0' x1' e0' e1' x0 x1 x2 e0 e1 e2
                obtain ⟨⟨x0, _⟩, ⟨x1, _⟩, ⟨x2, _⟩⟩ := (hX.ext (hE1011.trans hE1114)).three
                go_wp2_with (at_builtin; refine wpList_append_own _ rfl _ _ 34 rfl wo.heap.size 33 i0 (.agg #[.string ⟨#[]⟩, .int .i64 0, .string ⟨#[]⟩]) 3 40 Tryz.underlying34 hi hz0 hz1 hz2 rfl (by decide) _ _ _ rfl (hrow14.out.alloc _) ⟨W14.heap.size, 0, none⟩ 1 1 [.string x.path, .int .i64 x.kind, .string x.data] rfl rfl (World.news_of_block (cs := #[.string x.path, .int .i64 x.kind, .string x.data]) (t := 33) (fr := (0, 0)) (Blk.new W14 _ _)) (by simp [Value.oneCell']) (by unfold maxLen; omega) (by omega) (by rw [World.size_alloc]; omega) ?_; intro v9 W9 hown9 hgrow9 hnil9)
                exact lf_next hlt2 Hnx.out.1 Hnx.out.2 (row_put Hm.out hown9) (Ext.grown (hE14'.alloc _) hgrow9 (fun j hj => (hrow14.out.lt j hj).1))
        · have hj2 : j = n2 := by omega
          have hend : leftF T e j = stayT T e ∧ dirF T e j = dirB T e := by
            rw [leftF, dirF, List.take_of_length_le (by have := Hn2.out; omega)]
            exact ⟨rfl, rfl⟩
          have hsl := stay_len T e
          have hrow' := hrow
          rw [hend.1] at hrow'
          have Hst := Lib.hid (RdE.of_own hrow' (by have := Hn2.out; omega) (fun y hy => entOk_fits (HTm.out y (List.mem_filter.1 hy).1).1))
          have hdb : d = ((e.kind == 2) && dirB T e) := by rw [hd.out, hend.2]
          obtain ⟨e0, e1, e2⟩ := Hq.out wr (hE0.out.trans hEj)
          obtain ⟨A7, c7, rfl⟩ := own_form hrow
          have Hfe := Lib.hid hfe
          have Hdb := Lib.hid hdb
          clear hrow hrow' hsl hdb hd hfe hj2
          have hk1 := entOk_kind Hoe.out
          by_cases hk2 : e.kind = 1
          · have k1 : (e.kind == 1) = true := by simpa using hk2
            have k2 : (e.kind == 2) = false := by rw [hk2]; rfl
            have k4 : (e.kind == 4) = false := by rw [hk2]; rfl
            have hk3 : True := trivial
            have hk4 : True := trivial
            have Hs2 : Hid (overT t (l.take (k + 1)) = insT (stayT T e) e) := Lib.hid (by rw [Hstep.out]; exact if_pos hk2)
            have HW := fun (v' : Value) (W : World) h => RWith_any v' (stayT T e) e W h (List.Pairwise.filter _ HTr.out) Hfe.out (by have := stay_len T e; have := Hn2.out; omega)
            clear hend hk1 hk2 hk3 hk4
            go_wp2_with (go_at_call 177; refine (HW _ _ Hst.out).mono ?_; rintro e' W9 ⟨v9, rfl, hr9, hE9⟩; obtain ⟨e0', e1', e2'⟩ := Hq.out W9 (hE0.out.trans (hEj.trans hE9)))
            exact rov_next hlt (by rw [Hs2.out]; exact hr9) (hE.trans (hEj.trans hE9))
          · have k1 : (e.kind == 1) = false := by simpa using hk2
            by_cases hk3 : e.kind = 2
            · have k2 : (e.kind == 2) = true := by simpa using hk3
              have hk4 : True := trivial
              rcases hdb2 : dirB T e with _ | _
              · have hdd : d = false := by rw [Hdb.out, hdb2, k2]; rfl
                subst hdd
                have Hdb2 := Lib.hid hdb2
                clear hdb2
                have Hs2 : Hid (overT t (l.take (k + 1)) = insT (stayT T e) ⟨e.path, 2, ⟨#[]⟩⟩) := Lib.hid (by rw [Hstep.out]; rw [if_neg hk2, if_pos (.inl ⟨hk3, Hdb2.out⟩)])
                have HW := fun (v' : Value) (W : World) h => RWith_any v' (stayT T e) ⟨e.path, 2, ⟨#[]⟩⟩ W h (List.Pairwise.filter _ HTr.out) ⟨Hfe.out.1, by show (⟨#[]⟩ : ByteArray).size ≤ _; decide⟩ (by have := stay_len T e; have := Hn2.out; omega)
                clear hend hk1 hk2 hk3 hk4
                go_wp2_with (go_at_call 177; refine (HW _ _ Hst.out).mono ?_; rintro e' W9 ⟨v9, rfl, hr9, hE9⟩; obtain ⟨e0', e1', e2'⟩ := Hq.out W9 (hE0.out.trans (hEj.trans hE9)))
                exact rov_next hlt (by rw [Hs2.out]; exact hr9) (hE.trans (hEj.trans hE9))
              · have hdd : d = true := by rw [Hdb.out, hdb2, k2]; rfl
                subst hdd
                have k4 : (e.kind == 4) = false := by rw [hk3]; rfl
                have Hdb2 := Lib.hid hdb2
                clear hdb2
                have Hs2 : Hid (overT t (l.take (k + 1)) = stayT T e) := Lib.hid (by rw [Hstep.out]; rw [if_neg hk2, if_neg (by rw [Hdb2.out]; simp; omega)])
                clear hend hk1 hk2 hk3 hk4
                go_wp2
                exact rov_next hlt (by rw [Hs2.out]; exact Hst.out) (hE.trans hEj)
            · have k2 : (e.kind == 2) = false := by simpa using hk3
              by_cases hk4 : e.kind = 4
              · have k4 : (e.kind == 4) = true := by simpa using hk4
                have Hs2 : Hid (overT t (l.take (k + 1)) = insT (stayT T e) ⟨e.path, 2, ⟨#[]⟩⟩) := Lib.hid (by rw [Hstep.out]; rw [if_neg hk2, if_pos (.inr hk4)])
                have HW := fun (v' : Value) (W : World) h => RWith_any v' (stayT T e) ⟨e.path, 2, ⟨#[]⟩⟩ W h (List.Pairwise.filter _ HTr.out) ⟨Hfe.out.1, by show (⟨#[]⟩ : ByteArray).size ≤ _; decide⟩ (by have := stay_len T e; have := Hn2.out; omega)
                clear hend hk1 hk2 hk3 hk4
                go_wp2_with (go_at_call 177; refine (HW _ _ Hst.out).mono ?_; rintro e' W9 ⟨v9, rfl, hr9, hE9⟩; obtain ⟨e0', e1', e2'⟩ := Hq.out W9 (hE0.out.trans (hEj.trans hE9)))
                exact rov_next hlt (by rw [Hs2.out]; exact hr9) (hE.trans (hEj.trans hE9))
              · have k4 : (e.kind == 4) = false := by simpa using hk4
                have Hs2 : Hid (overT t (l.take (k + 1)) = stayT T e) := Lib.hid (by rw [Hstep.out]; rw [if_neg hk2, if_neg (by simp [hk3, hk4])])
                clear hend hk1 hk2 hk3 hk4
                go_wp2
                exact rov_next hlt (by rw [Hs2.out]; exact Hst.out) (hE.trans hEj)
    · have hkn' : k = n := by omega
      have hfin : RdE wr u5 (overT t l) := by
        have := hrd.out
        rwa [List.take_of_length_le (by have := Hn.out; omega)] at this
      have Hfin := Lib.hid hfin
      clear hfin hrd
      go_wp2
      go_ret
      exact ⟨_, rfl, Hfin.out, hE5.trans hE⟩
end Go.Proofs.YtknfaabhlcdeoaaGreatDoor
