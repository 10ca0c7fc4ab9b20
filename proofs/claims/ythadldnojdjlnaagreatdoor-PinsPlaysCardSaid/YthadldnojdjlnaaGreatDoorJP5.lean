/- Joined: The document's Over and Stack; The document's Stack, Kind, Data and At: what a stack shows at a path; Helpers of PinsPlays: what Open answers beside the document's At; Helpers of PinsPlays: what lies behind an element of a row -/
import Derived.Test.YthadldnojdjlnaaGreatDoorJP4
import Derived.Test.YthadldnojdjlnaaGreatDoorJP2
import Derived.Deep.RegionLaw
import Derived.Test.YthadldnojdjlnaaGreatDoorWLast
/-! ROver -/
namespace Go.Proofs.YthadldnojdjlnaaGreatDoor
open Go Go.RowKit Go.Shelf Go.Proofs

/-- Whether a directory stands at the entry's path. -/
def dirB (t : List Ent) (e : Ent) : Bool := t.any fun x => decide (x.path = e.path) && (x.kind == 2)

theorem one_ref {t : List Ent} {e : Ent} (hr : Rising t) (hm : MemT t) (he : entOk e = true) :
    oneT t e = if e.kind = 1 then insT (stayT t e) e else if (e.kind = 2 ∧ dirB t e = false) ∨ e.kind = 4 then insT (stayT t e) ⟨e.path, 2, ⟨#[]⟩⟩ else stayT t e := by
  have hk := entOk_kind he
  show (if e.kind = 3 then stayT t e else insT (stayT t e) (if e.kind = 4 then ⟨e.path, 2, e.data⟩ else e)) = _
  by_cases h3 : e.kind = 3
  · rw [if_pos h3, if_neg (by omega), if_neg (by omega)]
  · rw [if_neg h3]
    by_cases h1 : e.kind = 1
    · rw [if_pos h1, if_neg (by omega)]
    · obtain ⟨_, hd⟩ := resE_dir he h3 h1
      rw [if_neg h1]
      by_cases h4 : e.kind = 4
      · rw [if_pos h4, if_pos (.inr h4), hd]
      · have h2 : e.kind = 2 := by omega
        have hee : e = ⟨e.path, 2, ⟨#[]⟩⟩ := by
          cases e
          simp at h2 hd ⊢
          exact ⟨h2, hd⟩
        rw [if_neg h4]
        rcases hdb : dirB t e with _ | _
        · rw [if_pos (.inl ⟨h2, rfl⟩), ← hee]
        · rw [if_neg (by simp [h4])]
          rw [dirB, List.any_eq_true] at hdb
          obtain ⟨x, hx, h5⟩ := hdb
          rw [Bool.and_eq_true, decide_eq_true_eq, beq_iff_eq] at h5
          have hxe : x = e := by
            have h6 := (hm x hx).1
            obtain ⟨_, h7⟩ := resE_dir h6 (by omega) (by omega)
            rw [hee]
            cases x
            simp at h5 h7 ⊢
            exact ⟨h5.1, h5.2, h7⟩
          have hin : e ∈ stayT t e := by
            rw [stayT, List.mem_filter]
            refine ⟨by rw [← hxe]; exact hx, ?_⟩
            rw [goesB, if_pos h2]
            simp [h2]
          exact insT_same (List.Pairwise.filter _ hr) hin

def leftF (t : List Ent) (e : Ent) (k : Nat) : List Ent := (t.take k).filter fun x => !goesB e x
def dirF (t : List Ent) (e : Ent) (k : Nat) : Bool := (t.take k).any fun x => decide (x.path = e.path) && (x.kind == 2)

theorem left_succ {t : List Ent} {e x : Ent} {k : Nat} (hh : k < t.length) (hx : t[k] = x) : leftF t e (k + 1) = leftF t e k ++ (if goesB e x = true then [] else [x]) := by
  rw [leftF, ← List.take_append_getElem hh, List.filter_append, ← leftF, hx]
  congr 1
  rcases h : goesB e x with _ | _ <;> simp [h]
theorem dir_succ {t : List Ent} {e x : Ent} {k : Nat} (hh : k < t.length) (hx : t[k] = x) : dirF t e (k + 1) = (dirF t e k || (decide (x.path = e.path) && (x.kind == 2))) := by
  rw [dirF, ← List.take_append_getElem hh, List.any_append, ← dirF, hx]
  simp

def LfRel (t : List Ent) (e : Ent) (n : Nat) (w : World) (v7 v8 v9 : Value) (wr : World) : Prop :=
  ∃ (k : Nat) (d : Bool), v9 = .int .i64 k ∧ v8 = .bool d ∧ k ≤ n ∧ Hid (d = ((e.kind == 2) && dirF t e k)) ∧ wr.ownsRow w.heap.size 54 3 v7 (leftF t e k).length (flatE (leftF t e k)) ∧ Ext w wr

theorem lf_next {t : List Ent} {e : Ent} {n k : Nat} {w W : World} {v7 : Value} {d : Bool} {r : List Ent} (hlt : k < n) (hd : d = ((e.kind == 2) && dirF t e (k + 1))) (hr : leftF t e (k + 1) = r) (hrow : W.ownsRow w.heap.size 54 3 v7 r.length (flatE r)) (hE : Ext w W) :
    LfRel t e n w v7 (.bool d) (.int .i64 ((k : Int) + 1)) W ∧ n - (intOf (.int .i64 ((k : Int) + 1))).toNat < n - (intOf (.int .i64 (k : Int))).toNat :=
  ⟨⟨k + 1, d, by simp, rfl, by omega, Lib.hid hd, by rw [hr]; exact hrow, hE⟩, by simp [intOf]; omega⟩

def ROvRel (t l : List Ent) (n : Nat) (w : World) (v5 v6 : Value) (wr : World) : Prop := ∃ k : Nat, v6 = .int .i64 k ∧ k ≤ n ∧ Hid (RdE wr v5 (overT t (l.take k))) ∧ Ext w wr
theorem rov_next {t l : List Ent} {n k : Nat} {w W : World} {v5 : Value} (hlt : k < n) (h : RdE W v5 (overT t (l.take (k + 1)))) (hE : Ext w W) :
    ROvRel t l n w v5 (.int .i64 ((k : Int) + 1)) W ∧ n - (intOf (.int .i64 ((k : Int) + 1))).toNat < n - (intOf (.int .i64 (k : Int))).toNat :=
  ⟨⟨k + 1, by simp, by omega, Lib.hid h, hE⟩, by simp [intOf]; omega⟩

theorem run_append_none_ents {w : World} (base : Nat) (ty : TypeId) (c : Nat) (v : Value) (n : Nat) (xs : List Value) (hown : w.ownsRow base 54 3 v n xs) :
    (Builtin.append_ #[55, 55] ty #[v, .slice none 0 c]).run Tryz.prog w = .ok v w := by
  obtain ⟨i0, hi, hz0, hz1, hz2⟩ := info_parts info_ent
  rcases hown.2 with ⟨rfl, rfl⟩ | ⟨g, cap, cur, rfl, _, _, hnc, _⟩
  · simp [Builtin.append_, run_underlying Tryz.underlying55, sizeOf, typeInfo, hi, Builtin.lenOf, Builtin.firstCells]
  · simp [Builtin.append_, run_underlying Tryz.underlying55, sizeOf, typeInfo, hi, Builtin.lenOf, Builtin.firstCells, hnc, storeCells]

/-- A list that is read, behind a row. -/
theorem append_rdE {w : World} {ops : Array Oper} {rest : List Oper} {o : Oper} {a : Act} {Q : Exit → Act → World → Prop} (hgd : o.guard = none) (s x : Operand)
    (ho : o.op = .call { callee := .builtin .append, args := #[s, x], argTypes := #[55, 55] }) (base : Nat) (hbase : base ≤ w.heap.size) (v : Value) (n : Nat) (xs : List Value) (hs : a.eval s = v) (hown : w.ownsRow base 54 3 v n xs)
    (A : Option Addr) (c : Nat) (sub : List Ent) (hx : a.eval x = .slice A sub.length c) (hr : RdE w (.slice A sub.length c) sub) (hn : n + sub.length ≤ 1000000)
    (h : ∀ v' w', w'.ownsRow base 54 3 v' (n + sub.length) (xs ++ flatE sub) → w.grownBy w' v.ownBlock → wpList Tryz.prog ops Q rest (a.put o.dst v') w') : wpList Tryz.prog ops Q (o :: rest) a w := by
  obtain ⟨i0, hi, hz0, hz1, hz2⟩ := info_parts info_ent
  rcases A with _ | ad
  · have h0 : sub = [] := Classical.byContradiction fun e => by
      obtain ⟨b, o, c', e2, _⟩ := RdE.open_ hr e
      cases e2
    subst h0
    refine wpList_plain hgd fun K hK => ?_
    have hrun := run_append_none_ents (w := w) base o.type c v n xs hown
    unfold Oper.wp
    simp only [List.length_nil] at hx
    simp [execOp, ho, resolve, invoke, builtin, hs, hx, hrun, Result.andThen]
    exact hK _ _ (h v w (by simpa [flatE] using hown) ⟨rfl, rfl, rfl, Nat.le_refl _, fun _ _ _ => rfl⟩)
  · refine wpList_append_own w hgd _ _ 55 ho base 54 i0 (.agg #[.string ⟨#[]⟩, .int .i64 0, .string ⟨#[]⟩]) 3 40 Tryz.underlying55 hi hz0 hz1 hz2 rfl (by decide) v n xs hs hown ad sub.length c (flatE sub) hx (ents_length sub) (fun j u hj => ?_) (ents_one sub) (by unfold maxLen; omega) (by omega) hbase fun v' w' h2 h3 _ => h v' w' h2 h3
    obtain ⟨j', y, i, hy, hyi, rfl⟩ := ents_at sub j u hj
    obtain ⟨A', c', e, _, _, _, hne⟩ := hr
    cases e
    obtain ⟨b, o, e, hc⟩ := hne (by rintro rfl; simp at hy)
    cases e
    obtain ⟨cs, ⟨rfl, _⟩, hu⟩ := hc j' y hy
    have := hu i u hyi
    rw [Addr.add_lit, ← Nat.add_assoc]
    exact this

theorem stay_len (t : List Ent) (e : Ent) : (stayT t e).length ≤ t.length := List.length_filter_le _ _

set_option maxHeartbeats 16000000 in
set_option maxRecDepth 20000 in
theorem ROver_any (v u : Value) (t l : List Ent) (w : World) (hv : RdE w v t) (hu : RdE w u l) (ht : treeOk t = true) (hl : layerOk l = true) (hlen : t.length + l.length ≤ 1024) :
    Calls Tryz.prog 43 #[v, u] w (RdAns (overT t l) w) := by
  obtain ⟨_, hr, hall⟩ := treeOk_iff.1 ht
  obtain ⟨_, _, hlall⟩ := layerOk_iff.1 hl
  have hmem : ∀ k, MemT (overT t (l.take k)) := fun k => mem_over (fun e he => (hlall e (List.mem_of_mem_take he)).1) fun x hx => ⟨(hall x hx).1, (hall x hx).2.1⟩
  have hln : ∀ k, (overT t (l.take k)).length ≤ 1024 := fun k => by
    have h1 := over_len t (l.take k)
    rw [List.length_take] at h1
    omega
  have hro : ∀ k, Rising (overT t (l.take k)) := fun k => rising_over hr (l.take k)
  obtain ⟨i0, hi, hz0, hz1, hz2⟩ := info_parts info_ent
  have hfits := RdE.fits hv
  obtain ⟨n, hn⟩ : ∃ n, n = l.length := ⟨_, rfl⟩
  have Hn := Lib.hid hn
  have hlu := Rd.len hu
  obtain ⟨A, c, rfl, _, _, _⟩ := rdE_form hv rfl
  obtain ⟨A2, c2, rfl, hd1, hd2, Hcell⟩ := rdE_form hu hn
  rw [← hn] at hlu
  have Hv := Lib.hid hv
  have Hmem := Lib.hid hmem
  have Hln := Lib.hid hln
  have Hlall := Lib.hid hlall
  have Hro := Lib.hid hro
  have Hfits := Lib.hid hfits
  have htl : t.length ≤ 1024 := by omega
  clear hv hu ht hl hr hall hlall hmem hln hlen hn hro hfits
  go_enter Tryz.func43, Tryz.ntmps43
  go_upto_region 3 with (at_builtin; refine append_rdE rfl _ _ rfl w.heap.size (by rw [World.size_alloc]; omega) _ 0 [] rfl (World.ownsRow_made w #[] 0 (Nat.le_refl _) (Nat.zero_le _) rfl) A c t rfl (Hv.out.ext (by exact (by repeat (first | exact Ext.refl _ | assumption | refine Ext.alloc ?_ _ | refine Ext.drew ?_ | refine Ext.drewN ?_ _ | refine Ext.setCell ?_ (by first | omega | (simp; done) | (simp; omega)) _ | refine Ext.trans ?_ (by assumption))))) (by omega) ?_; intro v5 W5 hown5 hgrow5)
  have hE5 : Ext w W5 := Ext.grown (by exact (by repeat (first | exact Ext.refl _ | assumption | refine Ext.alloc ?_ _ | refine Ext.drew ?_ | refine Ext.drewN ?_ _ | refine Ext.setCell ?_ (by first | omega | (simp; done) | (simp; omega)) _ | refine Ext.trans ?_ (by assumption)))) hgrow5 (fun k hk => by cases hk; exact Nat.le_refl _)
  rw [Nat.zero_add, List.nil_append] at hown5
  have Hr5 := Lib.hid (RdE.of_own hown5 (by omega) Hfits.out)
  clear hown5 hgrow5
  go_loopw [5, 6] (fun v5 v6 wr => ROvRel t l n W5 v5 v6 wr) (fun _ v6 _ => n - (intOf v6).toNat)
  case atStart => exact ⟨0, rfl, Nat.zero_le _, Lib.hid (by simpa [overT] using Hr5.out), Ext.refl _⟩
  case round =>
    obtain ⟨k, rfl, hkn, hrd, hE⟩ := hrel
    by_cases hlt : k < n
    · have hh : k < l.length := by have := Hn.out; omega
      obtain ⟨b, o, rfl, hcell⟩ := Hcell.out (List.ne_nil_of_length_pos (by omega))
      obtain ⟨q0, q1, q2, hfe⟩ := hcell k hh
      obtain ⟨e, hx⟩ : ∃ e, l[k]'hh = e := ⟨_, rfl⟩
      rw [hx] at q0 q1 q2 hfe
      have Hq : Hid (∀ W, Ext w W → W.cell? ⟨b, o + k * 3, none⟩ = some (.string e.path) ∧ W.cell? ⟨b, o + k * 3 + 1, none⟩ = some (.int .i64 e.kind) ∧ W.cell? ⟨b, o + k * 3 + 2, none⟩ = some (.string e.data)) := Lib.hid fun W hW => ⟨hW.cell q0, hW.cell q1, hW.cell q2⟩
      have hoe := (Hlall.out e (by rw [← hx]; exact List.getElem_mem hh)).1
      have hstep : overT t (l.take (k + 1)) = oneT (overT t (l.take k)) e := by rw [overT_take t hh, hx]
      obtain ⟨T, hT⟩ : ∃ T, overT t (l.take k) = T := ⟨_, rfl⟩
      have hTl := Hln.out k
      have hTm := Hmem.out k
      have hTr := Hro.out k
      rw [hT] at hstep hTl hTm hTr
      rw [one_ref hTr hTm hoe] at hstep
      have Hrd : Hid (RdE wr u5 T) := Lib.hid (by rw [← hT]; exact hrd.out)
      obtain ⟨n2, hn2⟩ : ∃ n2, n2 = T.length := ⟨_, rfl⟩
      have Hn2 := Lib.hid hn2
      obtain ⟨A5, c5, rfl, hc51, hc52, Hcell5⟩ := rdE_form Hrd.out hn2
      rw [← hn2] at hTl
      have HTm := Lib.hid hTm
      have HTr := Lib.hid hTr
      have Hoe := Lib.hid hoe
      have Hstep := Lib.hid hstep
      have hE0 := Lib.hid (hE5.trans hE)
      obtain ⟨wo, hwo⟩ : ∃ wo, wo = wr := ⟨_, rfl⟩
      subst hwo
      have hlt' : (k : Int) < (n : Int) := by omega
      have hps := path_size hoe
      clear q0 q1 q2 hcell hx hoe hstep hT hTm hTr hrd hn2
      go_upto_region 8 with (fail)
      go_loopw [7, 8, 9] (fun v7 v8 v9 wr => LfRel T e n2 wo v7 v8 v9 wr) (fun _ _ v9 _ => n2 - (intOf v9).toNat)
      case atStart => exact ⟨0, false, rfl, rfl, Nat.zero_le _, Lib.hid (by simp [dirF]), World.ownsRow_nil _ _ _ _, Ext.refl _⟩
      case round =>
        obtain ⟨j, d, rfl, rfl, hjn, hd, hrow, hEj⟩ := hrel
        by_cases hlt2 : j < n2
        · have hjh : j < T.length := by have := Hn2.out; omega
          obtain ⟨bt, ot, rfl, hcell5⟩ := Hcell5.out (List.ne_nil_of_length_pos (by omega))
          obtain ⟨p0, p1, p2, hfx⟩ := hcell5 j hjh
          obtain ⟨x, hx⟩ : ∃ x, T[j]'hjh = x := ⟨_, rfl⟩
          rw [hx] at p0 p1 p2 hfx
          have g0 := hEj.cell p0
          have g1 := hEj.cell p1
          have g2 := hEj.cell p2
          have hxm := HTm.out x (by rw [← hx]; exact List.getElem_mem hjh)
          have hxk1 := entOk_kind hxm.1
          obtain ⟨xs', xz, hxn, n1, n2', n3, n4, n5⟩ := ent_names hxm.1
          obtain ⟨es', ez, hen, m1, m2, m3, m4, m5⟩ := ent_names Hoe.out
          have hun : underB x.path e.path = Lib.hasPrefix x.path.data.toList (e.path.data.toList ++ [47]) := under_pre hxn hen (by simp)
          have HU0 : ∀ W, Calls Tryz.prog 56 #[.string x.path, .string e.path] W fun e' w' => e' = .returned (.bool (underB x.path e.path)) ∧ Ext W w' := fun W => (RUnder_any x.path e.path W hfx.1 (by omega)).mono fun e' w' ⟨h1, h2⟩ => ⟨by rw [h1, hun], by rw [h2]; exact Ext.refl _⟩
          have hhe := path_eqR x.path e.path
          have hln := left_succ (e := e) hjh hx
          have hdn := dir_succ (e := e) hjh hx
          have hgb : goesB e x = if e.kind = 2 then decide (x.path = e.path) && decide (x.kind = 1) else decide (x.path = e.path) || underB x.path e.path := rfl
          have hxk12 : decide (x.kind = 1) = !(x.kind == 2) := by
            rw [Bool.eq_iff_iff]
            simp
            omega
          rw [hxk12] at hgb
          obtain ⟨m, hm⟩ : ∃ m, (leftF T e j).length = m := ⟨_, rfl⟩
          have hml : m ≤ 1024 := by
            rw [← hm, leftF]
            exact Nat.le_trans (List.length_filter_le _ _) (by rw [List.length_take]; have := Hn2.out; omega)
          rw [hm] at hrow
          have Hm := Lib.hid hm
          have Hrow := Lib.hid hrow
          obtain ⟨A7, c7, rfl⟩ := own_form hrow
          clear p0 p1 p2 hcell5 hfx hxm hxk1 hxn n1 n2' n3 n4 n5 hen m1 m2 m3 m4 m5 hun hxk12 hm hrow hx
          obtain ⟨un, hune⟩ : ∃ un, underB x.path e.path = un := ⟨_, rfl⟩
          have HU := HU0
          rw [hune] at HU hgb
          obtain ⟨he, hhe2⟩ : ∃ he, decide (x.path = e.path) = he := ⟨_, rfl⟩
          rw [hhe2] at hhe hgb
          obtain ⟨xk, hxk⟩ : ∃ xk, (x.kind == 2) = xk := ⟨_, rfl⟩
          rw [hxk] at hgb
          clear HU0 hune
          rcases hek : (e.kind == 2) with _ | _
          · have hek2 : (e.kind != 2) = true := by rw [bne, hek]; rfl
            rw [if_neg (by simpa using hek)] at hgb
            have hdf : d = false := by rw [hd.out, hek]; rfl
            subst hdf
            rcases he with _ | _
            · rcases un with _ | _
              · have hgo : goesB e x = false := hgb
                clear hgb
                rcases xk with _ | _
                · have Hnx : Hid (false = ((e.kind == 2) && dirF T e (j + 1)) ∧ leftF T e (j + 1) = leftF T e j ++ [x]) := Lib.hid ⟨by rw [hek]; rfl, by rw [hln, hgo]; simp⟩
                  clear hgo hdn hln hhe2 hd
                  go_upto_region 11 with (fail)
                  have hX := Blk.new wr 54 #[.string x.path, .int .i64 x.kind, .string x.data]
                  have hEx : Ext wr (wr.alloc (.cells #[.string x.path, .int .i64 x.kind, .string x.data] 54)) := (Ext.refl wr).alloc _
                  obtain ⟨xb, hxb⟩ : ∃ xb, wr.heap.size = xb := ⟨_, rfl⟩
                  rw [hxb] at hX
                  rw [hxb]
                  clear hxb g0 g1 g2
                  generalize wr.alloc (.cells #[.string x.path, .int .i64 x.kind, .string x.data] 54) = W10 at hX hEx ⊢
                  have hE10 : Ext wo W10 := hEj.trans hEx
                  obtain ⟨⟨x0, _⟩, ⟨x1, _⟩, ⟨x2, _⟩⟩ := hX.three
                  obtain ⟨e0, e1, e2⟩ := Hq.out W10 (hE0.out.trans hE10)
                  go_quiet (fail)
                  obtain ⟨W11, hW11⟩ : ∃ W11, W10.drewN nq = W11 := ⟨_, rfl⟩
                  try rw [hW11]
                  have hE1011 : Ext W10 W11 := by rw [← hW11]; exact (Ext.refl W10).drewN _
                  have hE11 : Ext wo W11 := hE10.trans hE1011
                  clear hW11 x0 x1 x2 e0 e1 e2
                  obtain ⟨⟨x0, _⟩, ⟨x1, _⟩, ⟨x2, _⟩⟩ := (hX.ext hE1011).three
                  obtain ⟨e0, e1, e2⟩ := Hq.out W11 (hE0.out.trans hE11)
                  have x0' := fun d os => cell_regrown x0 d os
                  have x1' := fun d os => cell_regrown x1 d os
                  have e0' := fun d os => cell_regrown e0 d os
                  have e1' := fun d os => cell_regrown e1 d os
                  go_upto_region 14 with (fail)
                  (refine wp_region_quiet_below (by kernel_rfl) (by kernel_rfl) ?_; (repeat (go_big_quiet_step ((go_at_call 56; exact Calls.regrown_of (HU _))))); refine wpQuiet_nil ?_; intro _ hq; obtain ⟨⟨dq, osq⟩, hq2⟩ := hq; subst hq2)
                  have hE14 := below_regrown W11 dq osq
                  obtain ⟨W14, hW14⟩ : ∃ W14, Sort.grow (redrawn W11 dq) osq = W14 := ⟨_, rfl⟩
                  rw [hW14] at hE14
                  try rw [hW14]
                  have hE1114 : Ext W11 W14 := hE14
                  have hE14' : Ext wo W14 := hE11.trans hE1114
                  have hrow14 := Lib.hid (own_ext Hrow.out (hEx.trans (hE1011.trans hE1114)))
                  have hs14 := hE14'.size
                  clear hW14 x0' x1' e0' e1' x0 x1 x2 e0 e1 e2
                  obtain ⟨⟨x0, _⟩, ⟨x1, _⟩, ⟨x2, _⟩⟩ := (hX.ext (hE1011.trans hE1114)).three
                  go_wp2_with (at_builtin; refine wpList_append_own _ rfl _ _ 55 rfl wo.heap.size 54 i0 (.agg #[.string ⟨#[]⟩, .int .i64 0, .string ⟨#[]⟩]) 3 40 Tryz.underlying55 hi hz0 hz1 hz2 rfl (by decide) _ _ _ rfl (hrow14.out.alloc _) ⟨W14.heap.size, 0, none⟩ 1 1 [.string x.path, .int .i64 x.kind, .string x.data] rfl rfl (World.news_of_block (cs := #[.string x.path, .int .i64 x.kind, .string x.data]) (t := 54) (fr := (0, 0)) (Blk.new W14 _ _)) (by simp [Value.oneCell']) (by unfold maxLen; omega) (by omega) (by rw [World.size_alloc]; omega) ?_; intro v9 W9 hown9 hgrow9 hnil9)
                  exact lf_next hlt2 Hnx.out.1 Hnx.out.2 (row_put Hm.out hown9) (Ext.grown (hE14'.alloc _) hgrow9 (fun j hj => (hrow14.out.lt j hj).1))
                · have Hnx : Hid (false = ((e.kind == 2) && dirF T e (j + 1)) ∧ leftF T e (j + 1) = leftF T e j ++ [x]) := Lib.hid ⟨by rw [hek]; rfl, by rw [hln, hgo]; simp⟩
                  clear hgo hdn hln hhe2 hd
                  go_upto_region 11 with (fail)
                  have hX := Blk.new wr 54 #[.string x.path, .int .i64 x.kind, .string x.data]
                  have hEx : Ext wr (wr.alloc (.cells #[.string x.path, .int .i64 x.kind, .string x.data] 54)) := (Ext.refl wr).alloc _
                  obtain ⟨xb, hxb⟩ : ∃ xb, wr.heap.size = xb := ⟨_, rfl⟩
                  rw [hxb] at hX
                  rw [hxb]
                  clear hxb g0 g1 g2
                  generalize wr.alloc (.cells #[.string x.path, .int .i64 x.kind, .string x.data] 54) = W10 at hX hEx ⊢
                  have hE10 : Ext wo W10 := hEj.trans hEx
                  obtain ⟨⟨x0, _⟩, ⟨x1, _⟩, ⟨x2, _⟩⟩ := hX.three
                  obtain ⟨e0, e1, e2⟩ := Hq.out W10 (hE0.out.trans hE10)
                  go_quiet (fail)
                  obtain ⟨W11, hW11⟩ : ∃ W11, W10.drewN nq = W11 := ⟨_, rfl⟩
                  try rw [hW11]
                  have hE1011 : Ext W10 W11 := by rw [← hW11]; exact (Ext.refl W10).drewN _
                  have hE11 : Ext wo W11 := hE10.trans hE1011
                  clear hW11 x0 x1 x2 e0 e1 e2
                  obtain ⟨⟨x0, _⟩, ⟨x1, _⟩, ⟨x2, _⟩⟩ := (hX.ext hE1011).three
                  obtain ⟨e0, e1, e2⟩ := Hq.out W11 (hE0.out.trans hE11)
                  have x0' := fun d os => cell_regrown x0 d os
                  have x1' := fun d os => cell_regrown x1 d os
                  have e0' := fun d os => cell_regrown e0 d os
                  have e1' := fun d os => cell_regrown e1 d os
                  go_upto_region 14 with (fail)
                  (refine wp_region_quiet_below (by kernel_rfl) (by kernel_rfl) ?_; (repeat (go_big_quiet_step ((go_at_call 56; exact Calls.regrown_of (HU _))))); refine wpQuiet_nil ?_; intro _ hq; obtain ⟨⟨dq, osq⟩, hq2⟩ := hq; subst hq2)
                  have hE14 := below_regrown W11 dq osq
                  obtain ⟨W14, hW14⟩ : ∃ W14, Sort.grow (redrawn W11 dq) osq = W14 := ⟨_, rfl⟩
                  rw [hW14] at hE14
                  try rw [hW14]
                  have hE1114 : Ext W11 W14 := hE14
                  have hE14' : Ext wo W14 := hE11.trans hE1114
                  have hrow14 := Lib.hid (own_ext Hrow.out (hEx.trans (hE1011.trans hE1114)))
                  have hs14 := hE14'.size
                  clear hW14 x0' x1' e0' e1' x0 x1 x2 e0 e1 e2
                  obtain ⟨⟨x0, _⟩, ⟨x1, _⟩, ⟨x2, _⟩⟩ := (hX.ext (hE1011.trans hE1114)).three
                  go_wp2_with (at_builtin; refine wpList_append_own _ rfl _ _ 55 rfl wo.heap.size 54 i0 (.agg #[.string ⟨#[]⟩, .int .i64 0, .string ⟨#[]⟩]) 3 40 Tryz.underlying55 hi hz0 hz1 hz2 rfl (by decide) _ _ _ rfl (hrow14.out.alloc _) ⟨W14.heap.size, 0, none⟩ 1 1 [.string x.path, .int .i64 x.kind, .string x.data] rfl rfl (World.news_of_block (cs := #[.string x.path, .int .i64 x.kind, .string x.data]) (t := 54) (fr := (0, 0)) (Blk.new W14 _ _)) (by simp [Value.oneCell']) (by unfold maxLen; omega) (by omega) (by rw [World.size_alloc]; omega) ?_; intro v9 W9 hown9 hgrow9 hnil9)
                  exact lf_next hlt2 Hnx.out.1 Hnx.out.2 (row_put Hm.out hown9) (Ext.grown (hE14'.alloc _) hgrow9 (fun j hj => (hrow14.out.lt j hj).1))
              · have hgo : goesB e x = true := hgb
                clear hgb
                rcases xk with _ | _
                · have Hnx : Hid (false = ((e.kind == 2) && dirF T e (j + 1)) ∧ leftF T e (j + 1) = leftF T e j) := Lib.hid ⟨by rw [hek]; rfl, by rw [hln, hgo]; simp⟩
                  clear hgo hdn hln hhe2 hd
                  go_upto_region 11 with (fail)
                  have hX := Blk.new wr 54 #[.string x.path, .int .i64 x.kind, .string x.data]
                  have hEx : Ext wr (wr.alloc (.cells #[.string x.path, .int .i64 x.kind, .string x.data] 54)) := (Ext.refl wr).alloc _
                  obtain ⟨xb, hxb⟩ : ∃ xb, wr.heap.size = xb := ⟨_, rfl⟩
                  rw [hxb] at hX
                  rw [hxb]
                  clear hxb g0 g1 g2
                  generalize wr.alloc (.cells #[.string x.path, .int .i64 x.kind, .string x.data] 54) = W10 at hX hEx ⊢
                  have hE10 : Ext wo W10 := hEj.trans hEx
                  obtain ⟨⟨x0, _⟩, ⟨x1, _⟩, ⟨x2, _⟩⟩ := hX.three
                  obtain ⟨e0, e1, e2⟩ := Hq.out W10 (hE0.out.trans hE10)
                  go_quiet (fail)
                  obtain ⟨W11, hW11⟩ : ∃ W11, W10.drewN nq = W11 := ⟨_, rfl⟩
                  try rw [hW11]
                  have hE1011 : Ext W10 W11 := by rw [← hW11]; exact (Ext.refl W10).drewN _
                  have hE11 : Ext wo W11 := hE10.trans hE1011
                  clear hW11 x0 x1 x2 e0 e1 e2
                  obtain ⟨⟨x0, _⟩, ⟨x1, _⟩, ⟨x2, _⟩⟩ := (hX.ext hE1011).three
                  obtain ⟨e0, e1, e2⟩ := Hq.out W11 (hE0.out.trans hE11)
                  have x0' := fun d os => cell_regrown x0 d os
                  have x1' := fun d os => cell_regrown x1 d os
                  have e0' := fun d os => cell_regrown e0 d os
                  have e1' := fun d os => cell_regrown e1 d os
                  go_upto_region 14 with (fail)
                  (refine wp_region_quiet_below (by kernel_rfl) (by kernel_rfl) ?_; (repeat (go_big_quiet_step ((go_at_call 56; exact Calls.regrown_of (HU _))))); refine wpQuiet_nil ?_; intro _ hq; obtain ⟨⟨dq, osq⟩, hq2⟩ := hq; subst hq2)
                  have hE14 := below_regrown W11 dq osq
                  obtain ⟨W14, hW14⟩ : ∃ W14, Sort.grow (redrawn W11 dq) osq = W14 := ⟨_, rfl⟩
                  rw [hW14] at hE14
                  try rw [hW14]
                  have hE1114 : Ext W11 W14 := hE14
                  have hE14' : Ext wo W14 := hE11.trans hE1114
                  have hrow14 := Lib.hid (own_ext Hrow.out (hEx.trans (hE1011.trans hE1114)))
                  have hs14 := hE14'.size
                  clear hW14 x0' x1' e0' e1' x0 x1 x2 e0 e1 e2
                  obtain ⟨⟨x0, _⟩, ⟨x1, _⟩, ⟨x2, _⟩⟩ := (hX.ext (hE1011.trans hE1114)).three
                  go_wp2
                  exact lf_next hlt2 Hnx.out.1 Hnx.out.2 (by rw [Hm.out]; exact hrow14.out) hE14'
                · have Hnx : Hid (false = ((e.kind == 2) && dirF T e (j + 1)) ∧ leftF T e (j + 1) = leftF T e j) := Lib.hid ⟨by rw [hek]; rfl, by rw [hln, hgo]; simp⟩
                  clear hgo hdn hln hhe2 hd
                  go_upto_region 11 with (fail)
                  have hX := Blk.new wr 54 #[.string x.path, .int .i64 x.kind, .string x.data]
                  have hEx : Ext wr (wr.alloc (.cells #[.string x.path, .int .i64 x.kind, .string x.data] 54)) := (Ext.refl wr).alloc _
                  obtain ⟨xb, hxb⟩ : ∃ xb, wr.heap.size = xb := ⟨_, rfl⟩
                  rw [hxb] at hX
                  rw [hxb]
                  clear hxb g0 g1 g2
                  generalize wr.alloc (.cells #[.string x.path, .int .i64 x.kind, .string x.data] 54) = W10 at hX hEx ⊢
                  have hE10 : Ext wo W10 := hEj.trans hEx
                  obtain ⟨⟨x0, _⟩, ⟨x1, _⟩, ⟨x2, _⟩⟩ := hX.three
                  obtain ⟨e0, e1, e2⟩ := Hq.out W10 (hE0.out.trans hE10)
                  go_quiet (fail)
                  obtain ⟨W11, hW11⟩ : ∃ W11, W10.drewN nq = W11 := ⟨_, rfl⟩
                  try rw [hW11]
                  have hE1011 : Ext W10 W11 := by rw [← hW11]; exact (Ext.refl W10).drewN _
                  have hE11 : Ext wo W11 := hE10.trans hE1011
                  clear hW11 x0 x1 x2 e0 e1 e2
                  obtain ⟨⟨x0, _⟩, ⟨x1, _⟩, ⟨x2, _⟩⟩ := (hX.ext hE1011).three
                  obtain ⟨e0, e1, e2⟩ := Hq.out W11 (hE0.out.trans hE11)
                  have x0' := fun d os => cell_regrown x0 d os
                  have x1' := fun d os => cell_regrown x1 d os
                  have e0' := fun d os => cell_regrown e0 d os
                  have e1' := fun d os => cell_regrown e1 d os
                  go_upto_region 14 with (fail)
                  (refine wp_region_quiet_below (by kernel_rfl) (by kernel_rfl) ?_; (repeat (go_big_quiet_step ((go_at_call 56; exact Calls.regrown_of (HU _))))); refine wpQuiet_nil ?_; intro _ hq; obtain ⟨⟨dq, osq⟩, hq2⟩ := hq; subst hq2)
                  have hE14 := below_regrown W11 dq osq
                  obtain ⟨W14, hW14⟩ : ∃ W14, Sort.grow (redrawn W11 dq) osq = W14 := ⟨_, rfl⟩
                  rw [hW14] at hE14
                  try rw [hW14]
                  have hE1114 : Ext W11 W14 := hE14
                  have hE14' : Ext wo W14 := hE11.trans hE1114
                  have hrow14 := Lib.hid (own_ext Hrow.out (hEx.trans (hE1011.trans hE1114)))
                  have hs14 := hE14'.size
                  clear hW14 x0' x1' e0' e1' x0 x1 x2 e0 e1 e2
                  obtain ⟨⟨x0, _⟩, ⟨x1, _⟩, ⟨x2, _⟩⟩ := (hX.ext (hE1011.trans hE1114)).three
                  go_wp2
                  exact lf_next hlt2 Hnx.out.1 Hnx.out.2 (by rw [Hm.out]; exact hrow14.out) hE14'
            · have hgo : goesB e x = true := hgb
              clear hgb
              rcases xk with _ | _
              · have Hnx : Hid (false = ((e.kind == 2) && dirF T e (j + 1)) ∧ leftF T e (j + 1) = leftF T e j) := Lib.hid ⟨by rw [hek]; rfl, by rw [hln, hgo]; simp⟩
                clear hgo hdn hln hhe2 hd
                go_upto_region 11 with (fail)
                have hX := Blk.new wr 54 #[.string x.path, .int .i64 x.kind, .string x.data]
                have hEx : Ext wr (wr.alloc (.cells #[.string x.path, .int .i64 x.kind, .string x.data] 54)) := (Ext.refl wr).alloc _
                obtain ⟨xb, hxb⟩ : ∃ xb, wr.heap.size = xb := ⟨_, rfl⟩
                rw [hxb] at hX
                rw [hxb]
                clear hxb g0 g1 g2
                generalize wr.alloc (.cells #[.string x.path, .int .i64 x.kind, .string x.data] 54) = W10 at hX hEx ⊢
                have hE10 : Ext wo W10 := hEj.trans hEx
                obtain ⟨⟨x0, _⟩, ⟨x1, _⟩, ⟨x2, _⟩⟩ := hX.three
                obtain ⟨e0, e1, e2⟩ := Hq.out W10 (hE0.out.trans hE10)
                go_quiet (fail)
                obtain ⟨W11, hW11⟩ : ∃ W11, W10.drewN nq = W11 := ⟨_, rfl⟩
                try rw [hW11]
                have hE1011 : Ext W10 W11 := by rw [← hW11]; exact (Ext.refl W10).drewN _
                have hE11 : Ext wo W11 := hE10.trans hE1011
                clear hW11 x0 x1 x2 e0 e1 e2
                obtain ⟨⟨x0, _⟩, ⟨x1, _⟩, ⟨x2, _⟩⟩ := (hX.ext hE1011).three
                obtain ⟨e0, e1, e2⟩ := Hq.out W11 (hE0.out.trans hE11)
                have x0' := fun d os => cell_regrown x0 d os
                have x1' := fun d os => cell_regrown x1 d os
                have e0' := fun d os => cell_regrown e0 d os
                have e1' := fun d os => cell_regrown e1 d os
                go_upto_region 14 with (fail)
                (refine wp_region_quiet_below (by kernel_rfl) (by kernel_rfl) ?_; (repeat (go_big_quiet_step ((go_at_call 56; exact Calls.regrown_of (HU _))))); refine wpQuiet_nil ?_; intro _ hq; obtain ⟨⟨dq, osq⟩, hq2⟩ := hq; subst hq2)
                have hE14 := below_regrown W11 dq osq
                obtain ⟨W14, hW14⟩ : ∃ W14, Sort.grow (redrawn W11 dq) osq = W14 := ⟨_, rfl⟩
                rw [hW14] at hE14
                try rw [hW14]
                have hE1114 : Ext W11 W14 := hE14
                have hE14' : Ext wo W14 := hE11.trans hE1114
                have hrow14 := Lib.hid (own_ext Hrow.out (hEx.trans (hE1011.trans hE1114)))
                have hs14 := hE14'.size
                clear hW14 x0' x1' e0' e1' x0 x1 x2 e0 e1 e2
                obtain ⟨⟨x0, _⟩, ⟨x1, _⟩, ⟨x2, _⟩⟩ := (hX.ext (hE1011.trans hE1114)).three
                go_wp2
                exact lf_next hlt2 Hnx.out.1 Hnx.out.2 (by rw [Hm.out]; exact hrow14.out) hE14'
              · have Hnx : Hid (false = ((e.kind == 2) && dirF T e (j + 1)) ∧ leftF T e (j + 1) = leftF T e j) := Lib.hid ⟨by rw [hek]; rfl, by rw [hln, hgo]; simp⟩
                clear hgo hdn hln hhe2 hd
                go_upto_region 11 with (fail)
                have hX := Blk.new wr 54 #[.string x.path, .int .i64 x.kind, .string x.data]
                have hEx : Ext wr (wr.alloc (.cells #[.string x.path, .int .i64 x.kind, .string x.data] 54)) := (Ext.refl wr).alloc _
                obtain ⟨xb, hxb⟩ : ∃ xb, wr.heap.size = xb := ⟨_, rfl⟩
                rw [hxb] at hX
                rw [hxb]
                clear hxb g0 g1 g2
                generalize wr.alloc (.cells #[.string x.path, .int .i64 x.kind, .string x.data] 54) = W10 at hX hEx ⊢
                have hE10 : Ext wo W10 := hEj.trans hEx
                obtain ⟨⟨x0, _⟩, ⟨x1, _⟩, ⟨x2, _⟩⟩ := hX.three
                obtain ⟨e0, e1, e2⟩ := Hq.out W10 (hE0.out.trans hE10)
                go_quiet (fail)
                obtain ⟨W11, hW11⟩ : ∃ W11, W10.drewN nq = W11 := ⟨_, rfl⟩
                try rw [hW11]
                have hE1011 : Ext W10 W11 := by rw [← hW11]; exact (Ext.refl W10).drewN _
                have hE11 : Ext wo W11 := hE10.trans hE1011
                clear hW11 x0 x1 x2 e0 e1 e2
                obtain ⟨⟨x0, _⟩, ⟨x1, _⟩, ⟨x2, _⟩⟩ := (hX.ext hE1011).three
                obtain ⟨e0, e1, e2⟩ := Hq.out W11 (hE0.out.trans hE11)
                have x0' := fun d os => cell_regrown x0 d os
                have x1' := fun d os => cell_regrown x1 d os
                have e0' := fun d os => cell_regrown e0 d os
                have e1' := fun d os => cell_regrown e1 d os
                go_upto_region 14 with (fail)
                (refine wp_region_quiet_below (by kernel_rfl) (by kernel_rfl) ?_; (repeat (go_big_quiet_step ((go_at_call 56; exact Calls.regrown_of (HU _))))); refine wpQuiet_nil ?_; intro _ hq; obtain ⟨⟨dq, osq⟩, hq2⟩ := hq; subst hq2)
                have hE14 := below_regrown W11 dq osq
                obtain ⟨W14, hW14⟩ : ∃ W14, Sort.grow (redrawn W11 dq) osq = W14 := ⟨_, rfl⟩
                rw [hW14] at hE14
                try rw [hW14]
                have hE1114 : Ext W11 W14 := hE14
                have hE14' : Ext wo W14 := hE11.trans hE1114
                have hrow14 := Lib.hid (own_ext Hrow.out (hEx.trans (hE1011.trans hE1114)))
                have hs14 := hE14'.size
                clear hW14 x0' x1' e0' e1' x0 x1 x2 e0 e1 e2
                obtain ⟨⟨x0, _⟩, ⟨x1, _⟩, ⟨x2, _⟩⟩ := (hX.ext (hE1011.trans hE1114)).three
                go_wp2
                exact lf_next hlt2 Hnx.out.1 Hnx.out.2 (by rw [Hm.out]; exact hrow14.out) hE14'
          · have hek2 : (e.kind != 2) = false := by rw [bne, hek]; rfl
            have Hdj : Hid (d = dirF T e j) := Lib.hid (by rw [hd.out, hek]; rfl)
            rw [if_pos (by simpa using hek)] at hgb
            rcases he with _ | _
            · have hgo : goesB e x = false := hgb
              clear hgb
              rcases xk with _ | _
              · have Hnx : Hid (d = ((e.kind == 2) && dirF T e (j + 1)) ∧ leftF T e (j + 1) = leftF T e j ++ [x]) := Lib.hid ⟨by rw [hdn, hhe2, hxk, hek, ← Hdj.out]; simp, by rw [hln, hgo]; simp⟩
                clear hgo hdn hln hhe2 hd
                go_upto_region 11 with (fail)
                have hX := Blk.new wr 54 #[.string x.path, .int .i64 x.kind, .string x.data]
                have hEx : Ext wr (wr.alloc (.cells #[.string x.path, .int .i64 x.kind, .string x.data] 54)) := (Ext.refl wr).alloc _
                obtain ⟨xb, hxb⟩ : ∃ xb, wr.heap.size = xb := ⟨_, rfl⟩
                rw [hxb] at hX
                rw [hxb]
                clear hxb g0 g1 g2
                generalize wr.alloc (.cells #[.string x.path, .int .i64 x.kind, .string x.data] 54) = W10 at hX hEx ⊢
                have hE10 : Ext wo W10 := hEj.trans hEx
                obtain ⟨⟨x0, _⟩, ⟨x1, _⟩, ⟨x2, _⟩⟩ := hX.three
                obtain ⟨e0, e1, e2⟩ := Hq.out W10 (hE0.out.trans hE10)
                go_quiet (fail)
                obtain ⟨W11, hW11⟩ : ∃ W11, W10.drewN nq = W11 := ⟨_, rfl⟩
                try rw [hW11]
                have hE1011 : Ext W10 W11 := by rw [← hW11]; exact (Ext.refl W10).drewN _
                have hE11 : Ext wo W11 := hE10.trans hE1011
                clear hW11 x0 x1 x2 e0 e1 e2
                obtain ⟨⟨x0, _⟩, ⟨x1, _⟩, ⟨x2, _⟩⟩ := (hX.ext hE1011).three
                obtain ⟨e0, e1, e2⟩ := Hq.out W11 (hE0.out.trans hE11)
                have x0' := fun d os => cell_regrown x0 d os
                have x1' := fun d os => cell_regrown x1 d os
                have e0' := fun d os => cell_regrown e0 d os
                have e1' := fun d os => cell_regrown e1 d os
                go_upto_region 14 with (fail)
                (refine wp_region_quiet_below (by kernel_rfl) (by kernel_rfl) ?_; (repeat (go_big_quiet_step ((go_at_call 56; exact Calls.regrown_of (HU _))))); refine wpQuiet_nil ?_; intro _ hq; obtain ⟨⟨dq, osq⟩, hq2⟩ := hq; subst hq2)
                have hE14 := below_regrown W11 dq osq
                obtain ⟨W14, hW14⟩ : ∃ W14, Sort.grow (redrawn W11 dq) osq = W14 := ⟨_, rfl⟩
                rw [hW14] at hE14
                try rw [hW14]
                have hE1114 : Ext W11 W14 := hE14
                have hE14' : Ext wo W14 := hE11.trans hE1114
                have hrow14 := Lib.hid (own_ext Hrow.out (hEx.trans (hE1011.trans hE1114)))
                have hs14 := hE14'.size
                clear hW14 x0' x1' e0' e1' x0 x1 x2 e0 e1 e2
                obtain ⟨⟨x0, _⟩, ⟨x1, _⟩, ⟨x2, _⟩⟩ := (hX.ext (hE1011.trans hE1114)).three
                go_wp2_with (at_builtin; refine wpList_append_own _ rfl _ _ 55 rfl wo.heap.size 54 i0 (.agg #[.string ⟨#[]⟩, .int .i64 0, .string ⟨#[]⟩]) 3 40 Tryz.underlying55 hi hz0 hz1 hz2 rfl (by decide) _ _ _ rfl (hrow14.out.alloc _) ⟨W14.heap.size, 0, none⟩ 1 1 [.string x.path, .int .i64 x.kind, .string x.data] rfl rfl (World.news_of_block (cs := #[.string x.path, .int .i64 x.kind, .string x.data]) (t := 54) (fr := (0, 0)) (Blk.new W14 _ _)) (by simp [Value.oneCell']) (by unfold maxLen; omega) (by omega) (by rw [World.size_alloc]; omega) ?_; intro v9 W9 hown9 hgrow9 hnil9)
                exact lf_next hlt2 Hnx.out.1 Hnx.out.2 (row_put Hm.out hown9) (Ext.grown (hE14'.alloc _) hgrow9 (fun j hj => (hrow14.out.lt j hj).1))
              · have Hnx : Hid (d = ((e.kind == 2) && dirF T e (j + 1)) ∧ leftF T e (j + 1) = leftF T e j ++ [x]) := Lib.hid ⟨by rw [hdn, hhe2, hxk, hek, ← Hdj.out]; simp, by rw [hln, hgo]; simp⟩
                clear hgo hdn hln hhe2 hd
                go_upto_region 11 with (fail)
                have hX := Blk.new wr 54 #[.string x.path, .int .i64 x.kind, .string x.data]
                have hEx : Ext wr (wr.alloc (.cells #[.string x.path, .int .i64 x.kind, .string x.data] 54)) := (Ext.refl wr).alloc _
                obtain ⟨xb, hxb⟩ : ∃ xb, wr.heap.size = xb := ⟨_, rfl⟩
                rw [hxb] at hX
                rw [hxb]
                clear hxb g0 g1 g2
                generalize wr.alloc (.cells #[.string x.path, .int .i64 x.kind, .string x.data] 54) = W10 at hX hEx ⊢
                have hE10 : Ext wo W10 := hEj.trans hEx
                obtain ⟨⟨x0, _⟩, ⟨x1, _⟩, ⟨x2, _⟩⟩ := hX.three
                obtain ⟨e0, e1, e2⟩ := Hq.out W10 (hE0.out.trans hE10)
                go_quiet (fail)
                obtain ⟨W11, hW11⟩ : ∃ W11, W10.drewN nq = W11 := ⟨_, rfl⟩
                try rw [hW11]
                have hE1011 : Ext W10 W11 := by rw [← hW11]; exact (Ext.refl W10).drewN _
                have hE11 : Ext wo W11 := hE10.trans hE1011
                clear hW11 x0 x1 x2 e0 e1 e2
                obtain ⟨⟨x0, _⟩, ⟨x1, _⟩, ⟨x2, _⟩⟩ := (hX.ext hE1011).three
                obtain ⟨e0, e1, e2⟩ := Hq.out W11 (hE0.out.trans hE11)
                have x0' := fun d os => cell_regrown x0 d os
                have x1' := fun d os => cell_regrown x1 d os
                have e0' := fun d os => cell_regrown e0 d os
                have e1' := fun d os => cell_regrown e1 d os
                go_upto_region 14 with (fail)
                (refine wp_region_quiet_below (by kernel_rfl) (by kernel_rfl) ?_; (repeat (go_big_quiet_step ((go_at_call 56; exact Calls.regrown_of (HU _))))); refine wpQuiet_nil ?_; intro _ hq; obtain ⟨⟨dq, osq⟩, hq2⟩ := hq; subst hq2)
                have hE14 := below_regrown W11 dq osq
                obtain ⟨W14, hW14⟩ : ∃ W14, Sort.grow (redrawn W11 dq) osq = W14 := ⟨_, rfl⟩
                rw [hW14] at hE14
                try rw [hW14]
                have hE1114 : Ext W11 W14 := hE14
                have hE14' : Ext wo W14 := hE11.trans hE1114
                have hrow14 := Lib.hid (own_ext Hrow.out (hEx.trans (hE1011.trans hE1114)))
                have hs14 := hE14'.size
                clear hW14 x0' x1' e0' e1' x0 x1 x2 e0 e1 e2
                obtain ⟨⟨x0, _⟩, ⟨x1, _⟩, ⟨x2, _⟩⟩ := (hX.ext (hE1011.trans hE1114)).three
                go_wp2_with (at_builtin; refine wpList_append_own _ rfl _ _ 55 rfl wo.heap.size 54 i0 (.agg #[.string ⟨#[]⟩, .int .i64 0, .string ⟨#[]⟩]) 3 40 Tryz.underlying55 hi hz0 hz1 hz2 rfl (by decide) _ _ _ rfl (hrow14.out.alloc _) ⟨W14.heap.size, 0, none⟩ 1 1 [.string x.path, .int .i64 x.kind, .string x.data] rfl rfl (World.news_of_block (cs := #[.string x.path, .int .i64 x.kind, .string x.data]) (t := 54) (fr := (0, 0)) (Blk.new W14 _ _)) (by simp [Value.oneCell']) (by unfold maxLen; omega) (by omega) (by rw [World.size_alloc]; omega) ?_; intro v9 W9 hown9 hgrow9 hnil9)
                exact lf_next hlt2 Hnx.out.1 Hnx.out.2 (row_put Hm.out hown9) (Ext.grown (hE14'.alloc _) hgrow9 (fun j hj => (hrow14.out.lt j hj).1))
            · rcases xk with _ | _
              · have hgo : goesB e x = true := hgb
                clear hgb
                have Hnx : Hid (d = ((e.kind == 2) && dirF T e (j + 1)) ∧ leftF T e (j + 1) = leftF T e j) := Lib.hid ⟨by rw [hdn, hhe2, hxk, hek, ← Hdj.out]; simp, by rw [hln, hgo]; simp⟩
                clear hgo hdn hln hhe2 hd
                go_upto_region 11 with (fail)
                have hX := Blk.new wr 54 #[.string x.path, .int .i64 x.kind, .string x.data]
                have hEx : Ext wr (wr.alloc (.cells #[.string x.path, .int .i64 x.kind, .string x.data] 54)) := (Ext.refl wr).alloc _
                obtain ⟨xb, hxb⟩ : ∃ xb, wr.heap.size = xb := ⟨_, rfl⟩
                rw [hxb] at hX
                rw [hxb]
                clear hxb g0 g1 g2
                generalize wr.alloc (.cells #[.string x.path, .int .i64 x.kind, .string x.data] 54) = W10 at hX hEx ⊢
                have hE10 : Ext wo W10 := hEj.trans hEx
                obtain ⟨⟨x0, _⟩, ⟨x1, _⟩, ⟨x2, _⟩⟩ := hX.three
                obtain ⟨e0, e1, e2⟩ := Hq.out W10 (hE0.out.trans hE10)
                go_quiet (fail)
                obtain ⟨W11, hW11⟩ : ∃ W11, W10.drewN nq = W11 := ⟨_, rfl⟩
                try rw [hW11]
                have hE1011 : Ext W10 W11 := by rw [← hW11]; exact (Ext.refl W10).drewN _
                have hE11 : Ext wo W11 := hE10.trans hE1011
                clear hW11 x0 x1 x2 e0 e1 e2
                obtain ⟨⟨x0, _⟩, ⟨x1, _⟩, ⟨x2, _⟩⟩ := (hX.ext hE1011).three
                obtain ⟨e0, e1, e2⟩ := Hq.out W11 (hE0.out.trans hE11)
                have x0' := fun d os => cell_regrown x0 d os
                have x1' := fun d os => cell_regrown x1 d os
                have e0' := fun d os => cell_regrown e0 d os
                have e1' := fun d os => cell_regrown e1 d os
                go_upto_region 14 with (fail)
                (refine wp_region_quiet_below (by kernel_rfl) (by kernel_rfl) ?_; (repeat (go_big_quiet_step ((go_at_call 56; exact Calls.regrown_of (HU _))))); refine wpQuiet_nil ?_; intro _ hq; obtain ⟨⟨dq, osq⟩, hq2⟩ := hq; subst hq2)
                have hE14 := below_regrown W11 dq osq
                obtain ⟨W14, hW14⟩ : ∃ W14, Sort.grow (redrawn W11 dq) osq = W14 := ⟨_, rfl⟩
                rw [hW14] at hE14
                try rw [hW14]
                have hE1114 : Ext W11 W14 := hE14
                have hE14' : Ext wo W14 := hE11.trans hE1114
                have hrow14 := Lib.hid (own_ext Hrow.out (hEx.trans (hE1011.trans hE1114)))
                have hs14 := hE14'.size
                clear hW14 x0' x1' e0' e1' x0 x1 x2 e0 e1 e2
                obtain ⟨⟨x0, _⟩, ⟨x1, _⟩, ⟨x2, _⟩⟩ := (hX.ext (hE1011.trans hE1114)).three
                go_wp2
                exact lf_next hlt2 Hnx.out.1 Hnx.out.2 (by rw [Hm.out]; exact hrow14.out) hE14'
              · have hgo : goesB e x = false := hgb
                clear hgb
                have Hnx : Hid (true = ((e.kind == 2) && dirF T e (j + 1)) ∧ leftF T e (j + 1) = leftF T e j ++ [x]) := Lib.hid ⟨by rw [hdn, hhe2, hxk, hek, ← Hdj.out]; simp, by rw [hln, hgo]; simp⟩
                clear hgo hdn hln hhe2 hd
                go_upto_region 11 with (fail)
                have hX := Blk.new wr 54 #[.string x.path, .int .i64 x.kind, .string x.data]
                have hEx : Ext wr (wr.alloc (.cells #[.string x.path, .int .i64 x.kind, .string x.data] 54)) := (Ext.refl wr).alloc _
                obtain ⟨xb, hxb⟩ : ∃ xb, wr.heap.size = xb := ⟨_, rfl⟩
                rw [hxb] at hX
                rw [hxb]
                clear hxb g0 g1 g2
                generalize wr.alloc (.cells #[.string x.path, .int .i64 x.kind, .string x.data] 54) = W10 at hX hEx ⊢
                have hE10 : Ext wo W10 := hEj.trans hEx
                obtain ⟨⟨x0, _⟩, ⟨x1, _⟩, ⟨x2, _⟩⟩ := hX.three
                obtain ⟨e0, e1, e2⟩ := Hq.out W10 (hE0.out.trans hE10)
                go_quiet (fail)
                obtain ⟨W11, hW11⟩ : ∃ W11, W10.drewN nq = W11 := ⟨_, rfl⟩
                try rw [hW11]
                have hE1011 : Ext W10 W11 := by rw [← hW11]; exact (Ext.refl W10).drewN _
                have hE11 : Ext wo W11 := hE10.trans hE1011
                clear hW11 x0 x1 x2 e0 e1 e2
                obtain ⟨⟨x0, _⟩, ⟨x1, _⟩, ⟨x2, _⟩⟩ := (hX.ext hE1011).three
                obtain ⟨e0, e1, e2⟩ := Hq.out W11 (hE0.out.trans hE11)
                have x0' := fun d os => cell_regrown x0 d os
                have x1' := fun d os => cell_regrown x1 d os
                have e0' := fun d os => cell_regrown e0 d os
                have e1' := fun d os => cell_regrown e1 d os
                go_upto_region 14 with (fail)
                (refine wp_region_quiet_below (by kernel_rfl) (by kernel_rfl) ?_; (repeat (go_big_quiet_step ((go_at_call 56; exact Calls.regrown_of (HU _))))); refine wpQuiet_nil ?_; intro _ hq; obtain ⟨⟨dq, osq⟩, hq2⟩ := hq; subst hq2)
                have hE14 := below_regrown W11 dq osq
                obtain ⟨W14, hW14⟩ : ∃ W14, Sort.grow (redrawn W11 dq) osq = W14 := ⟨_, rfl⟩
                rw [hW14] at hE14
                try rw [hW14]
                have hE1114 : Ext W11 W14 := hE14
                have hE14' : Ext wo W14 := hE11.trans hE1114
                have hrow14 := Lib.hid (own_ext Hrow.out (hEx.trans (hE1011.trans hE1114)))
                have hs14 := hE14'.size
                clear hW14 x0' x1' e0' e1' x0 x1 x2 e0 e1 e2
                obtain ⟨⟨x0, _⟩, ⟨x1, _⟩, ⟨x2, _⟩⟩ := (hX.ext (hE1011.trans hE1114)).three
                go_wp2_with (at_builtin; refine wpList_append_own _ rfl _ _ 55 rfl wo.heap.size 54 i0 (.agg #[.string ⟨#[]⟩, .int .i64 0, .string ⟨#[]⟩]) 3 40 Tryz.underlying55 hi hz0 hz1 hz2 rfl (by decide) _ _ _ rfl (hrow14.out.alloc _) ⟨W14.heap.size, 0, none⟩ 1 1 [.string x.path, .int .i64 x.kind, .string x.data] rfl rfl (World.news_of_block (cs := #[.string x.path, .int .i64 x.kind, .string x.data]) (t := 54) (fr := (0, 0)) (Blk.new W14 _ _)) (by simp [Value.oneCell']) (by unfold maxLen; omega) (by omega) (by rw [World.size_alloc]; omega) ?_; intro v9 W9 hown9 hgrow9 hnil9)
                exact lf_next hlt2 Hnx.out.1 Hnx.out.2 (row_put Hm.out hown9) (Ext.grown (hE14'.alloc _) hgrow9 (fun j hj => (hrow14.out.lt j hj).1))
        · have hj2 : j = n2 := by omega
          have hend : leftF T e j = stayT T e ∧ dirF T e j = dirB T e := by
            rw [leftF, dirF, List.take_of_length_le (by have := Hn2.out; omega)]
            exact ⟨rfl, rfl⟩
          have hsl := stay_len T e
          have hrow' := hrow
          rw [hend.1] at hrow'
          have Hst := Lib.hid (RdE.of_own hrow' (by have := Hn2.out; omega) (fun y hy => entOk_fits (HTm.out y (List.mem_filter.1 hy).1).1))
          have hdb : d = ((e.kind == 2) && dirB T e) := by rw [hd.out, hend.2]
          obtain ⟨e0, e1, e2⟩ := Hq.out wr (hE0.out.trans hEj)
          obtain ⟨A7, c7, rfl⟩ := own_form hrow
          have Hfe := Lib.hid hfe
          have Hdb := Lib.hid hdb
          clear hrow hrow' hsl hdb hd hfe hj2
          have hk1 := entOk_kind Hoe.out
          by_cases hk2 : e.kind = 1
          · have k1 : (e.kind == 1) = true := by simpa using hk2
            have k2 : (e.kind == 2) = false := by rw [hk2]; rfl
            have k4 : (e.kind == 4) = false := by rw [hk2]; rfl
            have hk3 : True := trivial
            have hk4 : True := trivial
            have Hs2 : Hid (overT t (l.take (k + 1)) = insT (stayT T e) e) := Lib.hid (by rw [Hstep.out]; exact if_pos hk2)
            have HW := fun (v' : Value) (W : World) h => RWith_any v' (stayT T e) e W h (List.Pairwise.filter _ HTr.out) Hfe.out (by have := stay_len T e; have := Hn2.out; omega)
            clear hend hk1 hk2 hk3 hk4
            go_wp2_with (go_at_call 57; refine (HW _ _ Hst.out).mono ?_; rintro e' W9 ⟨v9, rfl, hr9, hE9⟩; obtain ⟨e0', e1', e2'⟩ := Hq.out W9 (hE0.out.trans (hEj.trans hE9)))
            exact rov_next hlt (by rw [Hs2.out]; exact hr9) (hE.trans (hEj.trans hE9))
          · have k1 : (e.kind == 1) = false := by simpa using hk2
            by_cases hk3 : e.kind = 2
            · have k2 : (e.kind == 2) = true := by simpa using hk3
              have hk4 : True := trivial
              rcases hdb2 : dirB T e with _ | _
              · have hdd : d = false := by rw [Hdb.out, hdb2, k2]; rfl
                subst hdd
                have Hdb2 := Lib.hid hdb2
                clear hdb2
                have Hs2 : Hid (overT t (l.take (k + 1)) = insT (stayT T e) ⟨e.path, 2, ⟨#[]⟩⟩) := Lib.hid (by rw [Hstep.out]; rw [if_neg hk2, if_pos (.inl ⟨hk3, Hdb2.out⟩)])
                have HW := fun (v' : Value) (W : World) h => RWith_any v' (stayT T e) ⟨e.path, 2, ⟨#[]⟩⟩ W h (List.Pairwise.filter _ HTr.out) ⟨Hfe.out.1, by show (⟨#[]⟩ : ByteArray).size ≤ _; decide⟩ (by have := stay_len T e; have := Hn2.out; omega)
                clear hend hk1 hk2 hk3 hk4
                go_wp2_with (go_at_call 57; refine (HW _ _ Hst.out).mono ?_; rintro e' W9 ⟨v9, rfl, hr9, hE9⟩; obtain ⟨e0', e1', e2'⟩ := Hq.out W9 (hE0.out.trans (hEj.trans hE9)))
                exact rov_next hlt (by rw [Hs2.out]; exact hr9) (hE.trans (hEj.trans hE9))
              · have hdd : d = true := by rw [Hdb.out, hdb2, k2]; rfl
                subst hdd
                have k4 : (e.kind == 4) = false := by rw [hk3]; rfl
                have Hdb2 := Lib.hid hdb2
                clear hdb2
                have Hs2 : Hid (overT t (l.take (k + 1)) = stayT T e) := Lib.hid (by rw [Hstep.out]; rw [if_neg hk2, if_neg (by rw [Hdb2.out]; simp; omega)])
                clear hend hk1 hk2 hk3 hk4
                go_wp2
                exact rov_next hlt (by rw [Hs2.out]; exact Hst.out) (hE.trans hEj)
            · have k2 : (e.kind == 2) = false := by simpa using hk3
              by_cases hk4 : e.kind = 4
              · have k4 : (e.kind == 4) = true := by simpa using hk4
                have Hs2 : Hid (overT t (l.take (k + 1)) = insT (stayT T e) ⟨e.path, 2, ⟨#[]⟩⟩) := Lib.hid (by rw [Hstep.out]; rw [if_neg hk2, if_pos (.inr hk4)])
                have HW := fun (v' : Value) (W : World) h => RWith_any v' (stayT T e) ⟨e.path, 2, ⟨#[]⟩⟩ W h (List.Pairwise.filter _ HTr.out) ⟨Hfe.out.1, by show (⟨#[]⟩ : ByteArray).size ≤ _; decide⟩ (by have := stay_len T e; have := Hn2.out; omega)
                clear hend hk1 hk2 hk3 hk4
                go_wp2_with (go_at_call 57; refine (HW _ _ Hst.out).mono ?_; rintro e' W9 ⟨v9, rfl, hr9, hE9⟩; obtain ⟨e0', e1', e2'⟩ := Hq.out W9 (hE0.out.trans (hEj.trans hE9)))
                exact rov_next hlt (by rw [Hs2.out]; exact hr9) (hE.trans (hEj.trans hE9))
              · have k4 : (e.kind == 4) = false := by simpa using hk4
                have Hs2 : Hid (overT t (l.take (k + 1)) = stayT T e) := Lib.hid (by rw [Hstep.out]; rw [if_neg hk2, if_neg (by simp [hk3, hk4])])
                clear hend hk1 hk2 hk3 hk4
                go_wp2
                exact rov_next hlt (by rw [Hs2.out]; exact Hst.out) (hE.trans hEj)
    · have hkn' : k = n := by omega
      have hfin : RdE wr u5 (overT t l) := by
        have := hrd.out
        rwa [List.take_of_length_le (by have := Hn.out; omega)] at this
      have Hfin := Lib.hid hfin
      clear hfin hrd
      go_wp2
      go_ret
      exact ⟨_, rfl, Hfin.out, hE5.trans hE⟩
end Go.Proofs.YthadldnojdjlnaaGreatDoor

/-! RAt -/
namespace Go.Proofs.YthadldnojdjlnaaGreatDoor
open Go Go.RowKit Go.Shelf Go.Proofs

def RstRel (s : List (List Ent)) (n : Nat) (w : World) (v3 v4 : Value) (wr : World) : Prop := ∃ k : Nat, v4 = .int .i64 k ∧ k ≤ n ∧ Hid (RdE wr v3 (foldT (s.take k))) ∧ Ext w wr
theorem rst_next {s : List (List Ent)} {n k : Nat} {w W : World} {v3 : Value} (hlt : k < n) (h : RdE W v3 (foldT (s.take (k + 1)))) (hE : Ext w W) :
    RstRel s n w v3 (.int .i64 ((k : Int) + 1)) W ∧ n - (intOf (.int .i64 ((k : Int) + 1))).toNat < n - (intOf (.int .i64 (k : Int))).toNat :=
  ⟨⟨k + 1, by simp, by omega, Lib.hid h, hE⟩, by simp [intOf]; omega⟩

set_option maxHeartbeats 4000000 in
set_option maxRecDepth 20000 in
theorem RFold_any (v : Value) (s : List (List Ent)) (w : World) (hv : RdK w v s) (hst : stackOk s = true) : Calls Tryz.prog 25 #[v] w (RdAns (foldT s) w) := by
  obtain ⟨h9, hl⟩ := stackOk_layers hst
  have hft := fun k (hk : k ≤ s.length) => fold_take hl h9 k hk
  obtain ⟨n, hn⟩ : ∃ n, n = s.length := ⟨_, rfl⟩
  have Hn := Lib.hid hn
  obtain ⟨A, c, rfl, hc1, hc2, Hcell⟩ := RdK.form hv hn
  rw [← hn] at h9
  have Hl := Lib.hid hl
  have Hft := Lib.hid hft
  clear hn hv hst hl hft
  go_enter Tryz.func25, Tryz.ntmps25
  go_wp2
  go_loopw [3, 4] (fun v3 v4 wr => RstRel s n w v3 v4 wr) (fun _ v4 _ => n - (intOf v4).toNat)
  case atStart => exact ⟨0, rfl, Nat.zero_le _, Lib.hid (Rd.nil _ _ _), Ext.refl _⟩
  case round =>
    obtain ⟨k, rfl, hkn, hrd, hE⟩ := hrel
    by_cases hlt : k < n
    · have hh : k < s.length := by have := Hn.out; omega
      obtain ⟨b, o, rfl, hcell⟩ := Hcell.out (List.ne_nil_of_length_pos (by omega))
      obtain ⟨u, q0, hu⟩ := hcell k hh
      have g0 := hE.cell q0
      have Hu := Lib.hid (hu.ext hE)
      have h1 := Hft.out k (by omega)
      have hlk := Hl.out _ (List.getElem_mem hh)
      have h64 := layerOk_len hlk
      have HO := fun W a1 a2 => ROver_any u3 u (foldT (s.take k)) (s[k]'hh) W a1 a2 h1.1 hlk (by have := h1.2.1; omega)
      rw [← foldT_take hh] at HO
      have HOh := Lib.hid HO
      clear q0 hu hcell h1 hlk h64 HO
      go_wp2_with (go_at_call 43; refine (HOh.out _ (hrd.out.ext (by exact (by repeat (first | exact Ext.refl _ | assumption | refine Ext.alloc ?_ _ | refine Ext.drew ?_ | refine Ext.drewN ?_ _ | refine Ext.setCell ?_ (by first | omega | (simp; done) | (simp; omega)) _ | refine Ext.trans ?_ (by assumption))))) (Hu.out.ext (by exact (by repeat (first | exact Ext.refl _ | assumption | refine Ext.alloc ?_ _ | refine Ext.drew ?_ | refine Ext.drewN ?_ _ | refine Ext.setCell ?_ (by first | omega | (simp; done) | (simp; omega)) _ | refine Ext.trans ?_ (by assumption)))))).mono ?_; rintro e W3 ⟨v4, rfl, hrd4, hE3⟩)
      exact rst_next hlt hrd4 (hE.trans hE3)
    · have hfin := hrd.out
      rw [List.take_of_length_le (by have := Hn.out; omega)] at hfin
      have Hfin := Lib.hid hfin
      clear hfin hrd
      go_wp2
      go_ret
      exact ⟨_, rfl, Hfin.out, hE⟩

/-! ### Kind, Data -/

def kindR (t : List Ent) (p : ByteArray) : Int × Int := match names p with
  | none => (0, 2)
  | some ys => if ys = [] then (2, 0) else match findT t p with
    | some x => (x.kind, 0)
    | none => (0, 3)
def dataR (t : List Ent) (p : ByteArray) : ByteArray := match findT t p with
  | some x => x.data
  | none => ⟨#[]⟩

theorem find_hit {t : List Ent} {p : ByteArray} {k : Nat} (hh : k < t.length) (h : t[k].path = p) (hb : ∀ (j : Nat) (h : j < t.length), j < k → t[j].path ≠ p) : findT t p = some t[k] := by
  rw [findT, List.find?_eq_some_iff_getElem]
  refine ⟨by simp [h], k, hh, rfl, fun j hj => ?_⟩
  simp [hb j (by omega) hj]

set_option maxHeartbeats 4000000 in
set_option maxRecDepth 20000 in
theorem RKind_any (v : Value) (t : List Ent) (p : ByteArray) (w : World) (hv : RdE w v t) (hp : p.size ≤ 140737488355328) :
    Calls Tryz.prog 26 #[v, .string p] w fun e w' => e = .returned (.tuple #[.int .i64 (kindR t p).1, .int .i64 (kindR t p).2]) ∧ Ext w w' := by
  have HS := fun W => RSplit_any p hp W
  have hre := root_eq p
  obtain ⟨n, hn⟩ : ∃ n, n = t.length := ⟨_, rfl⟩
  have Hn := Lib.hid hn
  obtain ⟨A, c, rfl, hc1, hc2, Hcell⟩ := rdE_form hv hn
  clear hn hv
  obtain ⟨r, hr⟩ : ∃ r, kindR t p = r := ⟨_, rfl⟩
  have hr2 : (match names p with | none => ((0 : Int), (2 : Int)) | some ys => if ys = [] then (2, 0) else match findT t p with | some x => (x.kind, 0) | none => (0, 3)) = r := hr
  rw [hr]
  rcases hnm : names p with _ | xs
  · have HS2 : ∀ W, Calls Tryz.prog 24 #[.string p] W fun e w' => e = .returned (.tuple #[.slice none 0 0, .bool false]) ∧ Ext W w' := fun W => (HS W).mono fun e w' h => by
      rcases h with ⟨xs, v, h1, h2, h3, h4⟩ | ⟨_, h⟩
      · rw [hnm] at h1; cases h1
      · exact h
    rw [hnm] at hr2
    subst hr2
    clear HS hnm hr hre
    go_enter Tryz.func26, Tryz.ntmps26
    go_wp2_with (go_at_call 24; refine (HS2 _).mono ?_; rintro e W1 ⟨rfl, hE1⟩)
    go_ret2
    exact ⟨rfl, by exact (by repeat (first | exact Ext.refl _ | assumption | refine Ext.alloc ?_ _ | refine Ext.drew ?_ | refine Ext.drewN ?_ _ | refine Ext.setCell ?_ (by first | omega | (simp; done) | (simp; omega)) _ | refine Ext.trans ?_ (by assumption)))⟩
  · have HS2 : ∀ W, Calls Tryz.prog 24 #[.string p] W fun e w' => ∃ v, e = .returned (.tuple #[v, .bool true]) ∧ Ext W w' := fun W => (HS W).mono fun e w' h => by
      rcases h with ⟨ys, v, h1, h2, h3, h4⟩ | ⟨h1, h⟩
      · exact ⟨v, h2, h4⟩
      · rw [hnm] at h1; cases h1
    rw [hnm] at hr2
    dsimp only at hr2
    by_cases h0 : xs = []
    · have hpr : p = ⟨#[47]⟩ := by
        have := (ValN.of hnm).2
        rw [h0] at this
        exact this.symm
      rw [decide_eq_true hpr] at hre
      rw [if_pos h0] at hr2
      subst hr2
      clear HS hnm hr hpr h0
      go_enter Tryz.func26, Tryz.ntmps26
      go_wp2_with (go_at_call 24; refine (HS2 _).mono ?_; rintro e W1 ⟨v1, rfl, hE1⟩)
      go_ret2
      exact ⟨rfl, by exact (by repeat (first | exact Ext.refl _ | assumption | refine Ext.alloc ?_ _ | refine Ext.drew ?_ | refine Ext.drewN ?_ _ | refine Ext.setCell ?_ (by first | omega | (simp; done) | (simp; omega)) _ | refine Ext.trans ?_ (by assumption)))⟩
    · rw [decide_eq_false (names_ne_root hnm h0)] at hre
      rw [if_neg h0] at hr2
      have Hr2 := Lib.hid hr2
      clear HS hnm hr h0 hr2
      go_enter Tryz.func26, Tryz.ntmps26
      go_upto_region 7 with (go_at_call 24; refine (HS2 _).mono ?_; rintro e W1 ⟨v1, rfl, hE1⟩)
      go_loopw [8] (fun i wr => ∃ k : Nat, i = .int .i64 k ∧ k ≤ n ∧ Hid (∀ (j : Nat) (h : j < t.length), j < k → t[j].path ≠ p) ∧ Ext w wr) (fun i _ => n - (intOf i).toNat)
      case atStart => exact ⟨0, rfl, Nat.zero_le _, Lib.hid fun j _ h => absurd h (Nat.not_lt_zero j), by exact (by repeat (first | exact Ext.refl _ | assumption | refine Ext.alloc ?_ _ | refine Ext.drew ?_ | refine Ext.drewN ?_ _ | refine Ext.setCell ?_ (by first | omega | (simp; done) | (simp; omega)) _ | refine Ext.trans ?_ (by assumption)))⟩
      case round =>
        obtain ⟨k, rfl, hkn, hall, hE⟩ := hrel
        by_cases hlt : k < n
        · have hh : k < t.length := by have := Hn.out; omega
          obtain ⟨b, o, rfl, hcell⟩ := Hcell.out (List.ne_nil_of_length_pos (by omega))
          obtain ⟨q0, q1, q2, _⟩ := hcell k hh
          obtain ⟨x, hx⟩ : ∃ x, t[k]'hh = x := ⟨_, rfl⟩
          rw [hx] at q0 q1 q2
          have g0 := hE.cell q0
          have g1 := hE.cell q1
          have hpe := path_eqR x.path p
          by_cases hxp : x.path = p
          · rw [decide_eq_true hxp] at hpe
            have hf := find_hit hh (by rw [hx]; exact hxp) hall.out
            rw [hx] at hf
            have Hr3 := Lib.hid Hr2.out
            have Hr4 : Hid (r = (x.kind, 0)) := Lib.hid (by rw [← Hr2.out, hf])
            clear q0 q1 q2 hcell hx hxp hf
            go_wp2
            go_ret2
            exact ⟨by rw [Hr4.out]; rfl, hE⟩
          · rw [decide_eq_false hxp] at hpe
            have Hnx : Hid (∀ (j : Nat) (h : j < t.length), j < k + 1 → t[j].path ≠ p) := Lib.hid fun j hj hjk => by
              by_cases e : j = k
              · subst e; rw [hx]; exact hxp
              · exact hall.out j hj (by omega)
            clear q0 q1 q2 hcell hx hxp
            go_wp2
            exact ⟨⟨k + 1, by simp, by omega, Hnx, hE⟩, by simp [intOf]; omega⟩
        · have hf : findT t p = none := findT_not fun y hy => by
            obtain ⟨j, hj, rfl⟩ := List.getElem_of_mem hy
            exact hall.out j hj (by have := Hn.out; omega)
          have Hr4 : Hid (r = (0, 3)) := Lib.hid (by rw [← Hr2.out, hf])
          clear hf
          go_wp2
          go_ret2
          exact ⟨by rw [Hr4.out]; rfl, hE⟩

set_option maxHeartbeats 4000000 in
set_option maxRecDepth 20000 in
theorem RData_any (v : Value) (t : List Ent) (p : ByteArray) (w : World) (hv : RdE w v t) :
    Calls Tryz.prog 28 #[v, .string p] w fun e w' => e = .returned (.string (dataR t p)) ∧ Ext w w' := by
  obtain ⟨n, hn⟩ : ∃ n, n = t.length := ⟨_, rfl⟩
  have Hn := Lib.hid hn
  obtain ⟨A, c, rfl, hc1, hc2, Hcell⟩ := rdE_form hv hn
  clear hn hv
  go_enter Tryz.func28, Tryz.ntmps28
  go_wp2
  go_loopw [5] (fun i wr => ∃ k : Nat, i = .int .i64 k ∧ k ≤ n ∧ Hid (∀ (j : Nat) (h : j < t.length), j < k → t[j].path ≠ p) ∧ Ext w wr) (fun i _ => n - (intOf i).toNat)
  case atStart => exact ⟨0, rfl, Nat.zero_le _, Lib.hid fun j _ h => absurd h (Nat.not_lt_zero j), Ext.refl _⟩
  case round =>
    obtain ⟨k, rfl, hkn, hall, hE⟩ := hrel
    by_cases hlt : k < n
    · have hh : k < t.length := by have := Hn.out; omega
      obtain ⟨b, o, rfl, hcell⟩ := Hcell.out (List.ne_nil_of_length_pos (by omega))
      obtain ⟨q0, q1, q2, _⟩ := hcell k hh
      obtain ⟨x, hx⟩ : ∃ x, t[k]'hh = x := ⟨_, rfl⟩
      rw [hx] at q0 q1 q2
      have g0 := hE.cell q0
      have g2 := hE.cell q2
      have hpe := path_eqR x.path p
      by_cases hxp : x.path = p
      · rw [decide_eq_true hxp] at hpe
        have hf := find_hit hh (by rw [hx]; exact hxp) hall.out
        rw [hx] at hf
        have Hr4 : Hid (dataR t p = x.data) := Lib.hid (by rw [dataR, hf])
        clear q0 q1 q2 hcell hx hxp hf
        go_wp2
        go_ret
        exact ⟨by rw [Hr4.out]; rfl, hE⟩
      · rw [decide_eq_false hxp] at hpe
        have Hnx : Hid (∀ (j : Nat) (h : j < t.length), j < k + 1 → t[j].path ≠ p) := Lib.hid fun j hj hjk => by
          by_cases e : j = k
          · subst e; rw [hx]; exact hxp
          · exact hall.out j hj (by omega)
        clear q0 q1 q2 hcell hx hxp
        go_wp2
        exact ⟨⟨k + 1, by simp, by omega, Hnx, hE⟩, by simp [intOf]; omega⟩
    · have hf : findT t p = none := findT_not fun y hy => by
        obtain ⟨j, hj, rfl⟩ := List.getElem_of_mem hy
        exact hall.out j hj (by have := Hn.out; omega)
      have Hr4 : Hid (dataR t p = ⟨#[]⟩) := Lib.hid (by rw [dataR, hf])
      clear hf
      go_wp2
      go_ret
      exact ⟨by rw [Hr4.out]; rfl, hE⟩

/-! ### At -/

theorem lookS_bad {s : List (List Ent)} {ys : List ByteArray} {i : Nat} {c : Int} (h : lookS s ys i = .error c) : ∀ j, i ≤ j → lookS s ys j = .error c
  | 0, hj => by
    have : i = 0 := by omega
    subst this
    exact h
  | j + 1, hj => by
    by_cases e : i = j + 1
    · subst e; exact h
    · rw [lookS, lookS_bad h j (by omega)]

def atR (s : List (List Ent)) (p : ByteArray) : Int × ByteArray × Int := match names p with
  | none => (0, ⟨#[]⟩, 2)
  | some ys => match lookS s ys ys.length with
    | .error c => (0, ⟨#[]⟩, c)
    | .ok x => (x.kind, x.data, 0)

theorem kindR_root (t : List Ent) : kindR t ⟨#[47]⟩ = (2, 0) := by rw [kindR, names_root]; rfl
theorem kindR_deep {t : List Ent} {xs : List ByteArray} (hv : ValN xs) (h0 : xs ≠ []) : kindR t (pathOf xs) = match findT t (pathOf xs) with | some x => (x.kind, 0) | none => (0, 3) := by
  rw [kindR, hv.names]
  exact if_neg h0

/-- One name on. -/
theorem lookS_step {s : List (List Ent)} {ys : List ByteArray} {i : Nat} {x : Ent} (h : lookS s ys i = .ok x) (hk : x.kind ≠ 1) : lookS s ys (i + 1) = match showL s (pathOf (ys.take (i + 1))) with | none => .error 3 | some e => .ok e := by
  rw [lookS, h]
  exact if_neg hk
theorem lookS_file {s : List (List Ent)} {ys : List ByteArray} {i : Nat} {x : Ent} (h : lookS s ys i = .ok x) (hk : x.kind = 1) : lookS s ys (i + 1) = .error 6 := by
  rw [lookS, h]
  exact if_pos hk

/-- What Kind says of a beginning of the path. -/
theorem kind_step {s : List (List Ent)} {t ys' : List Ent} {ys : List ByteArray} (hf : ∀ p, findT t p = showL s p) (hv : ValN ys) {i : Nat} (hi : i ≤ ys.length) (hall : ∀ j, j < i → ∃ x, lookS s ys j = .ok x ∧ x.kind ≠ 1) :
    (∃ e, kindR t (pathOf (ys.take i)) = (e.kind, 0) ∧ lookS s ys i = .ok e ∧ (dataR t (pathOf (ys.take i)) = e.data)) ∨ (kindR t (pathOf (ys.take i)) = (0, 3) ∧ lookS s ys i = .error 3 ∧ dataR t (pathOf (ys.take i)) = ⟨#[]⟩) ∨ (i = 0 ∧ ys' = ys') := by
  rcases i with _ | i
  · exact .inr (.inr ⟨rfl, rfl⟩)
  · obtain ⟨x, h1, h2⟩ := hall i (by omega)
    have h3 := lookS_step h1 h2
    have h0 : ys.take (i + 1) ≠ [] := by
      intro h
      have := congrArg List.length h
      rw [List.length_take, List.length_nil] at this
      omega
    have h4 := kindR_deep (t := t) (hv.take (i + 1)) h0
    rw [hf] at h4
    rcases hs : showL s (pathOf (ys.take (i + 1))) with _ | e
    · rw [hs] at h3 h4
      exact .inr (.inl ⟨h4, h3, by rw [dataR, hf, hs]⟩)
    · rw [hs] at h3 h4
      exact .inl ⟨e, h4, h3, by rw [dataR, hf, hs]⟩

def ArRel (s : List (List Ent)) (ys : List ByteArray) (n : Nat) (w : World) (i : Value) (wr : World) : Prop :=
  ∃ k : Nat, i = .int .i64 k ∧ k ≤ n ∧ Hid (∀ j, j < k → ∃ x, lookS s ys j = .ok x ∧ x.kind ≠ 1) ∧ Ext w wr
theorem ar_next {s : List (List Ent)} {ys : List ByteArray} {n k : Nat} {w W : World} (hlt : k < n) (hall : Hid (∀ j, j < k → ∃ x, lookS s ys j = .ok x ∧ x.kind ≠ 1)) {x : Ent} (h : lookS s ys k = .ok x) (hk : x.kind ≠ 1) (hE : Ext w W) :
    ArRel s ys n w (.int .i64 ((k : Int) + 1)) W ∧ n - (intOf (.int .i64 ((k : Int) + 1))).toNat < n - (intOf (.int .i64 (k : Int))).toNat := by
  refine ⟨⟨k + 1, by simp, by omega, Lib.hid fun j hj => ?_, hE⟩, by simp [intOf]; omega⟩
  by_cases e : j = k
  · subst e; exact ⟨x, h, hk⟩
  · exact hall.out j (by omega)

def RAtAns (r : Int × ByteArray × Int) (w : World) (e : Ending) (w' : World) : Prop := e = .returned (.tuple #[.int .i64 r.1, .string r.2.1, .int .i64 r.2.2]) ∧ Ext w w'

set_option maxHeartbeats 8000000 in
set_option maxRecDepth 20000 in
theorem RAt_any (v : Value) (s : List (List Ent)) (p : ByteArray) (w : World) (hv : RdK w v s) (hst : stackOk s = true) (hp : p.size ≤ 140737488355328) :
    Calls Tryz.prog 14 #[v, .string p] w (RAtAns (atR s p) w) := by
  have HS := fun W => RSplit_any p hp W
  have HF := fun W h => RFold_any v s W h hst
  obtain ⟨t1, _, hf⟩ := fold_show hst
  have Hv := Lib.hid hv
  obtain ⟨r, hr⟩ : ∃ r, atR s p = r := ⟨_, rfl⟩
  rw [hr]
  obtain ⟨A, c, rfl, _, _, _⟩ := RdK.form hv rfl
  rcases hnm : names p with _ | ys
  · have HS2 : ∀ W, Calls Tryz.prog 24 #[.string p] W fun e w' => e = .returned (.tuple #[.slice none 0 0, .bool false]) ∧ Ext W w' := fun W => (HS W).mono fun e w' h => by
      rcases h with ⟨xs, v, h1, h2, h3, h4⟩ | ⟨_, h⟩
      · rw [hnm] at h1; cases h1
      · exact h
    have hr2 : r = (0, ⟨#[]⟩, 2) := by rw [← hr, atR, hnm]
    have Hr2 := Lib.hid hr2
    clear HS hnm hr hr2 hv hst hf t1
    go_enter Tryz.func14, Tryz.ntmps14
    go_wp2_with (go_at_call 24; refine (HS2 _).mono ?_; rintro e W1 ⟨rfl, hE1⟩)
    refine bodyPost_ret (v := .tuple #[.int .i64 0, .string ⟨#[]⟩, .int .i64 2]) (by simp [results, Tryz.f14, go_sem]) rfl ?_
    rw [Hr2.out]
    exact ⟨rfl, by exact (by repeat (first | exact Ext.refl _ | assumption | refine Ext.alloc ?_ _ | refine Ext.drew ?_ | refine Ext.drewN ?_ _ | refine Ext.setCell ?_ (by first | omega | (simp; done) | (simp; omega)) _ | refine Ext.trans ?_ (by assumption)))⟩
  · have HS2 : ∀ W, Calls Tryz.prog 24 #[.string p] W fun e w' => ∃ v, e = .returned (.tuple #[v, .bool true]) ∧ RdS w' v ys ∧ Ext W w' := fun W => (HS W).mono fun e w' h => by
      rcases h with ⟨xs, v, h1, h2, h3, h4⟩ | ⟨h1, h⟩
      · rw [hnm] at h1
        cases h1
        exact ⟨v, h2, h3, h4⟩
      · rw [hnm] at h1; cases h1
    obtain ⟨hvn, hpe⟩ := ValN.of hnm
    have hr2 : r = match lookS s ys ys.length with | .error c => (0, ⟨#[]⟩, c) | .ok x => (x.kind, x.data, 0) := by rw [← hr, atR, hnm]
    have Hr2 := Lib.hid hr2
    have Hvn := Lib.hid hvn
    have Hpe := Lib.hid hpe
    have Hf := Lib.hid hf
    have Ht1 := Lib.hid t1
    obtain ⟨n, hn⟩ : ∃ n, n = ys.length := ⟨_, rfl⟩
    have hn6 : n ≤ 6 := by have := hvn.2; omega
    have Hn := Lib.hid hn
    obtain ⟨T, hT⟩ : ∃ T, foldT s = T := ⟨_, rfl⟩
    rw [hT] at HF Hf Ht1
    clear HS hnm hr hr2 hv hst hf t1 hvn hpe hT
    go_enter Tryz.func14, Tryz.ntmps14
    go_upto_region 6 with (first | (go_at_call 24; refine (HS2 _).mono ?_; rintro e W1 ⟨v1, rfl, hr1, hE1⟩; have Hr1 := Lib.hid hr1; obtain ⟨A1, c1, rfl, hc1, hc2, _⟩ := rdS_form hr1 hn; clear hr1 hn) | (go_at_call 25; refine (HF _ (Hv.out.ext (by exact (by repeat (first | exact Ext.refl _ | assumption | refine Ext.alloc ?_ _ | refine Ext.drew ?_ | refine Ext.drewN ?_ _ | refine Ext.setCell ?_ (by first | omega | (simp; done) | (simp; omega)) _ | refine Ext.trans ?_ (by assumption)))))).mono ?_; rintro e W2 ⟨v2, rfl, hr2, hE2⟩; have HT2 := Lib.hid hr2; clear hr2))
    have HE2 := Lib.hid (show Ext w W2 by exact (by repeat (first | exact Ext.refl _ | assumption | refine Ext.alloc ?_ _ | refine Ext.drew ?_ | refine Ext.drewN ?_ _ | refine Ext.setCell ?_ (by first | omega | (simp; done) | (simp; omega)) _ | refine Ext.trans ?_ (by assumption))))
    have Hr12 := Lib.hid (Hr1.out.ext hE2)
    clear hE1 hE2
    go_loopw [10] (fun i wr => ArRel s ys n W2 i wr) (fun i _ => n - (intOf i).toNat)
    case atStart => exact ⟨0, rfl, Nat.zero_le _, Lib.hid fun j h => absurd h (Nat.not_lt_zero j), Ext.refl _⟩
    case round =>
      obtain ⟨k, rfl, hkn, hall, hE⟩ := hrel
      have hks := kind_step (ys' := []) Hf.out Hvn.out (show k ≤ ys.length by have := Hn.out; omega) hall.out
      by_cases hlt : k < n
      · have hh : k < ys.length := by have := Hn.out; omega
        have hpre : RdS W2 (.slice A1 (ys.take k).length c1) (ys.take k) := by
          have h1 := Hr12.out
          rw [Hn.out, ← List.take_append_drop k ys] at h1
          exact Rd.left h1
        rw [List.length_take, Nat.min_eq_left (by omega)] at hpre
        have Hpre := Lib.hid hpre
        have HJ := fun W h => RJoin_any (.slice A1 k c1) (ys.take k) W h (fun x hx => nameB_size (List.all_eq_true.1 Hvn.out.1 x (List.mem_of_mem_take hx))) (by rw [List.length_take]; omega)
        have hqs := pathOf_size (Hvn.out.take k).1 (Hvn.out.take k).2
        obtain ⟨q, hq⟩ : ∃ q, pathOf (ys.take k) = q := ⟨_, rfl⟩
        rw [hq] at HJ hqs hks
        have HK := fun W h => RKind_any v2 T q W h (by omega)
        have hkc : (k : Int) ≤ (c1 : Int) := by omega
        have hroot : k = 0 → q = ⟨#[47]⟩ := fun h => by rw [← hq, h]; rfl
        clear hpre
        rcases hks with ⟨e, hke, hle, hz9⟩ | ⟨hke, hle, hz9⟩ | ⟨h0, hz9⟩ <;> clear hz9
        · rw [hke] at HK
          have Hle := Lib.hid hle
          by_cases hk1 : e.kind = 1
          · have k1 : (e.kind == 1) = true := by simpa using hk1
            have hfin : r = (0, ⟨#[]⟩, 6) := by rw [Hr2.out, lookS_bad (lookS_file hle hk1) _ (by omega)]
            have Hfin := Lib.hid hfin
            clear hke hle hk1 hfin hq hroot
            go_wp2_with (first | (go_at_call 27; refine (HJ _ (Hpre.out.ext (hE.trans (by exact (by repeat (first | exact Ext.refl _ | assumption | refine Ext.alloc ?_ _ | refine Ext.drew ?_ | refine Ext.drewN ?_ _ | refine Ext.setCell ?_ (by first | omega | (simp; done) | (simp; omega)) _ | refine Ext.trans ?_ (by assumption))))))).mono ?_; rintro e W3 ⟨rfl, hE3⟩) | (go_at_call 26; refine (HK _ (HT2.out.ext (hE.trans (by exact (by repeat (first | exact Ext.refl _ | assumption | refine Ext.alloc ?_ _ | refine Ext.drew ?_ | refine Ext.drewN ?_ _ | refine Ext.setCell ?_ (by first | omega | (simp; done) | (simp; omega)) _ | refine Ext.trans ?_ (by assumption))))))).mono ?_; rintro e W4 ⟨rfl, hE4⟩))
            refine bodyPost_ret (v := .tuple #[.int .i64 0, .string ⟨#[]⟩, .int .i64 6]) (by simp [results, Tryz.f14, go_sem]) rfl ?_
            rw [Hfin.out]
            exact ⟨rfl, HE2.out.trans (hE.trans (by exact (by repeat (first | exact Ext.refl _ | assumption | refine Ext.alloc ?_ _ | refine Ext.drew ?_ | refine Ext.drewN ?_ _ | refine Ext.setCell ?_ (by first | omega | (simp; done) | (simp; omega)) _ | refine Ext.trans ?_ (by assumption)))))⟩
          · have k1 : (e.kind == 1) = false := by simpa using hk1
            have Hk1 := Lib.hid hk1
            clear hke hle hk1 hq hroot
            go_wp2_with (first | (go_at_call 27; refine (HJ _ (Hpre.out.ext (hE.trans (by exact (by repeat (first | exact Ext.refl _ | assumption | refine Ext.alloc ?_ _ | refine Ext.drew ?_ | refine Ext.drewN ?_ _ | refine Ext.setCell ?_ (by first | omega | (simp; done) | (simp; omega)) _ | refine Ext.trans ?_ (by assumption))))))).mono ?_; rintro e W3 ⟨rfl, hE3⟩) | (go_at_call 26; refine (HK _ (HT2.out.ext (hE.trans (by exact (by repeat (first | exact Ext.refl _ | assumption | refine Ext.alloc ?_ _ | refine Ext.drew ?_ | refine Ext.drewN ?_ _ | refine Ext.setCell ?_ (by first | omega | (simp; done) | (simp; omega)) _ | refine Ext.trans ?_ (by assumption))))))).mono ?_; rintro e W4 ⟨rfl, hE4⟩))
            exact ar_next hlt hall Hle.out Hk1.out (hE.trans (by exact (by repeat (first | exact Ext.refl _ | assumption | refine Ext.alloc ?_ _ | refine Ext.drew ?_ | refine Ext.drewN ?_ _ | refine Ext.setCell ?_ (by first | omega | (simp; done) | (simp; omega)) _ | refine Ext.trans ?_ (by assumption)))))
        · rw [hke] at HK
          have hfin : r = (0, ⟨#[]⟩, 3) := by rw [Hr2.out, lookS_bad hle _ (by omega)]
          have Hfin := Lib.hid hfin
          clear hke hle hfin hq hroot
          go_wp2_with (first | (go_at_call 27; refine (HJ _ (Hpre.out.ext (hE.trans (by exact (by repeat (first | exact Ext.refl _ | assumption | refine Ext.alloc ?_ _ | refine Ext.drew ?_ | refine Ext.drewN ?_ _ | refine Ext.setCell ?_ (by first | omega | (simp; done) | (simp; omega)) _ | refine Ext.trans ?_ (by assumption))))))).mono ?_; rintro e W3 ⟨rfl, hE3⟩) | (go_at_call 26; refine (HK _ (HT2.out.ext (hE.trans (by exact (by repeat (first | exact Ext.refl _ | assumption | refine Ext.alloc ?_ _ | refine Ext.drew ?_ | refine Ext.drewN ?_ _ | refine Ext.setCell ?_ (by first | omega | (simp; done) | (simp; omega)) _ | refine Ext.trans ?_ (by assumption))))))).mono ?_; rintro e W4 ⟨rfl, hE4⟩))
          refine bodyPost_ret (v := .tuple #[.int .i64 0, .string ⟨#[]⟩, .int .i64 3]) (by simp [results, Tryz.f14, go_sem]) rfl ?_
          rw [Hfin.out]
          exact ⟨rfl, HE2.out.trans (hE.trans (by exact (by repeat (first | exact Ext.refl _ | assumption | refine Ext.alloc ?_ _ | refine Ext.drew ?_ | refine Ext.drewN ?_ _ | refine Ext.setCell ?_ (by first | omega | (simp; done) | (simp; omega)) _ | refine Ext.trans ?_ (by assumption)))))⟩
        · rw [hroot h0, kindR_root] at HK
          rw [hroot h0] at HJ
          have H0 := Lib.hid h0
          clear hq hroot h0
          go_wp2_with (first | (go_at_call 27; refine (HJ _ (Hpre.out.ext (hE.trans (by exact (by repeat (first | exact Ext.refl _ | assumption | refine Ext.alloc ?_ _ | refine Ext.drew ?_ | refine Ext.drewN ?_ _ | refine Ext.setCell ?_ (by first | omega | (simp; done) | (simp; omega)) _ | refine Ext.trans ?_ (by assumption))))))).mono ?_; rintro e W3 ⟨rfl, hE3⟩) | (go_at_call 26; refine (HK _ (HT2.out.ext (hE.trans (by exact (by repeat (first | exact Ext.refl _ | assumption | refine Ext.alloc ?_ _ | refine Ext.drew ?_ | refine Ext.drewN ?_ _ | refine Ext.setCell ?_ (by first | omega | (simp; done) | (simp; omega)) _ | refine Ext.trans ?_ (by assumption))))))).mono ?_; rintro e W4 ⟨rfl, hE4⟩))
          exact ar_next (x := ⟨⟨#[47]⟩, 2, ⟨#[]⟩⟩) hlt hall (by rw [H0.out]; rfl) (by decide) (hE.trans (by exact (by repeat (first | exact Ext.refl _ | assumption | refine Ext.alloc ?_ _ | refine Ext.drew ?_ | refine Ext.drewN ?_ _ | refine Ext.setCell ?_ (by first | omega | (simp; done) | (simp; omega)) _ | refine Ext.trans ?_ (by assumption)))))
      · have hkn' : k = n := by omega
        have hkl : k = ys.length := by have := Hn.out; omega
        have hful : ys.take k = ys := List.take_of_length_le (by omega)
        rw [hful, Hpe.out, hkl] at hks
        have HK := fun W h => RKind_any v2 T p W h hp
        have HD := fun W h => RData_any v2 T p W h
        have hr0 := Hr2.out
        have hroot : ys.length = 0 → p = ⟨#[47]⟩ := fun h => by
          have := Hpe.out
          rw [List.eq_nil_of_length_eq_zero h] at this
          exact this.symm
        clear hful
        have hfin : r = ((kindR T p).1, dataR T p, (kindR T p).2) := by
          rcases hks with ⟨e, hke, hle, hda⟩ | ⟨hke, hle, hda⟩ | ⟨h0, _⟩
          · rw [hr0, hke, hda, hle]
          · rw [hr0, hke, hda, hle]
          · have hda : dataR T ⟨#[47]⟩ = ⟨#[]⟩ := by
              rw [dataR, findT_not fun y hy e => ?_]
              exact (mem_deep Ht1.out hy).choose_spec.2.2 e
            rw [hroot h0, kindR_root, hda, hr0, h0]
            rfl
        have Hfin := Lib.hid hfin
        obtain ⟨K1, hK1⟩ : ∃ K1, (kindR T p).1 = K1 := ⟨_, rfl⟩
        obtain ⟨K2, hK2⟩ : ∃ K2, (kindR T p).2 = K2 := ⟨_, rfl⟩
        obtain ⟨D, hD⟩ : ∃ D, dataR T p = D := ⟨_, rfl⟩
        rw [hK1, hK2, hD] at Hfin
        rw [hK1, hK2] at HK
        rw [hD] at HD
        clear hks hr0 hroot hfin hK1 hK2 hD hkn' hkl
        go_wp2_with (first | (go_at_call 26; refine (HK _ (HT2.out.ext (hE.trans (by exact (by repeat (first | exact Ext.refl _ | assumption | refine Ext.alloc ?_ _ | refine Ext.drew ?_ | refine Ext.drewN ?_ _ | refine Ext.setCell ?_ (by first | omega | (simp; done) | (simp; omega)) _ | refine Ext.trans ?_ (by assumption))))))).mono ?_; rintro e W4 ⟨rfl, hE4⟩) | (go_at_call 28; refine (HD _ (HT2.out.ext (hE.trans (by exact (by repeat (first | exact Ext.refl _ | assumption | refine Ext.alloc ?_ _ | refine Ext.drew ?_ | refine Ext.drewN ?_ _ | refine Ext.setCell ?_ (by first | omega | (simp; done) | (simp; omega)) _ | refine Ext.trans ?_ (by assumption))))))).mono ?_; rintro e W5 ⟨rfl, hE5⟩))
        refine bodyPost_ret (v := .tuple #[.int .i64 K1, .string D, .int .i64 K2]) (by simp [results, Tryz.f14, go_sem]) rfl ?_
        rw [Hfin.out]
        exact ⟨rfl, HE2.out.trans (hE.trans (by exact (by repeat (first | exact Ext.refl _ | assumption | refine Ext.alloc ?_ _ | refine Ext.drew ?_ | refine Ext.drewN ?_ _ | refine Ext.setCell ?_ (by first | omega | (simp; done) | (simp; omega)) _ | refine Ext.trans ?_ (by assumption)))))⟩
end Go.Proofs.YthadldnojdjlnaaGreatDoor

/-! PlaysO -/
namespace Go.Proofs.YthadldnojdjlnaaGreatDoor
open Go Go.RowKit Go.Shelf Go.Proofs Go.Maps

theorem look_size {s : List (List Ent)} {ys : List ByteArray} (hst : stackOk s = true) : ∀ i x, lookS s ys i = .ok x → x.data.size ≤ 140737488355328
  | 0, x, h => by
    cases h
    decide
  | i + 1, x, h => by
    obtain ⟨ht, _, hf⟩ := fold_show hst
    rw [lookS] at h
    split at h
    · cases h
    · split at h
      · cases h
      · split at h
        · cases h
        · rename_i e he
          cases h
          rw [← hf] at he
          exact (entOk_fits ((treeOk_iff.1 ht).2.2 _ (findT_some he).1).1).2

theorem at_size {s : List (List Ent)} {p : ByteArray} {k : Int} {d : ByteArray} (hst : stackOk s = true) (h : atR s p = (k, d, 0)) : d.size ≤ 140737488355328 := by
  rw [atR] at h
  split at h
  · cases h
  · split at h
    · cases h
      decide
    · rename_i x hx
      cases h
      exact look_size hst _ _ hx

theorem open_cases (s : List (List Ent)) (p : ByteArray) : (stackOk s = false ∧ lookE s p = .error 16) ∨
    (stackOk s = true ∧ ∃ c, c ≠ 0 ∧ lookE s p = .error c ∧ atR s p = (0, ⟨#[]⟩, c)) ∨ (stackOk s = true ∧ ∃ x, lookE s p = .ok x ∧ atR s p = (x.1.kind, x.1.data, 0)) := by
  rcases hs : stackOk s with _ | _
  · exact .inl ⟨rfl, by rw [lookE, if_neg (by rw [hs]; simp)]⟩
  · obtain ⟨_, hla⟩ := stackOk_layers hs
    rcases hq : lookE s p with c | x
    · refine .inr (.inl ⟨rfl, c, lookE_code hq, rfl, ?_⟩)
      rw [lookE, if_pos hs] at hq
      rcases hn : names p with _ | ys
      · rw [hn] at hq
        cases hq
        rw [atR, hn]
      · rw [hn] at hq
        have hq : lookN s ys ys.length = .error c := hq
        obtain ⟨hv, _⟩ := ValN.of hn
        have h1 := look_show hla hv ys.length (Nat.le_refl _)
        rw [hq] at h1
        have h1 : lookS s ys ys.length = .error c := h1
        rw [atR, hn]
        dsimp only
        rw [h1]
    · refine .inr (.inr ⟨rfl, x, rfl, ?_⟩)
      obtain ⟨ys, _, hn, hl, _⟩ := lookE_ok hq
      obtain ⟨hv, _⟩ := ValN.of hn
      have h1 := look_show hla hv ys.length (Nat.le_refl _)
      rw [hl] at h1
      rw [atR, hn]
      dsimp only
      rw [h1.1]

theorem code22 {W : World} {a : Nat} {c : Int} (h : ErrN W 1 (.iface 86 (.pointer (some ⟨a, 0, none⟩))) c) (hL : Laid W) :
    ∀ w', Ext W w' → Calls Tryz.prog 8 #[.iface 86 (.pointer (some ⟨a, 0, none⟩))] w' fun e w'' => e = .returned (.int .i64 c) ∧ Ext w' w'' :=
  fun w' he => Code_err 1 _ c w' (ErrN_old h fun _ _ hx => he.cell hx) (hL.ext he)

/-- The two texts that refs answers, as a row. -/
theorem refs_rd {W : World} {b : Nat} {n : Int} (h : Blk W b 44 (refsC n)) : RdR W (.slice (some ⟨b, 0, none⟩) 2 2) (refsOf n) := by
  refine ⟨some ⟨b, 0, none⟩, 2, rfl, (by decide : (2 : Nat) ≤ 2), by decide, (by decide : (2 : Nat) ≤ 140737488355328), fun _ => ⟨b, 0, rfl, fun j x hj => ⟨x.cells, rfl, fun i u hi => ?_⟩⟩⟩
  have h1 := refs_cells (refsOf n) j x hj i u hi
  have h2 : ((refsOf n).flatMap Ref.cells) = (refsC n).toList := rfl
  rw [h2] at h1
  have h3 := h.cell (0 + j * 3 + i) (by rw [← Array.getElem?_toList, Nat.zero_add]; exact h1)
  exact h3

theorem info_int : (Tryz.prog.info? 3).map (fun i => (i.zero, i.size, i.bytes)) = some (some (.int .i64 0), 1, 8) := by kernel_rfl
theorem info_strP : (Tryz.prog.info? 9).map (fun i => (i.zero, i.size, i.bytes)) = some (some (.string ⟨#[]⟩), 1, 16) := by kernel_rfl

/-- One number behind the row of numbers. -/
theorem app7 {w : World} {ops : Array Oper} {rest : List Oper} {o : Oper} {a : Act} {Q : Exit → Act → World → Prop} (hgd : o.guard = none) (s x : Operand)
    (ho : o.op = .call { callee := .builtin .append, args := #[s, x], argTypes := #[28, 28] }) (base : Nat) (hbase : base ≤ w.heap.size) (v : Value) (n : Nat) (xs : List Value) (hs : a.eval s = v) (hown : w.ownsRow base 3 1 v n xs)
    (ad : Addr) (c : Nat) (k : Int) (hx : a.eval x = .slice (some ad) 1 c) (hnews : ∀ j u, ([Value.int .i64 k])[j]? = some u → w.cell? (ad.add j) = some u) (hn : n ≤ 1000000)
    (h : ∀ v' w', w'.ownsRow base 3 1 v' (n + 1) (xs ++ [.int .i64 k]) → w.grownBy w' v.ownBlock → (v'.ownBlock = v.ownBlock ∨ v'.ownBlock = some w.heap.size) → wpList Tryz.prog ops Q rest (a.put o.dst v') w') : wpList Tryz.prog ops Q (o :: rest) a w := by
  obtain ⟨i0, hi, hz0, hz1, hz2⟩ := info_parts info_int
  exact wpList_append_own_at w hgd s x 28 ho base 3 i0 (.int .i64 0) 1 8 Tryz.underlying28 hi hz0 hz1 hz2 rfl (by decide) v n xs hs hown ad 1 c [.int .i64 k] hx rfl hnews (by simp [Value.oneCell']) (by unfold maxLen; omega) (by omega) hbase fun v' w' h2 h3 _ h4 => h v' w' h2 h3 h4
/-- One text behind the row of texts. -/
theorem app8 {w : World} {ops : Array Oper} {rest : List Oper} {o : Oper} {a : Act} {Q : Exit → Act → World → Prop} (hgd : o.guard = none) (s x : Operand)
    (ho : o.op = .call { callee := .builtin .append, args := #[s, x], argTypes := #[29, 29] }) (base : Nat) (hbase : base ≤ w.heap.size) (v : Value) (n : Nat) (xs : List Value) (hs : a.eval s = v) (hown : w.ownsRow base 9 1 v n xs)
    (ad : Addr) (c : Nat) (k : ByteArray) (hx : a.eval x = .slice (some ad) 1 c) (hnews : ∀ j u, ([Value.string k])[j]? = some u → w.cell? (ad.add j) = some u) (hn : n ≤ 1000000)
    (h : ∀ v' w', w'.ownsRow base 9 1 v' (n + 1) (xs ++ [.string k]) → w.grownBy w' v.ownBlock → (v'.ownBlock = v.ownBlock ∨ v'.ownBlock = some w.heap.size) → wpList Tryz.prog ops Q rest (a.put o.dst v') w') : wpList Tryz.prog ops Q (o :: rest) a w := by
  obtain ⟨i0, hi, hz0, hz1, hz2⟩ := info_parts info_strP
  exact wpList_append_own_at w hgd s x 29 ho base 9 i0 (.string ⟨#[]⟩) 1 16 Tryz.underlying29 hi hz0 hz1 hz2 rfl (by decide) v n xs hs hown ad 1 c [.string k] hx rfl hnews (by simp [Value.oneCell']) (by unfold maxLen; omega) (by omega) hbase fun v' w' h2 h3 _ h4 => h v' w' h2 h3 h4

/-- A call as a step of a region that draws its order. -/
theorem step_call {P : Program} {w : World} {ops : Array Oper} {o : Oper} {a : Act} {K : Act → World → Prop} {Q : Exit → Act → World → Prop} {E : Prop} {f : Nat} (args : Array Value) (ops1 : Array Operand) (ts : Array TypeId) (post : Ending → World → Prop)
    (he : ∀ args w, (callFunc f args).run P w = .ok (.enter f args) w) (hw : Region.wanted o (yielded ops a.tmps) = true) (ho : o.op = .call { callee := .value (.func f), args := ops1, argTypes := ts }) (hargs : ops1.map a.eval = args)
    (hC : Calls P f args w post) (hK : ∀ e w', post e w' → ∃ v, e = .returned v ∧ K (a.put o.dst v) w') : if Region.wanted o (yielded ops a.tmps) = true then Oper.wp P o a w K Q else E := by
  rw [if_pos hw]
  have hrun : (execOp a.eval o).run P w = .ok (.enter f args) w := by
    unfold execOp
    simp [ho, resolve, Deferred.ofValue, invoke, Act.eval, hargs, he]
  unfold Oper.wp
  rw [hrun, Oper.upon_enter]
  refine hC.mono fun e w'' hh => ?_
  obtain ⟨v, rfl, hk⟩ := hK e w'' hh
  exact hk

/-- Steps of a region that draws its order: some values behind an own row. -/
theorem step7 {w : World} {ops : Array Oper} {o : Oper} {a : Act} {K : Act → World → Prop} {Q : Exit → Act → World → Prop} {E : Prop} (hgd : o.guard = none) (s x : Operand)
    (ho : o.op = .call { callee := .builtin .append, args := #[s, x], argTypes := #[28, 28] }) (base : Nat) (v : Value) (n : Nat) (xs : List Value) (hown : w.ownsRow base 3 1 v n xs) (hs : a.eval s = v)
    (ad : Addr) (m c : Nat) (news : List Value) (hx : a.eval x = .slice (some ad) m c) (hl : news.length = m) (hnews : ∀ j u, news[j]? = some u → w.cell? (ad.add j) = some u) (h1 : ∀ u ∈ news, u.oneCell' = true)
    (hn : n + m ≤ 1000000) (hbase : base ≤ w.heap.size)
    (h : ∀ v' w', w'.ownsRow base 3 1 v' (n + m) (xs ++ news) → w.grownBy w' v.ownBlock → K (a.put o.dst v') w') : if Region.wanted o (yielded ops a.tmps) = true then Oper.wp Tryz.prog o a w K Q else E := by
  obtain ⟨i0, hi, hz0, hz1, hz2⟩ := info_parts info_int
  have hw : Region.wanted o (yielded ops a.tmps) = true := by simp [Region.wanted, hgd]
  rw [if_pos hw]
  exact wp_append_own w s x 28 ho base 3 i0 (.int .i64 0) 1 8 Tryz.underlying28 hi hz0 hz1 hz2 rfl (by decide) v n xs hs hown ad m c news hx (by omega) hnews h1 (by unfold maxLen; omega) (by omega) hbase fun v' w' h2 h3 _ => h v' w' h2 h3
theorem step8 {w : World} {ops : Array Oper} {o : Oper} {a : Act} {K : Act → World → Prop} {Q : Exit → Act → World → Prop} {E : Prop} (hgd : o.guard = none) (s x : Operand)
    (ho : o.op = .call { callee := .builtin .append, args := #[s, x], argTypes := #[29, 29] }) (base : Nat) (v : Value) (n : Nat) (xs : List Value) (hown : w.ownsRow base 9 1 v n xs) (hs : a.eval s = v)
    (ad : Addr) (m c : Nat) (news : List Value) (hx : a.eval x = .slice (some ad) m c) (hl : news.length = m) (hnews : ∀ j u, news[j]? = some u → w.cell? (ad.add j) = some u) (h1 : ∀ u ∈ news, u.oneCell' = true)
    (hn : n + m ≤ 1000000) (hbase : base ≤ w.heap.size)
    (h : ∀ v' w', w'.ownsRow base 9 1 v' (n + m) (xs ++ news) → w.grownBy w' v.ownBlock → K (a.put o.dst v') w') : if Region.wanted o (yielded ops a.tmps) = true then Oper.wp Tryz.prog o a w K Q else E := by
  obtain ⟨i0, hi, hz0, hz1, hz2⟩ := info_parts info_strP
  have hw : Region.wanted o (yielded ops a.tmps) = true := by simp [Region.wanted, hgd]
  rw [if_pos hw]
  exact wp_append_own w s x 29 ho base 9 i0 (.string ⟨#[]⟩) 1 16 Tryz.underlying29 hi hz0 hz1 hz2 rfl (by decide) v n xs hs hown ad m c news hx (by omega) hnews h1 (by unfold maxLen; omega) (by omega) hbase fun v' w' h2 h3 _ => h v' w' h2 h3
end Go.Proofs.YthadldnojdjlnaaGreatDoor

/-! PlaysC -/
set_option linter.unusedSimpArgs false
set_option linter.unusedVariables false
namespace Go.Proofs.YthadldnojdjlnaaGreatDoor
open Go Go.RowKit Go.Shelf Go.Proofs Go.Maps

theorem cutI (g j c i : Nat) (hij : i < j) (hjc : j ≤ c) (hc : c ≤ 9223372036854775807) : ∃ ad cc, (∀ w, (Instr.sliceAt 28 (.slice (some ⟨g, 0, none⟩) j c) (some (.int .i64 ((i : Int) + 1))) none none).run Tryz.prog w = .ok (.slice (some ad) (j - (i + 1)) cc) w) ∧ ∀ q, q < j - (i + 1) → ad.add q = ⟨g, i + 1 + q, none⟩ := by
  have h1 : (0 : Int) ≤ (i : Int) + 1 := by omega
  have h2 : (i : Int) + 1 ≤ (j : Int) := by omega
  have h3 : ((i : Int) + 1).toNat = i + 1 := by omega
  by_cases h : c = i + 1
  · obtain rfl : j = i + 1 := by omega
    subst h
    refine ⟨⟨g, 0, none⟩, 0, fun w => ?_, fun q hq => by omega⟩
    simp [go_sem, h1, h2, h3]
  · refine ⟨⟨g, i + 1, none⟩, c - (i + 1), fun w => ?_, fun q hq => by rw [Addr.add_lit]⟩
    simp [go_sem, h1, h2, h3, h]
theorem cutS (g j c i : Nat) (hij : i < j) (hjc : j ≤ c) (hc : c ≤ 9223372036854775807) : ∃ ad cc, (∀ w, (Instr.sliceAt 29 (.slice (some ⟨g, 0, none⟩) j c) (some (.int .i64 ((i : Int) + 1))) none none).run Tryz.prog w = .ok (.slice (some ad) (j - (i + 1)) cc) w) ∧ ∀ q, q < j - (i + 1) → ad.add q = ⟨g, i + 1 + q, none⟩ := by
  have h1 : (0 : Int) ≤ (i : Int) + 1 := by omega
  have h2 : (i : Int) + 1 ≤ (j : Int) := by omega
  have h3 : ((i : Int) + 1).toNat = i + 1 := by omega
  by_cases h : c = i + 1
  · obtain rfl : j = i + 1 := by omega
    subst h
    refine ⟨⟨g, 0, none⟩, 0, fun w => ?_, fun q hq => by omega⟩
    simp [go_sem, h1, h2, h3]
  · refine ⟨⟨g, i + 1, none⟩, c - (i + 1), fun w => ?_, fun q hq => by rw [Addr.add_lit]⟩
    simp [go_sem, h1, h2, h3, h]
theorem yields_slice {P : Program} {o : Oper} {a : Act} {w : World} (t : TypeId) (x : Operand) (lo hi mx : Option Operand) (ho : o.op = .slice t x lo hi mx) (vx : Value) (hx : a.eval x = vx) (l h m : Option Value) (hl : lo.map a.eval = l) (hh : hi.map a.eval = h) (hm : mx.map a.eval = m) (v : Value)
    (hr : (Instr.sliceAt t vx l h m).run P w = .ok v w) : (execOp a.eval o).run P w = .ok (.value v) w := by
  unfold execOp
  simp only [ho]
  rw [hx, hl, hh, hm, Sem.run_bind, hr]
  rfl
theorem own_zeroI {W : World} {base b : Nat} (hb : Blk W b 3 #[]) (h : base ≤ b) : W.ownsRow base 3 1 (.slice (some ⟨b, 0, none⟩) 0 0) 0 [] :=
  ⟨rfl, .inr ⟨b, 0, #[], rfl, h, hb, Nat.le_refl _, by decide, rfl, rfl⟩⟩
theorem own_zeroS {W : World} {base b : Nat} (hb : Blk W b 9 #[]) (h : base ≤ b) : W.ownsRow base 9 1 (.slice (some ⟨b, 0, none⟩) 0 0) 0 [] :=
  ⟨rfl, .inr ⟨b, 0, #[], rfl, h, hb, Nat.le_refl _, by decide, rfl, rfl⟩⟩
end Go.Proofs.YthadldnojdjlnaaGreatDoor
