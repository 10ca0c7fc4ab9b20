/- shalelaw14.EditRuns is true: for every stack and every list of ops. -/
import Derived.Test.YtneefmgidplbcaaGreatDoorJE8
import Derived.Test.YtneefmgidplbcaaGreatDoorJE4
namespace Go.Proofs.YtneefmgidplbcaaGreatDoor
open Go Go.RowKit Go.Shelf Go.Proofs Go.Maps

set_option maxHeartbeats 4000000 in
set_option maxRecDepth 20000 in
theorem with14_any (v u : Value) (low : List (List Ent)) (up : List Ent) (w : World) (hv : RdK w v low) (hu : RdE w u up) (hll : low.length ≤ 1000) :
    Calls Tryz.prog 31 #[v, u] w fun e w' => ∃ v', e = .returned v' ∧ RdK w' v' (low ++ [up]) ∧ Ext w w' := by
  obtain ⟨A, c, us, rfl, hul, hur, hua⟩ := stk_vals hv
  obtain ⟨A2, c2, rfl, _, _, _⟩ := rdE_form hu rfl
  obtain ⟨n, hn⟩ : ∃ n, low.length = n := ⟨_, rfl⟩
  have Hul := Lib.hid hul
  have Hn := Lib.hid hn
  have h1 : Hid (∀ u ∈ us, u.oneCell' = true) := Lib.hid fun u hu => by
    obtain ⟨j, hj, rfl⟩ := List.getElem_of_mem hu
    exact rdE_one (hur j hj (by omega))
  have hE0 : Ext w (w.alloc (.cells #[] 54)) := (Ext.refl w).alloc _
  have Hua : Hid (us ≠ [] → ∃ b o, A = some ⟨b, o, none⟩ ∧ ∀ (j : Nat) (h : j < us.length), (w.alloc (.cells #[] 54)).cell? ⟨b, o + j, none⟩ = some us[j]) := Lib.hid fun h => by
    obtain ⟨b, o, e, hc⟩ := hua h
    exact ⟨b, o, e, fun j hj => hE0.cell (hc j hj)⟩
  have Hur := Lib.hid hur
  have Hu := Lib.hid hu
  obtain ⟨i0, hi, hz0, hz1, hz2⟩ := info_parts info_lay
  rw [hn] at hll ⊢
  clear hv hua hur hul hn hu
  go_enter Tryz.func31, Tryz.ntmps31
  go_wp2_with (first
    | (at_builtin; (refine append_stack rfl _ _ rfl w.heap.size (by simp) _ 0 [] rfl (World.ownsRow_made w #[] 0 (Nat.le_refl _) (Nat.zero_le _) rfl) A c us (by rw [Hul.out, Hn.out]; rfl) Hua.out h1.out (by have := Hul.out; have := Hn.out; omega) ?_); intro v3 W3 hown3' hgrow3; go_must (have hE3 : Ext w W3 := Ext.grown hE0 hgrow3 (fun k hk => by cases hk; exact Nat.le_refl _)); go_must (have hown3 : W3.ownsRow w.heap.size 54 1 v3 us.length us := by simpa using hown3'); go_must (clear hown3' hgrow3); go_must (obtain ⟨A3, c3, rfl⟩ := own_form hown3))
    | (at_builtin; go_must (refine wpList_append_own _ rfl _ _ 22 rfl w.heap.size 54 i0 (.slice none 0 0) 1 24 Tryz.underlying22 hi hz0 hz1 hz2 rfl (by decide) _ _ _ rfl (hown3.alloc _) ⟨W3.heap.size, 0, none⟩ 1 1 [.slice A2 up.length c2] rfl rfl (World.news_of_block (cs := #[.slice A2 up.length c2]) (t := 54) (fr := (0, 0)) (Blk.new W3 _ _)) (by simp [Value.oneCell']) (by have := Hul.out; have := Hn.out; unfold maxLen; omega) (by have := Hul.out; have := Hn.out; omega) (Nat.le_trans hE3.size (by rw [World.size_alloc]; omega)) ?_); intro v4 W4 hown4 hgrow4 hnil4))
  have hE4 : Ext w W4 := Ext.grown (hE3.alloc _) hgrow4 (fun k hk => (hown3.lt k hk).1)
  have hrk := rdK_snoc hown4 Hul.out (by have := Hn.out; omega) Hur.out hE4 (Hu.out.ext hE4)
  obtain ⟨A4, c4, rfl⟩ := own_form hown4
  have Hrk := Lib.hid hrk
  clear hown4 hgrow4 hnil4 hrk
  go_wp2
  go_ret
  exact ⟨_, rfl, Hrk.out, hE4⟩

theorem runs_step {low : List (List Ent)} {up : List Ent} (x : OpT) (hst : stackOk (low ++ [up]) = true) : doE low up x = .error 9 ∨ (∃ c, c ≠ 9 ∧ c ≠ 0 ∧ doE low up x = .error c ∧ onT (foldT (low ++ [up])) x = .error c) ∨
    ∃ u t', doE low up x = .ok u ∧ onT (foldT (low ++ [up])) x = .ok t' ∧ foldT (low ++ [u]) = t' ∧ layerOk u = true := by
  rw [doE, onT]
  by_cases hr : rightOp x = true
  · rw [if_pos hr, if_pos hst, if_pos hr]
    obtain ⟨h1, h2, _⟩ := rightOp_iff.1 hr
    rcases hd : doT (foldT (low ++ [up])) x.act.toNat x with c | t'
    · by_cases h9 : c = 9
      · left; rw [h9]
      · exact .inr (.inl ⟨c, h9, doT_code hd, rfl, rfl⟩)
    · dsimp only
      by_cases hok : layerOk (doneU low t' up x.act.toNat x) = true
      · rw [if_pos hok]
        exact .inr (.inr ⟨_, t', rfl, rfl, done_ok hst (by omega) hd hok, hok⟩)
      · rw [if_neg hok]
        exact .inl rfl
  · rw [if_neg hr, if_neg hr]
    exact .inr (.inl ⟨1, by decide, by decide, rfl, rfl⟩)

theorem EdOn_ok {v : Value} {t l : List Ent} {x : OpT} (hd : onT t x = .ok l) (hx : x.fits) (hl : t.length ≤ 1000000) (w : World) (hv : RdE w v t) :
    Calls Tryz.prog 32 #[v, .agg #[.int .i64 x.act, .string x.p, .string x.q, .int .i64 x.n, .string x.s]] w (WithOk l w) := by
  have := On_any v t x w hv hx hl
  rwa [hd] at this
theorem EdOn_bad {v : Value} {t : List Ent} {c : Int} {x : OpT} (hd : onT t x = .error c) (hx : x.fits) (hl : t.length ≤ 1000000) (w : World) (hv : RdE w v t) :
    Calls Tryz.prog 32 #[v, .agg #[.int .i64 x.act, .string x.p, .string x.q, .int .i64 x.n, .string x.s]] w (TBad c w) := by
  have := On_any v t x w hv hx hl
  rwa [hd] at this

def RunRel (low : List (List Ent)) (n : Nat) (w : World) (v6 v7 v8 : Value) (wr : World) : Prop :=
  ∃ (k : Nat) (up : List Ent), v8 = .int .i64 k ∧ k ≤ n ∧ Hid (stackOk (low ++ [up]) = true) ∧ Hid (RdE wr v6 up) ∧ Hid (RdE wr v7 (foldT (low ++ [up]))) ∧ Ext w wr
theorem run_next {low : List (List Ent)} {n k : Nat} {w wr : World} {v6 v7 : Value} {up : List Ent} (hlt : k < n) (h1 : stackOk (low ++ [up]) = true) (h2 : RdE wr v6 up) (h3 : RdE wr v7 (foldT (low ++ [up]))) (hE : Ext w wr) :
    RunRel low n w v6 v7 (.int .i64 ((k : Int) + 1)) wr ∧ n - (intOf (.int .i64 ((k : Int) + 1))).toNat < n - (intOf (.int .i64 (k : Int))).toNat :=
  ⟨⟨k + 1, up, by simp, by omega, Lib.hid h1, Lib.hid h2, Lib.hid h3, hE⟩, by simp [intOf]; omega⟩

set_option maxRecDepth 100000 in
set_option maxHeartbeats 8000000 in
theorem runs_let (v u : Value) (low : List (List Ent)) (l : List OpT) (w : World) (hv : RdK w v low) (hu : RdO w u l) (h : ¬ (fewOk low = true ∧ l.length ≤ 25)) :
    Calls Tryz.prog 6 #[v, u] w fun e w' => e = .returned (.bool true) ∧ Ext w w' := by
  have Hv := Lib.hid hv
  obtain ⟨A, c, rfl, _, _, _⟩ := rdK_form2 hv rfl
  obtain ⟨n, hn⟩ : ∃ n, n = l.length := ⟨_, rfl⟩
  obtain ⟨A2, c2, rfl, _, _, _⟩ := rdO_form hu hn
  rw [← hn] at h
  clear hv hu hn
  rcases hf : fewOk low with _ | _
  · have HF := fun w => few_no (v := .slice A low.length c) hf w
    clear hf h
    go_enter Tryz.func6, Tryz.ntmps6
    go_wp2_with (first | (go_at_call 21; ((with_reducible refine (EAwake_any _).mono ?_)); rintro e W1 ⟨rfl, hE1⟩) | (go_at_call 9; refine (HF _ (Hv.out.ext (by exact (by repeat (first | exact Ext.refl _ | assumption | refine Ext.alloc ?_ _ | refine Ext.drew ?_ | refine Ext.drewN ?_ _ | refine Ext.setCell ?_ (by first | omega | (simp; done) | (simp; omega)) _ | refine Ext.trans ?_ (by assumption)))))).mono ?_; rintro e W2 ⟨rfl, hE2⟩))
    go_ret
    exact ⟨rfl, by exact (by repeat (first | exact Ext.refl _ | assumption | refine Ext.alloc ?_ _ | refine Ext.drew ?_ | refine Ext.drewN ?_ _ | refine Ext.setCell ?_ (by first | omega | (simp; done) | (simp; omega)) _ | refine Ext.trans ?_ (by assumption)))⟩
  · have HF := fun w => few_yes (v := .slice A low.length c) hf w
    have hl' : (25 : Int) < (n : Int) := by
      have : ¬ n ≤ 25 := fun h2 => h ⟨hf, h2⟩
      omega
    clear hf h
    go_enter Tryz.func6, Tryz.ntmps6
    go_wp2_with (first | (go_at_call 21; ((with_reducible refine (EAwake_any _).mono ?_)); rintro e W1 ⟨rfl, hE1⟩) | (go_at_call 9; refine (HF _ (Hv.out.ext (by exact (by repeat (first | exact Ext.refl _ | assumption | refine Ext.alloc ?_ _ | refine Ext.drew ?_ | refine Ext.drewN ?_ _ | refine Ext.setCell ?_ (by first | omega | (simp; done) | (simp; omega)) _ | refine Ext.trans ?_ (by assumption)))))).mono ?_; rintro e W2 ⟨rfl, hE2⟩))
    go_ret
    exact ⟨rfl, by exact (by repeat (first | exact Ext.refl _ | assumption | refine Ext.alloc ?_ _ | refine Ext.drew ?_ | refine Ext.drewN ?_ _ | refine Ext.setCell ?_ (by first | omega | (simp; done) | (simp; omega)) _ | refine Ext.trans ?_ (by assumption)))⟩

set_option maxRecDepth 100000 in
set_option maxHeartbeats 16000000 in
theorem runs_main (v u : Value) (low : List (List Ent)) (l : List OpT) (w : World) (hL : Laid w) (hv : RdK w v low) (hu : RdO w u l) (hf : fewOk low = true) (h25 : l.length ≤ 25) :
    Calls Tryz.prog 6 #[v, u] w fun e w' => e = .returned (.bool true) ∧ Ext w w' := by
  have Hv := Lib.hid hv
  have HL := Lib.hid hL
  have HF := fun w h => few_yes (v := v) hf w h
  have Hll : Hid (low.length ≤ 1000) := Lib.hid (by have := fewOk_len hf; omega)
  obtain ⟨nl, hnl⟩ : ∃ n, n = low.length := ⟨_, rfl⟩
  have Hnl := Lib.hid hnl
  obtain ⟨A, c, rfl, ha1, ha2, Hlow⟩ := rdK_form2 hv hnl
  obtain ⟨n, hn⟩ : ∃ n, n = l.length := ⟨_, rfl⟩
  have Hn := Lib.hid hn
  obtain ⟨A2, c2, rfl, hd1, hd2, Hcell⟩ := rdO_form hu hn
  have h25' : ¬ ((25 : Int) < (n : Int)) := by omega
  clear hL hv hu hf hnl hn h25
  go_enter Tryz.func6, Tryz.ntmps6
  go_wp2_with (first | (go_at_call 21; ((with_reducible refine (EAwake_any _).mono ?_)); rintro e W1 ⟨rfl, hE1⟩) | (go_at_call 9; refine (HF _ (Hv.out.ext (by exact (by repeat (first | exact Ext.refl _ | assumption | refine Ext.alloc ?_ _ | refine Ext.drew ?_ | refine Ext.drewN ?_ _ | refine Ext.setCell ?_ (by first | omega | (simp; done) | (simp; omega)) _ | refine Ext.trans ?_ (by assumption)))))).mono ?_; rintro e W2 ⟨rfl, hE2⟩))
  have hE12 : Ext w W2 := by exact (by repeat (first | exact Ext.refl _ | assumption | refine Ext.alloc ?_ _ | refine Ext.drew ?_ | refine Ext.drewN ?_ _ | refine Ext.setCell ?_ (by first | omega | (simp; done) | (simp; omega)) _ | refine Ext.trans ?_ (by assumption)))
  clear hE1 hE2
  go_loopw [5] (fun v5 wr => ∃ k : Nat, v5 = .int .i64 k ∧ k ≤ nl ∧ Hid ((0 < k → nl ≤ 8) ∧ ∀ (t : Nat) (h : t < low.length), t < k → layerOk low[t] = true) ∧ Ext w wr) (fun v5 _ => nl - (intOf v5).toNat)
  case atStart => exact ⟨0, rfl, Nat.zero_le _, Lib.hid ⟨fun h => absurd h (Nat.lt_irrefl 0), fun t _ h => absurd h (Nat.not_lt_zero t)⟩, hE12⟩
  case round =>
    obtain ⟨k, rfl, hkn, hall, hE⟩ := hrel
    by_cases hlt : k < nl
    · have hh : k < low.length := by have := Hnl.out; omega
      obtain ⟨b, o, hsl, hcell⟩ := Hlow.out (List.ne_nil_of_length_pos (by omega))
      subst hsl
      obtain ⟨A', c', q0, hrd⟩ := hcell k hh
      obtain ⟨y, hy⟩ : ∃ y, low[k]'hh = y := ⟨_, rfl⟩
      rw [hy] at q0 hrd
      have g0 := hE.cell q0
      have Hy := Lib.hid hy
      have HC := LRight_any _ y wr (hrd.ext hE)
      clear q0 hy hcell hrd
      rcases hp : layerOk y with _ | _
      · rw [hp] at HC
        clear hp
        go_wp2_with (go_at_call 26; refine HC.mono ?_; rintro e W3 ⟨rfl, hE3⟩)
        go_ret
        exact ⟨rfl, hE.trans hE3⟩
      · rw [hp] at HC
        have Hp := Lib.hid hp
        clear hp
        by_cases h8 : nl ≤ 8
        · have h8' : ¬ ((8 : Int) < (nl : Int)) := by omega
          go_wp2_with (go_at_call 26; refine HC.mono ?_; rintro e W3 ⟨rfl, hE3⟩)
          refine ⟨⟨k + 1, by simp, by omega, Lib.hid ⟨fun _ => h8, fun t ht htk => ?_⟩, hE.trans hE3⟩, by simp [intOf]; omega⟩
          by_cases e : t = k
          · subst e; rw [Hy.out]; exact Hp.out
          · exact hall.out.2 t ht (by omega)
        · have h8' : (8 : Int) < (nl : Int) := by omega
          go_wp2_with (go_at_call 26; refine HC.mono ?_; rintro e W3 ⟨rfl, hE3⟩)
          go_ret
          exact ⟨rfl, hE.trans hE3⟩
    · have hkn2 : k = nl := by omega
      have hokl : ∀ y ∈ low, layerOk y = true := fun y hy => by
        obtain ⟨t, ht, rfl⟩ := List.getElem_of_mem hy
        exact hall.out.2 t ht (by have := Hnl.out; omega)
      have hnl8 : low.length ≤ 8 := by
        have h1 := hall.out.1
        have h2 := Hnl.out
        by_cases h0 : nl = 0
        · omega
        · have := h1 (by omega)
          omega
      have hst0 : ∀ up : List Ent, layerOk up = true → stackOk (low ++ [up]) = true := fun up hup => stackOk_of (by rw [List.length_append, List.length_singleton]; omega) fun y hy => by
        rcases List.mem_append.1 hy with hy | hy
        · exact hokl y hy
        · rw [List.mem_singleton] at hy
          rw [hy]
          exact hup
      have Hst0 := Lib.hid hst0
      have hstn := hst0 [] (by decide)
      have HW0 := fun (W : World) (he : Ext w W) => with14_any (.slice A nl c) (.slice none 0 0) low [] W (Hv.out.ext he) (Rd.nil _ _ _) Hll.out
      have HSt : ∀ (W : World) (v' : Value) (up : List Ent), stackOk (low ++ [up]) = true → RdK W v' (low ++ [up]) → Calls Tryz.prog 30 #[v'] W (RdAns (foldT (low ++ [up])) W) := fun W v' up hst h => by
        have := FStack_any v' (low ++ [up]) W h
        rwa [show walkT (low ++ [up]) = foldT (low ++ [up]) by rw [walkT, if_pos hst]] at this
      have Hstn := Lib.hid hstn
      have HSth : Hid (∀ (W : World) (v' : Value) (up : List Ent), stackOk (low ++ [up]) = true → RdK W v' (low ++ [up]) → Calls Tryz.prog 30 #[v'] W (RdAns (foldT (low ++ [up])) W)) := Lib.hid HSt
      clear hall hokl hnl8 hst0 hstn HSt
      go_wp2_with (first
        | (go_at_call 31; refine (HW0 _ hE).mono ?_; rintro e W4 ⟨v4, rfl, hr4, hE4⟩)
        | (go_at_call 30; refine (HSth.out _ _ _ Hstn.out hr4).mono ?_; rintro e W5 ⟨v5, rfl, hr5, hE5⟩))
      have Hr5 := Lib.hid hr5
      have hE05 : Ext w W5 := hE.trans (hE4.trans hE5)
      clear hr4 hr5
      go_loopw [6, 7, 8] (fun v6 v7 v8 wr => RunRel low n w v6 v7 v8 wr) (fun _ _ i _ => n - (intOf i).toNat)
      case atStart => exact ⟨0, [], rfl, Nat.zero_le _, Hstn, Lib.hid (Rd.nil _ _ _), Hr5, hE05⟩
      case round =>
        clear hE05 hE4 hE5 Hr5
        obtain ⟨j, up, rfl, hjn, hst, hr6, hr7, hEr⟩ := hrel
        obtain ⟨A6, c6, rfl, _, _, _⟩ := rdE_form hr6.out rfl
        obtain ⟨A7, c7, rfl, _, _, _⟩ := rdE_form hr7.out rfl
        by_cases hjlt : j < n
        · have hh : j < l.length := by have := Hn.out; omega
          obtain ⟨b, o, hsl2, hcell⟩ := Hcell.out (List.ne_nil_of_length_pos (by omega))
          subst hsl2
          obtain ⟨q0, q1, q2, q3, q4, hfx⟩ := hcell j hh
          obtain ⟨x, hx⟩ : ∃ x, l[j]'hh = x := ⟨_, rfl⟩
          rw [hx] at q0 q1 q2 q3 q4 hfx
          have g0 := hEr.cell q0
          have g1 := hEr.cell q1
          have g2 := hEr.cell q2
          have g3 := hEr.cell q3
          have g4 := hEr.cell q4
          have HX := fun w => OFew_any x w
          have hfl : Hid ((foldT (low ++ [up])).length ≤ 1000000) := Lib.hid (by have := (fold_show hst.out).2.1; omega)
          clear q0 q1 q2 q3 q4 hx hcell
          rcases hs : opSmall x with _ | _
          · rw [hs] at HX
            clear hs
            go_wp2_with (go_at_call 22; refine (HX _).mono ?_; rintro e W6 ⟨rfl, hE6⟩)
            go_ret
            exact ⟨rfl, hEr.trans hE6⟩
          · rw [hs] at HX
            clear hs
            rcases runs_step x hst.out with hd | ⟨cc, hc9, hc0, hd, ho⟩ | ⟨u2, t', hd, ho, hfold, hok⟩
            · have HD := fun (W : World) (he : Ext wr W) => EdDo_bad (v := .slice A nl c) (u := .slice A6 up.length c6) hd hfx Hll.out W (Hv.out.ext (hEr.trans he)) (hr6.out.ext he)
              have HO := fun (W : World) (he : Ext wr W) => On_any (.slice A7 (foldT (low ++ [up])).length c7) (foldT (low ++ [up])) x W (hr7.out.ext he) hfx hfl.out
              clear hd
              go_wp2_with (first | (go_at_call 22; refine (HX _).mono ?_; rintro e W6 ⟨rfl, hE6⟩; have g0' := hE6.cell g0; have g1' := hE6.cell g1; have g2' := hE6.cell g2; have g3' := hE6.cell g3; have g4' := hE6.cell g4) | (go_at_call 24; refine (EOf_any x _).mono ?_; rintro e W7 ⟨rfl, hE7⟩) | fail)
              refine (HD _ (hE6.trans hE7)).mono ?_
              rintro e W8 ⟨v8, n8, rfl, hEr8, hE8⟩
              have hE78 : Ext wr W8 := (hE6.trans hE7).trans hE8
              have h0 := hE78.cell g0
              have h1 := hE78.cell g1
              have h2 := hE78.cell g2
              have h3 := hE78.cell g3
              have h4 := hE78.cell g4
              go_wp2_with (first | (go_at_call 24; refine (EOf_any x _).mono ?_; rintro e W9 ⟨rfl, hE9⟩) | fail)
              refine (HO _ (hE78.trans hE9)).mono ?_
              rintro e W10 h10
              obtain ⟨a10, b10, rfl⟩ := h10.pair
              have hE10 := tans_ext h10
              clear h10
              have hEr10 : Ext wr W10 := (hE78.trans hE9).trans hE10
              go_wp2_with fail
              refine (Code_err _ _ _ _ (hEr8.ext (hE9.trans hE10)) (HL.out.ext (hEr.trans hEr10))).mono ?_
              rintro e W11 ⟨rfl, hE11⟩
              go_wp2
              exact run_next hjlt hst.out (hr6.out.ext (hEr10.trans hE11)) (hr7.out.ext (hEr10.trans hE11)) (hEr.trans (hEr10.trans hE11))
            · have HD := fun (W : World) (he : Ext wr W) => EdDo_bad (v := .slice A nl c) (u := .slice A6 up.length c6) hd hfx Hll.out W (Hv.out.ext (hEr.trans he)) (hr6.out.ext he)
              have HO := fun (W : World) (he : Ext wr W) => EdOn_bad (v := .slice A7 (foldT (low ++ [up])).length c7) ho hfx hfl.out W (hr7.out.ext he)
              have HWi := fun (W : World) (he : Ext wr W) => with14_any (.slice A nl c) (.slice A6 up.length c6) low up W (Hv.out.ext (hEr.trans he)) (hr6.out.ext he) Hll.out
              have hc9' : (cc == 9) = false := by simpa using hc9
              have hc0' : (cc == 0) = false := by simpa using hc0
              clear hd ho hc9 hc0
              go_wp2_with (first | (go_at_call 22; refine (HX _).mono ?_; rintro e W6 ⟨rfl, hE6⟩; have g0' := hE6.cell g0; have g1' := hE6.cell g1; have g2' := hE6.cell g2; have g3' := hE6.cell g3; have g4' := hE6.cell g4) | (go_at_call 24; refine (EOf_any x _).mono ?_; rintro e W7 ⟨rfl, hE7⟩) | fail)
              refine (HD _ (hE6.trans hE7)).mono ?_
              rintro e W8 ⟨v8, n8, rfl, hEr8, hE8⟩
              have hE78 : Ext wr W8 := (hE6.trans hE7).trans hE8
              have h0 := hE78.cell g0
              have h1 := hE78.cell g1
              have h2 := hE78.cell g2
              have h3 := hE78.cell g3
              have h4 := hE78.cell g4
              go_wp2_with (first | (go_at_call 24; refine (EOf_any x _).mono ?_; rintro e W9 ⟨rfl, hE9⟩) | fail)
              refine (HO _ (hE78.trans hE9)).mono ?_
              rintro e W10 ⟨v10, n10, rfl, hErr10, hE10⟩
              have hEr10 : Ext wr W10 := (hE78.trans hE9).trans hE10
              have HEr8 := Lib.hid (hEr8.ext (hE9.trans hE10))
              go_wp2_with fail
              refine (Code_err _ _ _ _ HEr8.out (HL.out.ext (hEr.trans hEr10))).mono ?_
              rintro e W11 ⟨rfl, hE11⟩
              go_wp2_with fail
              refine (Code_err _ _ _ _ (HEr8.out.ext hE11) (HL.out.ext ((hEr.trans hEr10).trans hE11))).mono ?_
              rintro e W12 ⟨rfl, hE12⟩
              go_wp2_with fail
              refine (Code_err _ _ _ _ (hErr10.ext (hE11.trans hE12)) (HL.out.ext ((hEr.trans hEr10).trans (hE11.trans hE12)))).mono ?_
              rintro e W13 ⟨rfl, hE13⟩
              go_wp2_with fail
              refine (Code_err _ _ _ _ (HEr8.out.ext ((hE11.trans hE12).trans hE13)) (HL.out.ext ((hEr.trans hEr10).trans ((hE11.trans hE12).trans hE13)))).mono ?_
              rintro e W14 ⟨rfl, hE14⟩
              have hEr14 : Ext wr W14 := hEr10.trans (((hE11.trans hE12).trans hE13).trans hE14)
              go_wp2_with fail
              refine (HWi _ hEr14).mono ?_
              rintro e W15 ⟨v15, rfl, hr15, hE15⟩
              go_wp2_with fail
              refine (HSth.out _ _ _ hst.out hr15).mono ?_
              rintro e W16 ⟨v16, rfl, hr16, hE16⟩
              have hEr16 : Ext wr W16 := (hEr14.trans hE15).trans hE16
              go_wp2_with fail
              refine (Same_yes hr16 (hr7.out.ext hEr16)).mono ?_
              rintro e W17 ⟨rfl, hE17⟩
              go_wp2
              exact run_next hjlt hst.out (hr6.out.ext (hEr16.trans hE17)) (hr7.out.ext (hEr16.trans hE17)) (hEr.trans (hEr16.trans hE17))
            · have HD := fun (W : World) (he : Ext wr W) => EdDo_ok (v := .slice A nl c) (u := .slice A6 up.length c6) hd hfx Hll.out W (Hv.out.ext (hEr.trans he)) (hr6.out.ext he)
              have HO := fun (W : World) (he : Ext wr W) => EdOn_ok (v := .slice A7 (foldT (low ++ [up])).length c7) ho hfx hfl.out W (hr7.out.ext he)
              have hst2 := Lib.hid (Hst0.out u2 hok)
              have Hfold := Lib.hid hfold
              clear hd ho hok hfold
              go_wp2_with (first | (go_at_call 22; refine (HX _).mono ?_; rintro e W6 ⟨rfl, hE6⟩; have g0' := hE6.cell g0; have g1' := hE6.cell g1; have g2' := hE6.cell g2; have g3' := hE6.cell g3; have g4' := hE6.cell g4) | (go_at_call 24; refine (EOf_any x _).mono ?_; rintro e W7 ⟨rfl, hE7⟩) | fail)
              refine (HD _ (hE6.trans hE7)).mono ?_
              rintro e W8 ⟨v8, rfl, hr8, hE8⟩
              have Hr8 := Lib.hid hr8
              obtain ⟨A8, c8, rfl, _, _, _⟩ := rdE_form hr8 rfl
              clear hr8
              have hE78 : Ext wr W8 := (hE6.trans hE7).trans hE8
              have h0 := hE78.cell g0
              have h1 := hE78.cell g1
              have h2 := hE78.cell g2
              have h3 := hE78.cell g3
              have h4 := hE78.cell g4
              go_wp2_with (first | (go_at_call 24; refine (EOf_any x _).mono ?_; rintro e W9 ⟨rfl, hE9⟩) | fail)
              refine (HO _ (hE78.trans hE9)).mono ?_
              rintro e W10 ⟨v10, rfl, hr10, hE10⟩
              have hr10' : RdE W10 v10 (foldT (low ++ [u2])) := by rw [Hfold.out]; exact hr10
              obtain ⟨A10, c10, rfl, _, _, _⟩ := rdE_form hr10 rfl
              have Hr10 := Lib.hid hr10'
              clear hr10 hr10'
              have hEr10 : Ext wr W10 := (hE78.trans hE9).trans hE10
              have hE810 : Ext W8 W10 := hE9.trans hE10
              go_wp2_with fail
              (with_reducible refine (Code_nil _).mono ?_)
              rintro e W11 ⟨rfl, hE11⟩
              go_wp2_with fail
              (with_reducible refine (Code_nil _).mono ?_)
              rintro e W12 ⟨rfl, hE12⟩
              go_wp2_with fail
              (with_reducible refine (Code_nil _).mono ?_)
              rintro e W13 ⟨rfl, hE13⟩
              go_wp2_with fail
              (with_reducible refine (Code_nil _).mono ?_)
              rintro e W14 ⟨rfl, hE14⟩
              have hE1014 : Ext W10 W14 := ((hE11.trans hE12).trans hE13).trans hE14
              have hEr14 : Ext wr W14 := hEr10.trans hE1014
              have HWi := with14_any (.slice A nl c) (.slice A8 u2.length c8) low u2 W14 (Hv.out.ext (hEr.trans hEr14)) (Hr8.out.ext (hE810.trans hE1014)) Hll.out
              go_wp2_with fail
              refine HWi.mono ?_
              rintro e W15 ⟨v15, rfl, hr15, hE15⟩
              go_wp2_with fail
              refine (HSth.out _ _ _ hst2.out hr15).mono ?_
              rintro e W16 ⟨v16, rfl, hr16, hE16⟩
              have hE1416 := hE15.trans hE16
              go_wp2_with fail
              refine (Same_yes hr16 (Hr10.out.ext (hE1014.trans hE1416))).mono ?_
              rintro e W17 ⟨rfl, hE17⟩
              go_wp2
              exact run_next hjlt hst2.out (Hr8.out.ext (hE810.trans ((hE1014.trans hE1416).trans hE17))) (Hr10.out.ext ((hE1014.trans hE1416).trans hE17)) (hEr.trans (hEr14.trans (hE1416.trans hE17)))
        · go_wp2
          go_ret
          exact ⟨rfl, hEr⟩

theorem EditRuns_any (v u : Value) (low : List (List Ent)) (l : List OpT) (w : World) (hL : Laid w) (hv : RdK w v low) (hu : RdO w u l) :
    Calls Tryz.prog 6 #[v, u] w fun e w' => e = .returned (.bool true) ∧ Ext w w' := by
  by_cases h : fewOk low = true ∧ l.length ≤ 25
  · exact runs_main v u low l w hL hv hu h.1 h.2
  · exact runs_let v u low l w hv hu h
end Go.Proofs.YtneefmgidplbcaaGreatDoor
