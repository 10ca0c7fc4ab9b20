/- shalelaw13.ListParts is true: for every stack and every text; list.Empty. -/
import Derived.Test.YtknfaabhlcdeoaaGreatDoorFoldStk
namespace Go.Proofs.YtknfaabhlcdeoaaGreatDoor
open Go Go.RowKit Go.Shelf Go.Proofs

variable {s : List (List Ent)} {p : ByteArray}

/-- What list.Empty answers. -/
def EmptyOk (s : List (List Ent)) (p : ByteArray) (w : World) (e : Ending) (w' : World) : Prop := ∃ b, e = .returned (.tuple #[.bool b, .nilIface]) ∧ Hid (b = decide ((inT (foldT s) p).length = 0)) ∧ Ext w w'
def EmptyBad (c : Int) (w : World) (e : Ending) (w' : World) : Prop := ∃ a, e = .returned (.tuple #[.bool false, .iface 181 (.pointer (some ⟨a, 0, none⟩))]) ∧ ErrN w' 1 (.iface 181 (.pointer (some ⟨a, 0, none⟩))) c ∧ Ext w w'

theorem dir_stack {f : Nat} (h : dirE s p = .ok f) : stackOk s = true := by
  obtain ⟨x, hx, _, _⟩ := dirE_ok h
  obtain ⟨_, hs, _⟩ := lookE_ok hx
  exact hs

set_option maxHeartbeats 2000000 in
theorem Empty_ok (v : Value) (f : Nat) (w : World) (hv : RdK w v s) (hp : p.size ≤ 70368744177664) (hd : dirE s p = .ok f) : Calls Tryz.prog 20 #[v, .string p] w (EmptyOk s p w) := by
  have HN := fun W h => Names_ok v s p f W h hp hd
  have hst := dir_stack hd
  have Hv := Lib.hid hv
  have Hn : Hid (∀ l, NamesIs s p f l → l = inT (foldT s) p) := Lib.hid fun l hl => names_fold hst hd hl
  obtain ⟨A, c, rfl, _, _, _⟩ := RdK.form hv rfl
  clear hv hd hst
  go_enter Tryz.func20, Tryz.ntmps20
  go_wp2_with (go_at_call 18; refine (HN _ (Hv.out.ext (by exact (by repeat (first | exact Ext.refl _ | assumption | refine Ext.alloc ?_ _ | refine Ext.drew ?_ | refine Ext.drewN ?_ _ | refine Ext.setCell ?_ (by first | omega | (simp; done) | (simp; omega)) _ | refine Ext.trans ?_ (by assumption)))))).mono ?_; rintro e W1 ⟨u, l, rfl, hl, hu, hE1⟩; have hle := Lib.hid (Hn.out l hl); obtain ⟨n, hn⟩ : ∃ n, n = l.length := ⟨_, rfl⟩; have Hln := Lib.hid hn; obtain ⟨A1, c1, rfl, hc1, hc2, Hcell⟩ := rdS_form hu hn; clear hn hl hu)
  go_ret2
  refine ⟨_, rfl, Lib.hid ?_, by exact (by repeat (first | exact Ext.refl _ | assumption | refine Ext.alloc ?_ _ | refine Ext.drew ?_ | refine Ext.drewN ?_ _ | refine Ext.setCell ?_ (by first | omega | (simp; done) | (simp; omega)) _ | refine Ext.trans ?_ (by assumption)))⟩
  rw [← hle.out, ← Hln.out, Bool.eq_iff_iff]
  simp

set_option maxHeartbeats 2000000 in
theorem Empty_bad (v : Value) (c0 : Int) (w : World) (hv : RdK w v s) (hp : p.size ≤ 70368744177664) (hd : dirE s p = .error c0) : Calls Tryz.prog 20 #[v, .string p] w (EmptyBad c0 w) := by
  have HN := fun W h => Names_bad v s p c0 W h hp hd
  have Hv := Lib.hid hv
  obtain ⟨A, c, rfl, _, _, _⟩ := RdK.form hv rfl
  clear hv hd
  go_enter Tryz.func20, Tryz.ntmps20
  go_wp2_with (go_at_call 18; refine (HN _ (Hv.out.ext (by exact (by repeat (first | exact Ext.refl _ | assumption | refine Ext.alloc ?_ _ | refine Ext.drew ?_ | refine Ext.drewN ?_ _ | refine Ext.setCell ?_ (by first | omega | (simp; done) | (simp; omega)) _ | refine Ext.trans ?_ (by assumption)))))).mono ?_; rintro e W1 ⟨a, rfl, hEr, hE1⟩)
  go_ret2
  exact ⟨_, rfl, hEr, by exact (by repeat (first | exact Ext.refl _ | assumption | refine Ext.alloc ?_ _ | refine Ext.drew ?_ | refine Ext.drewN ?_ _ | refine Ext.setCell ?_ (by first | omega | (simp; done) | (simp; omega)) _ | refine Ext.trans ?_ (by assumption)))⟩

def PartRel (t : List Ent) (p : ByteArray) (n : Nat) (w : World) (v8 i : Value) (wr : World) : Prop :=
  ∃ k m : Nat, i = .int .i64 k ∧ v8 = .int .i64 m ∧ k ≤ n ∧ m ≤ k ∧ Hid (m = (inT (t.take k) p).length) ∧ Ext w wr

theorem part_next {t : List Ent} {n k m' : Nat} {w W : World} (hlt : k < n) (hm : m' ≤ k + 1) (h : Hid (m' = (inT (t.take (k + 1)) p).length)) (hE : Ext w W) :
    PartRel t p n w (.int .i64 (m' : Int)) (.int .i64 ((k : Int) + 1)) W ∧ n - (intOf (.int .i64 ((k : Int) + 1))).toNat < n - (intOf (.int .i64 (k : Int))).toNat :=
  ⟨⟨k + 1, m', by simp, rfl, by omega, by omega, h, hE⟩, by simp [intOf]; omega⟩

theorem inT_step {t : List Ent} {k : Nat} (hh : k < t.length) : (inT (t.take (k + 1)) p).length = (inT (t.take k) p).length + (inP p t[k]).toList.length := by
  rw [inT, met_in p hh, List.length_append]
  rfl

theorem path_eq (a p : ByteArray) : (a.toList == p.toList) = decide (a = p) := by
  rw [Bool.eq_iff_iff, beq_iff_eq, decide_eq_true_eq]
  exact ⟨fun h => data_inj (by rw [← toList_eq, h, toList_eq]), fun h => by rw [h]⟩

set_option maxHeartbeats 8000000 in
set_option maxRecDepth 20000 in
theorem parts_ok (v : Value) (w : World) (f : Nat) (hL : Laid w) (hv : RdK w v s) (hf : fewOk s = true) (hp : p.size ≤ 100) (hd : dirE s p = .ok f) :
    Calls Tryz.prog 7 #[v, .string p] w fun e w' => e = .returned (.bool true) ∧ Ext w w' := by
  have HA := fun w' => LAwake_any w'
  have Hv := Lib.hid hv
  have HF := fun w' h => few_yes (v := v) hf w' h
  have HM := fun w' h => Empty_ok v f w' h (by omega) hd
  have HN := fun W h => Names_ok v s p f W h (by omega) hd
  have hst := dir_stack hd
  have hwt : walkT s = foldT s := by rw [walkT, if_pos hst]
  have HS : ∀ w', RdK w' v s → Calls Tryz.prog 32 #[v] w' (RdAns (foldT s) w') := fun w' h => by
    have := FStack_any v s w' h
    rwa [hwt] at this
  have Hn : Hid (∀ l, NamesIs s p f l → l = inT (foldT s) p) := Lib.hid fun l hl => names_fold hst hd hl
  obtain ⟨htr, ht5, hsh⟩ := fold_show hst
  clear hsh
  have hall := fun x hx => ((treeOk_iff.1 htr).2.2 x hx).1
  have Hall := Lib.hid hall
  obtain ⟨t, ht⟩ : ∃ t, foldT s = t := ⟨_, rfl⟩
  rw [ht] at HS Hn Hall ht5
  obtain ⟨n0, hn0⟩ : ∃ n0, n0 = (inT t p).length := ⟨_, rfl⟩
  have HM : ∀ w', RdK w' v s → Calls Tryz.prog 20 #[v, .string p] w' fun e w'' => ∃ b, e = .returned (.tuple #[.bool b, .nilIface]) ∧ Hid (b = decide (n0 = 0)) ∧ Ext w' w'' := fun w' h => by
    have := HM w' h
    unfold EmptyOk at this
    rwa [ht, ← hn0] at this
  have Hn0 := Lib.hid hn0
  obtain ⟨A, c, rfl, _, _, _⟩ := RdK.form hv rfl
  have hp' : ¬ (100 : Int) < (p.size : Int) := by omega
  clear hv hf hd hst hwt htr hall ht hn0
  go_enter Tryz.func7, Tryz.ntmps7
  go_upto_region 9 with (first | (go_at_call 15; refine (HF _ (Hv.out.ext (by exact (by repeat (first | exact Ext.refl _ | assumption | refine Ext.alloc ?_ _ | refine Ext.drew ?_ | refine Ext.drewN ?_ _ | refine Ext.setCell ?_ (by first | omega | (simp; done) | (simp; omega)) _ | refine Ext.trans ?_ (by assumption)))))).mono ?_; rintro e W1 ⟨rfl, hE1⟩) | (go_at_call 14; ((with_reducible refine (HA _).mono ?_)); rintro e W2 ⟨rfl, hE2⟩) | (go_at_call 20; refine (HM _ (Hv.out.ext (by exact (by repeat (first | exact Ext.refl _ | assumption | refine Ext.alloc ?_ _ | refine Ext.drew ?_ | refine Ext.drewN ?_ _ | refine Ext.setCell ?_ (by first | omega | (simp; done) | (simp; omega)) _ | refine Ext.trans ?_ (by assumption)))))).mono ?_; rintro e W3 ⟨b, rfl, hb, hE3⟩) | (go_at_call 19; ((with_reducible refine (Code_nil _).mono ?_)); rintro e W4 ⟨rfl, hE4⟩) | (go_at_call 32; refine (HS _ (Hv.out.ext (by exact (by repeat (first | exact Ext.refl _ | assumption | refine Ext.alloc ?_ _ | refine Ext.drew ?_ | refine Ext.drewN ?_ _ | refine Ext.setCell ?_ (by first | omega | (simp; done) | (simp; omega)) _ | refine Ext.trans ?_ (by assumption)))))).mono ?_; rintro e W5 ⟨v5, rfl, hr5, hE5⟩))
  have hE : Ext w W5 := by exact (by repeat (first | exact Ext.refl _ | assumption | refine Ext.alloc ?_ _ | refine Ext.drew ?_ | refine Ext.drewN ?_ _ | refine Ext.setCell ?_ (by first | omega | (simp; done) | (simp; omega)) _ | refine Ext.trans ?_ (by assumption)))
  obtain ⟨n, hn⟩ : ∃ n, n = t.length := ⟨_, rfl⟩
  have Hnt := Lib.hid hn
  obtain ⟨A5, c5, rfl, hd1, hd2, Hcell⟩ := rdE_form hr5 hn
  rw [← hn] at ht5
  have HE := Lib.hid hE
  clear hn hr5 hE1 hE2 hE3 hE4 hE5 hE
  go_loopw [8, 9] (fun v8 i wr => PartRel t p n W5 v8 i wr) (fun _ i _ => n - (intOf i).toNat)
  case atStart => exact ⟨0, 0, rfl, rfl, Nat.zero_le _, Nat.zero_le _, Lib.hid rfl, Ext.refl _⟩
  case round =>
    obtain ⟨k, m, rfl, rfl, hkn, hmk, hm, hE⟩ := hrel
    by_cases hlt : k < n
    · have hh : k < t.length := by have := Hnt.out; omega
      obtain ⟨b1, o, rfl, hcell⟩ := Hcell.out (List.ne_nil_of_length_pos (by omega))
      obtain ⟨q0, q1, q2, hf⟩ := hcell k hh
      obtain ⟨x, hx⟩ : ∃ x, t[k]'hh = x := ⟨_, rfl⟩
      rw [hx] at q0 q1 q2 hf
      have g0 := hE.cell q0
      have g1 := hE.cell q1
      have g2 := hE.cell q2
      have hok := Hall.out x (by rw [← hx]; exact List.getElem_mem hh)
      obtain ⟨ys, z, hnm, e1, e2, e3, e4, e5⟩ := ent_names hok
      clear e1 e2 e3 e4 e5
      have hin : inP p x = if pathOf ys = p then some z else none := by
        rw [inP, hnm]
        simp
      have hstp := inT_step (p := p) hh
      rw [hx, hin, ← hm.out] at hstp
      have HP := fun W => Parent_some x.path ys z W hf.1 hnm
      have hpe := path_eq (pathOf ys) p
      obtain ⟨q, hq⟩ : ∃ q, pathOf ys = q := ⟨_, rfl⟩
      rw [hq] at hstp HP hpe
      clear q0 q1 q2 hx hcell hok hnm hin hf hq hm
      by_cases hqp : q = p
      · rw [if_pos hqp] at hstp
        rw [decide_eq_true hqp] at hpe
        have Hst := Lib.hid hstp
        clear hqp hstp
        go_wp2_with (first | (go_at_call 33; (with_reducible refine (HP _).mono ?_); rintro e W6 ⟨rfl, hE6⟩) | (go_at_call 19; ((with_reducible refine (Code_nil _).mono ?_)); rintro e W7 ⟨rfl, hE7⟩))
        exact part_next (m' := m + 1) hlt (by omega) (Lib.hid (by rw [Hst.out]; rfl)) (by exact (by repeat (first | exact Ext.refl _ | assumption | refine Ext.alloc ?_ _ | refine Ext.drew ?_ | refine Ext.drewN ?_ _ | refine Ext.setCell ?_ (by first | omega | (simp; done) | (simp; omega)) _ | refine Ext.trans ?_ (by assumption))))
      · rw [if_neg hqp] at hstp
        rw [decide_eq_false hqp] at hpe
        have Hst := Lib.hid hstp
        clear hqp hstp
        go_wp2_with (first | (go_at_call 33; (with_reducible refine (HP _).mono ?_); rintro e W6 ⟨rfl, hE6⟩) | (go_at_call 19; ((with_reducible refine (Code_nil _).mono ?_)); rintro e W7 ⟨rfl, hE7⟩))
        exact part_next (m' := m) hlt (by omega) (Lib.hid (by rw [Hst.out]; rfl)) (by exact (by repeat (first | exact Ext.refl _ | assumption | refine Ext.alloc ?_ _ | refine Ext.drew ?_ | refine Ext.drewN ?_ _ | refine Ext.setCell ?_ (by first | omega | (simp; done) | (simp; omega)) _ | refine Ext.trans ?_ (by assumption))))
    · have hkn' : k = n := by omega
      have hmn : m = n0 := by rw [hm.out, Hn0.out, List.take_of_length_le (by have := Hnt.out; omega)]
      have Hb : Hid (((n0 : Int) == 0) = b) := Lib.hid (by rw [hb.out, Bool.eq_iff_iff, beq_iff_eq, decide_eq_true_eq]; omega)
      have hb' := Hb.out
      have HE2 := Lib.hid (HE.out.trans hE)
      subst hmn
      clear hb hm
      go_wp2_with (first | (go_at_call 18; (refine (HN _ (Hv.out.ext (HE2.out.trans (by exact (by repeat (first | exact Ext.refl _ | assumption | refine Ext.alloc ?_ _ | refine Ext.drew ?_ | refine Ext.drewN ?_ _ | refine Ext.setCell ?_ (by first | omega | (simp; done) | (simp; omega)) _ | refine Ext.trans ?_ (by assumption))))))).mono ?_; rintro e W8 ⟨u, l, rfl, hl, hu, hE8⟩; have hle : m = l.length := Hn0.out.trans (congrArg List.length (Hn.out l hl)).symm; obtain ⟨A8, c8, rfl, hc81, hc82, Hcell8⟩ := rdS_form hu hle; clear hle hl hu)) | (go_at_call 19; ((with_reducible refine (Code_nil _).mono ?_)); rintro e W9 ⟨rfl, hE9⟩))
      go_ret
      exact ⟨by simp, HE2.out.trans (by exact (by repeat (first | exact Ext.refl _ | assumption | refine Ext.alloc ?_ _ | refine Ext.drew ?_ | refine Ext.drewN ?_ _ | refine Ext.setCell ?_ (by first | omega | (simp; done) | (simp; omega)) _ | refine Ext.trans ?_ (by assumption))))⟩

set_option maxHeartbeats 4000000 in
set_option maxRecDepth 20000 in
theorem parts_bad (v : Value) (w : World) (c0 : Int) (hL : Laid w) (hv : RdK w v s) (hf : fewOk s = true) (hp : p.size ≤ 100) (hd : dirE s p = .error c0) :
    Calls Tryz.prog 7 #[v, .string p] w fun e w' => e = .returned (.bool true) ∧ Ext w w' := by
  have HA := fun w' => LAwake_any w'
  have Hv := Lib.hid hv
  have HF := fun w' h => few_yes (v := v) hf w' h
  have HM := fun w' h => Empty_bad v c0 w' h (by omega) hd
  have HL := Lib.hid hL
  have hc := dirE_code hd
  have hc0 : (c0 == 0) = false := by simpa using hc
  obtain ⟨A, c, rfl, _, _, _⟩ := RdK.form hv rfl
  have hp' : ¬ (100 : Int) < (p.size : Int) := by omega
  clear hv hf hd hc hL
  go_enter Tryz.func7, Tryz.ntmps7
  go_wp2_with (first | (go_at_call 15; refine (HF _ (Hv.out.ext (by exact (by repeat (first | exact Ext.refl _ | assumption | refine Ext.alloc ?_ _ | refine Ext.drew ?_ | refine Ext.drewN ?_ _ | refine Ext.setCell ?_ (by first | omega | (simp; done) | (simp; omega)) _ | refine Ext.trans ?_ (by assumption)))))).mono ?_; rintro e W1 ⟨rfl, hE1⟩) | (go_at_call 14; ((with_reducible refine (HA _).mono ?_)); rintro e W2 ⟨rfl, hE2⟩) | (go_at_call 20; refine (HM _ (Hv.out.ext (by exact (by repeat (first | exact Ext.refl _ | assumption | refine Ext.alloc ?_ _ | refine Ext.drew ?_ | refine Ext.drewN ?_ _ | refine Ext.setCell ?_ (by first | omega | (simp; done) | (simp; omega)) _ | refine Ext.trans ?_ (by assumption)))))).mono ?_; rintro e W3 ⟨a3, rfl, hEr, hE3⟩) | (go_at_call 19; (refine (Code_err 1 _ c0 _ hEr (HL.out.ext (by exact (by repeat (first | exact Ext.refl _ | assumption | refine Ext.alloc ?_ _ | refine Ext.drew ?_ | refine Ext.drewN ?_ _ | refine Ext.setCell ?_ (by first | omega | (simp; done) | (simp; omega)) _ | refine Ext.trans ?_ (by assumption)))))).mono ?_); rintro e W4 ⟨rfl, hE4⟩))
  go_ret
  exact ⟨rfl, by exact (by repeat (first | exact Ext.refl _ | assumption | refine Ext.alloc ?_ _ | refine Ext.drew ?_ | refine Ext.drewN ?_ _ | refine Ext.setCell ?_ (by first | omega | (simp; done) | (simp; omega)) _ | refine Ext.trans ?_ (by assumption)))⟩

set_option maxHeartbeats 4000000 in
set_option maxRecDepth 20000 in
theorem parts_let (v : Value) (w : World) (hv : RdK w v s) (h : ¬ (fewOk s = true ∧ p.size ≤ 100)) :
    Calls Tryz.prog 7 #[v, .string p] w fun e w' => e = .returned (.bool true) ∧ Ext w w' := by
  have HA := fun w' => LAwake_any w'
  have Hv := Lib.hid hv
  rcases hf : fewOk s with _ | _
  · have HF := fun w' h => few_no (v := v) hf w' h
    obtain ⟨A, c, rfl, _, _, _⟩ := RdK.form hv rfl
    clear hv hf h
    go_enter Tryz.func7, Tryz.ntmps7
    go_wp2_with (first | (go_at_call 15; refine (HF _ (Hv.out.ext (by exact (by repeat (first | exact Ext.refl _ | assumption | refine Ext.alloc ?_ _ | refine Ext.drew ?_ | refine Ext.drewN ?_ _ | refine Ext.setCell ?_ (by first | omega | (simp; done) | (simp; omega)) _ | refine Ext.trans ?_ (by assumption)))))).mono ?_; rintro e W1 ⟨rfl, hE1⟩) | (go_at_call 14; ((with_reducible refine (HA _).mono ?_)); rintro e W2 ⟨rfl, hE2⟩))
    go_ret
    exact ⟨rfl, by exact (by repeat (first | exact Ext.refl _ | assumption | refine Ext.alloc ?_ _ | refine Ext.drew ?_ | refine Ext.drewN ?_ _ | refine Ext.setCell ?_ (by first | omega | (simp; done) | (simp; omega)) _ | refine Ext.trans ?_ (by assumption)))⟩
  · have HF := fun w' h => few_yes (v := v) hf w' h
    have hp : ¬ p.size ≤ 100 := fun h2 => h ⟨hf, h2⟩
    have hp' : (100 : Int) < (p.size : Int) := by omega
    obtain ⟨A, c, rfl, _, _, _⟩ := RdK.form hv rfl
    clear hv hf h hp
    go_enter Tryz.func7, Tryz.ntmps7
    go_wp2_with (first | (go_at_call 15; refine (HF _ (Hv.out.ext (by exact (by repeat (first | exact Ext.refl _ | assumption | refine Ext.alloc ?_ _ | refine Ext.drew ?_ | refine Ext.drewN ?_ _ | refine Ext.setCell ?_ (by first | omega | (simp; done) | (simp; omega)) _ | refine Ext.trans ?_ (by assumption)))))).mono ?_; rintro e W1 ⟨rfl, hE1⟩) | (go_at_call 14; ((with_reducible refine (HA _).mono ?_)); rintro e W2 ⟨rfl, hE2⟩))
    go_ret
    exact ⟨rfl, by exact (by repeat (first | exact Ext.refl _ | assumption | refine Ext.alloc ?_ _ | refine Ext.drew ?_ | refine Ext.drewN ?_ _ | refine Ext.setCell ?_ (by first | omega | (simp; done) | (simp; omega)) _ | refine Ext.trans ?_ (by assumption)))⟩

/-- The law, for every stack and every text. -/
theorem LParts_any (v : Value) (s : List (List Ent)) (p : ByteArray) (w : World) (hL : Laid w) (hv : RdK w v s) (_hp : p.size ≤ 140737488355328) :
    Calls Tryz.prog 7 #[v, .string p] w fun e w' => e = .returned (.bool true) ∧ Ext w w' := by
  by_cases h : fewOk s = true ∧ p.size ≤ 100
  · rcases hd : dirE s p with c | f
    · exact parts_bad v w c hL hv h.1 h.2 hd
    · exact parts_ok v w f hL hv h.1 h.2 hd
  · exact parts_let v w hv h
end Go.Proofs.YtknfaabhlcdeoaaGreatDoor
