/- shalelaw13.ListNames is true: for every stack and every text; the document's Names of a stack. -/
import Derived.Test.YtknfaabhlcdeoaaGreatDoorRNam
import Derived.Test.YtknfaabhlcdeoaaGreatDoorEmptyL
import Derived.Test.YtknfaabhlcdeoaaGreatDoorRLayer
namespace Go.Proofs.YtknfaabhlcdeoaaGreatDoor
open Go Go.RowKit Go.Shelf Go.Proofs

variable {s : List (List Ent)} {p : ByteArray}

theorem at_bad {c : Int} (hs : stackOk s = true) (h : dirE s p = .error c) : (atR s p).2.2 = c ∧ c ≠ 0 ∨ (atR s p).2.2 = 0 ∧ (atR s p).1 = 1 ∧ c = 6 := by
  obtain ⟨_, hla⟩ := stackOk_layers hs
  rw [dirE] at h
  rw [atR]
  rcases hq : lookE s p with c1 | x
  · have hc := lookE_code hq
    rw [hq] at h
    cases h
    rw [lookE, if_pos hs] at hq
    rcases hn : names p with _ | ys
    · rw [hn] at hq
      cases hq
      exact .inl ⟨rfl, hc⟩
    · rw [hn] at hq
      have hq : lookN s ys ys.length = .error c := hq
      obtain ⟨hv, _⟩ := ValN.of hn
      have h1 := look_show hla hv ys.length (Nat.le_refl _)
      rw [hq] at h1
      have h1 : lookS s ys ys.length = .error c := h1
      dsimp only
      rw [h1]
      exact .inl ⟨rfl, hc⟩
  · rw [hq] at h
    dsimp only at h
    obtain ⟨ys, _, hn, hl, _⟩ := lookE_ok hq
    obtain ⟨hv, _⟩ := ValN.of hn
    have h1 := look_show hla hv ys.length (Nat.le_refl _)
    rw [hl] at h1
    rw [hn]
    dsimp only
    rw [h1.1]
    by_cases h2 : x.1.kind = 1
    · rw [if_pos h2] at h
      cases h
      exact .inr ⟨rfl, h2, rfl⟩
    · rw [if_neg h2] at h
      cases h

theorem at_ok {f : Nat} (h : dirE s p = .ok f) : (atR s p).2.2 = 0 ∧ (atR s p).1 ≠ 1 := by
  obtain ⟨x, hq, hk, _⟩ := dirE_ok h
  obtain ⟨ys, hs, hn, hl, _⟩ := lookE_ok hq
  obtain ⟨_, hla⟩ := stackOk_layers hs
  obtain ⟨hv, _⟩ := ValN.of hn
  have h1 := look_show hla hv ys.length (Nat.le_refl _)
  rw [hl] at h1
  rw [atR, hn]
  dsimp only
  rw [h1.1]
  exact ⟨rfl, hk⟩

/-- What the document's Names answers. -/
def RNmAns (s : List (List Ent)) (p : ByteArray) (w : World) (e : Ending) (w' : World) : Prop := match dirE s p with
  | .error c => e = .returned (.tuple #[.slice none 0 0, .int .i64 c]) ∧ Ext w w'
  | .ok _ => ∃ v, e = .returned (.tuple #[v, .int .i64 0]) ∧ RdS w' v (inT (foldT s) p) ∧ Ext w w'

set_option maxHeartbeats 4000000 in
theorem RNm_any (v : Value) (w : World) (hv : RdK w v s) (hst : stackOk s = true) (hp : p.size ≤ 140737488355328) :
    Calls Tryz.prog 21 #[v, .string p] w (RNmAns s p w) := by
  have HA := fun W h => RAt_any v s p W h hst hp
  have HF := fun W h => RFold_any v s W h hst
  obtain ⟨htr, _, _⟩ := fold_show hst
  have HN := fun u W h => RNam_any u (foldT s) p W h htr
  have Hv := Lib.hid hv
  obtain ⟨A, c, rfl, _, _, _⟩ := RdK.form hv rfl
  rcases hd : dirE s p with c | f
  · have hq : RNmAns s p w = fun e w' => e = .returned (.tuple #[.slice none 0 0, .int .i64 c]) ∧ Ext w w' := by
      funext e w'
      rw [RNmAns, hd]
    rw [hq]
    rcases at_bad hst hd with ⟨h1, h2⟩ | ⟨h1, h2, rfl⟩
    · obtain ⟨r, hr⟩ : ∃ r, atR s p = r := ⟨_, rfl⟩
      rw [hr] at HA h1
      obtain ⟨r1, r2, r3⟩ := r
      have h1 : r3 = c := h1
      subst h1
      have h2' : (r3 == 0) = false := by simpa using h2
      clear hv hd hr hq htr hst HF HN
      go_enter Tryz.func21, Tryz.ntmps21
      go_wp2_with (go_at_call 30; refine (HA _ (Hv.out.ext (by exact (by repeat (first | exact Ext.refl _ | assumption | refine Ext.alloc ?_ _ | refine Ext.drew ?_ | refine Ext.drewN ?_ _ | refine Ext.setCell ?_ (by first | omega | (simp; done) | (simp; omega)) _ | refine Ext.trans ?_ (by assumption)))))).mono ?_; rintro e W1 ⟨rfl, hE1⟩)
      go_ret2
      exact ⟨rfl, by exact (by repeat (first | exact Ext.refl _ | assumption | refine Ext.alloc ?_ _ | refine Ext.drew ?_ | refine Ext.drewN ?_ _ | refine Ext.setCell ?_ (by first | omega | (simp; done) | (simp; omega)) _ | refine Ext.trans ?_ (by assumption)))⟩
    · obtain ⟨r, hr⟩ : ∃ r, atR s p = r := ⟨_, rfl⟩
      rw [hr] at HA h1 h2
      obtain ⟨r1, r2, r3⟩ := r
      have h1 : r3 = 0 := h1
      have h2 : r1 = 1 := h2
      subst h1 h2
      clear hv hd hr hq htr hst HF HN
      go_enter Tryz.func21, Tryz.ntmps21
      go_wp2_with (go_at_call 30; refine (HA _ (Hv.out.ext (by exact (by repeat (first | exact Ext.refl _ | assumption | refine Ext.alloc ?_ _ | refine Ext.drew ?_ | refine Ext.drewN ?_ _ | refine Ext.setCell ?_ (by first | omega | (simp; done) | (simp; omega)) _ | refine Ext.trans ?_ (by assumption)))))).mono ?_; rintro e W1 ⟨rfl, hE1⟩)
      go_ret2
      exact ⟨rfl, by exact (by repeat (first | exact Ext.refl _ | assumption | refine Ext.alloc ?_ _ | refine Ext.drew ?_ | refine Ext.drewN ?_ _ | refine Ext.setCell ?_ (by first | omega | (simp; done) | (simp; omega)) _ | refine Ext.trans ?_ (by assumption)))⟩
  · have hq : RNmAns s p w = fun e w' => ∃ v, e = .returned (.tuple #[v, .int .i64 0]) ∧ RdS w' v (inT (foldT s) p) ∧ Ext w w' := by
      funext e w'
      rw [RNmAns, hd]
    rw [hq]
    obtain ⟨h1, h2⟩ := at_ok hd
    obtain ⟨r, hr⟩ : ∃ r, atR s p = r := ⟨_, rfl⟩
    rw [hr] at HA h1 h2
    obtain ⟨r1, r2, r3⟩ := r
    have h1 : r3 = 0 := h1
    subst h1
    have h2' : (r1 == 1) = false := by simpa using h2
    obtain ⟨t, ht⟩ : ∃ t, foldT s = t := ⟨_, rfl⟩
    rw [ht] at HF HN ⊢
    clear hv hd hr hq htr hst h2 ht
    go_enter Tryz.func21, Tryz.ntmps21
    go_wp2_with (first | (go_at_call 30; refine (HA _ (Hv.out.ext (by exact (by repeat (first | exact Ext.refl _ | assumption | refine Ext.alloc ?_ _ | refine Ext.drew ?_ | refine Ext.drewN ?_ _ | refine Ext.setCell ?_ (by first | omega | (simp; done) | (simp; omega)) _ | refine Ext.trans ?_ (by assumption)))))).mono ?_; rintro e W1 ⟨rfl, hE1⟩) | (go_at_call 62; refine (HF _ (Hv.out.ext (by exact (by repeat (first | exact Ext.refl _ | assumption | refine Ext.alloc ?_ _ | refine Ext.drew ?_ | refine Ext.drewN ?_ _ | refine Ext.setCell ?_ (by first | omega | (simp; done) | (simp; omega)) _ | refine Ext.trans ?_ (by assumption)))))).mono ?_; rintro e W2 ⟨v2, rfl, hv2, hE2⟩) | (go_at_call 61; refine (HN _ _ (hv2.ext (by exact (by repeat (first | exact Ext.refl _ | assumption | refine Ext.alloc ?_ _ | refine Ext.drew ?_ | refine Ext.drewN ?_ _ | refine Ext.setCell ?_ (by first | omega | (simp; done) | (simp; omega)) _ | refine Ext.trans ?_ (by assumption)))))).mono ?_; rintro e W3 ⟨v3, rfl, hv3, hE3⟩))
    go_ret2
    exact ⟨_, rfl, hv3, by exact (by repeat (first | exact Ext.refl _ | assumption | refine Ext.alloc ?_ _ | refine Ext.drew ?_ | refine Ext.drewN ?_ _ | refine Ext.setCell ?_ (by first | omega | (simp; done) | (simp; omega)) _ | refine Ext.trans ?_ (by assumption)))⟩

theorem dir_16 (h : stackOk s = false) : dirE s p = .error 16 := by
  rw [dirE, lookE, if_neg (by rw [h]; simp)]

theorem code_at {W : World} {a : Nat} {c : Int} (h : ErrN W 1 (.iface 181 (.pointer (some ⟨a, 0, none⟩))) c) (hL : Laid W) :
    ∀ w', Ext W w' → Calls Tryz.prog 19 #[.iface 181 (.pointer (some ⟨a, 0, none⟩))] w' fun e w'' => e = .returned (.int .i64 c) ∧ Ext w' w'' :=
  fun w' he => Code_err 1 _ c w' (ErrN_old h fun _ _ hx => he.cell hx) (hL.ext he)

def NsRel (n : Nat) (w : World) (v : Value) (wr : World) : Prop := ∃ k : Nat, v = .int .i64 k ∧ k ≤ n ∧ Ext w wr

set_option maxHeartbeats 4000000 in
set_option maxRecDepth 20000 in
theorem names_bad (v : Value) (w : World) (c0 : Int) (hL : Laid w) (hv : RdK w v s) (hf : fewOk s = true) (hp : p.size ≤ 100) (hd : dirE s p = .error c0) :
    Calls Tryz.prog 4 #[v, .string p] w fun e w' => e = .returned (.bool true) ∧ Ext w w' := by
  have HA := fun w' => LAwake_any w'
  have Hv := Lib.hid hv
  have HF := fun w' h => few_yes (v := v) hf w' h
  have HN := fun w' h => Names_bad v s p c0 w' h (by omega) hd
  have HM := fun w' h => Empty_bad v c0 w' h (by omega) hd
  have HR := fun w' h => RStack_any v s w' h
  have HL := Lib.hid hL
  have hc := dirE_code hd
  have hc0 : (c0 == 0) = false := by simpa using hc
  have hp' : ¬ (100 : Int) < (p.size : Int) := by omega
  rcases hst : stackOk s with _ | _
  · have h16 := dir_16 (p := p) hst
    rw [hd] at h16
    cases h16
    rw [hst] at HR
    obtain ⟨A, c, rfl, _, _, _⟩ := RdK.form hv rfl
    clear hv hf hd hc hL hst
    go_enter Tryz.func4, Tryz.ntmps4
    go_wp2_with (first | (go_at_call 15; refine (HF _ (Hv.out.ext (by exact (by repeat (first | exact Ext.refl _ | assumption | refine Ext.alloc ?_ _ | refine Ext.drew ?_ | refine Ext.drewN ?_ _ | refine Ext.setCell ?_ (by first | omega | (simp; done) | (simp; omega)) _ | refine Ext.trans ?_ (by assumption)))))).mono ?_; rintro e W1 ⟨rfl, hE1⟩) | (go_at_call 14; ((with_reducible refine (HA _).mono ?_)); rintro e W2 ⟨rfl, hE2⟩) | (go_at_call 18; refine (HN _ (Hv.out.ext (by exact (by repeat (first | exact Ext.refl _ | assumption | refine Ext.alloc ?_ _ | refine Ext.drew ?_ | refine Ext.drewN ?_ _ | refine Ext.setCell ?_ (by first | omega | (simp; done) | (simp; omega)) _ | refine Ext.trans ?_ (by assumption)))))).mono ?_; rintro e W3 ⟨a3, rfl, hEr, hE3⟩; have HC3 := code_at hEr (HL.out.ext (show Ext w W3 by exact (by repeat (first | exact Ext.refl _ | assumption | refine Ext.alloc ?_ _ | refine Ext.drew ?_ | refine Ext.drewN ?_ _ | refine Ext.setCell ?_ (by first | omega | (simp; done) | (simp; omega)) _ | refine Ext.trans ?_ (by assumption)))))) | (go_at_call 20; refine (HM _ (Hv.out.ext (by exact (by repeat (first | exact Ext.refl _ | assumption | refine Ext.alloc ?_ _ | refine Ext.drew ?_ | refine Ext.drewN ?_ _ | refine Ext.setCell ?_ (by first | omega | (simp; done) | (simp; omega)) _ | refine Ext.trans ?_ (by assumption)))))).mono ?_; rintro e W4 ⟨a4, rfl, hEs, hE4⟩; have HC4 := code_at hEs (HL.out.ext (show Ext w W4 by exact (by repeat (first | exact Ext.refl _ | assumption | refine Ext.alloc ?_ _ | refine Ext.drew ?_ | refine Ext.drewN ?_ _ | refine Ext.setCell ?_ (by first | omega | (simp; done) | (simp; omega)) _ | refine Ext.trans ?_ (by assumption)))))) | (go_at_call 17; refine (HR _ (Hv.out.ext (by exact (by repeat (first | exact Ext.refl _ | assumption | refine Ext.alloc ?_ _ | refine Ext.drew ?_ | refine Ext.drewN ?_ _ | refine Ext.setCell ?_ (by first | omega | (simp; done) | (simp; omega)) _ | refine Ext.trans ?_ (by assumption)))))).mono ?_; rintro e W5 ⟨rfl, hE5⟩) | (go_at_call 19; (with_reducible refine (HC3 _ ?h).mono ?_); (case h => exact (by repeat (first | exact Ext.refl _ | assumption | refine Ext.alloc ?_ _ | refine Ext.drew ?_ | refine Ext.drewN ?_ _ | refine Ext.setCell ?_ (by first | omega | (simp; done) | (simp; omega)) _ | refine Ext.trans ?_ (by assumption)))); rintro e W6 ⟨rfl, hE6⟩) | (go_at_call 19; (with_reducible refine (HC4 _ ?h).mono ?_); (case h => exact (by repeat (first | exact Ext.refl _ | assumption | refine Ext.alloc ?_ _ | refine Ext.drew ?_ | refine Ext.drewN ?_ _ | refine Ext.setCell ?_ (by first | omega | (simp; done) | (simp; omega)) _ | refine Ext.trans ?_ (by assumption)))); rintro e W7 ⟨rfl, hE7⟩))
    go_ret
    exact ⟨rfl, by exact (by repeat (first | exact Ext.refl _ | assumption | refine Ext.alloc ?_ _ | refine Ext.drew ?_ | refine Ext.drewN ?_ _ | refine Ext.setCell ?_ (by first | omega | (simp; done) | (simp; omega)) _ | refine Ext.trans ?_ (by assumption)))⟩
  · have HG := fun w' h => RNm_any (p := p) v w' h hst (by omega)
    rw [hst] at HR
    have HG : ∀ w', RdK w' v s → Calls Tryz.prog 21 #[v, .string p] w' fun e w'' => e = .returned (.tuple #[.slice none 0 0, .int .i64 c0]) ∧ Ext w' w'' := fun w' h => (HG w' h).mono fun e w'' h2 => by
      rw [RNmAns, hd] at h2
      exact h2
    obtain ⟨A, c, rfl, _, _, _⟩ := RdK.form hv rfl
    clear hv hf hd hc hL hst
    go_enter Tryz.func4, Tryz.ntmps4
    go_upto_region 11 with (first | (go_at_call 15; refine (HF _ (Hv.out.ext (by exact (by repeat (first | exact Ext.refl _ | assumption | refine Ext.alloc ?_ _ | refine Ext.drew ?_ | refine Ext.drewN ?_ _ | refine Ext.setCell ?_ (by first | omega | (simp; done) | (simp; omega)) _ | refine Ext.trans ?_ (by assumption)))))).mono ?_; rintro e W1 ⟨rfl, hE1⟩) | (go_at_call 14; ((with_reducible refine (HA _).mono ?_)); rintro e W2 ⟨rfl, hE2⟩) | (go_at_call 18; refine (HN _ (Hv.out.ext (by exact (by repeat (first | exact Ext.refl _ | assumption | refine Ext.alloc ?_ _ | refine Ext.drew ?_ | refine Ext.drewN ?_ _ | refine Ext.setCell ?_ (by first | omega | (simp; done) | (simp; omega)) _ | refine Ext.trans ?_ (by assumption)))))).mono ?_; rintro e W3 ⟨a3, rfl, hEr, hE3⟩; have HC3 := code_at hEr (HL.out.ext (show Ext w W3 by exact (by repeat (first | exact Ext.refl _ | assumption | refine Ext.alloc ?_ _ | refine Ext.drew ?_ | refine Ext.drewN ?_ _ | refine Ext.setCell ?_ (by first | omega | (simp; done) | (simp; omega)) _ | refine Ext.trans ?_ (by assumption)))))) | (go_at_call 20; refine (HM _ (Hv.out.ext (by exact (by repeat (first | exact Ext.refl _ | assumption | refine Ext.alloc ?_ _ | refine Ext.drew ?_ | refine Ext.drewN ?_ _ | refine Ext.setCell ?_ (by first | omega | (simp; done) | (simp; omega)) _ | refine Ext.trans ?_ (by assumption)))))).mono ?_; rintro e W4 ⟨a4, rfl, hEs, hE4⟩; have HC4 := code_at hEs (HL.out.ext (show Ext w W4 by exact (by repeat (first | exact Ext.refl _ | assumption | refine Ext.alloc ?_ _ | refine Ext.drew ?_ | refine Ext.drewN ?_ _ | refine Ext.setCell ?_ (by first | omega | (simp; done) | (simp; omega)) _ | refine Ext.trans ?_ (by assumption)))))) | (go_at_call 17; refine (HR _ (Hv.out.ext (by exact (by repeat (first | exact Ext.refl _ | assumption | refine Ext.alloc ?_ _ | refine Ext.drew ?_ | refine Ext.drewN ?_ _ | refine Ext.setCell ?_ (by first | omega | (simp; done) | (simp; omega)) _ | refine Ext.trans ?_ (by assumption)))))).mono ?_; rintro e W5 ⟨rfl, hE5⟩) | (go_at_call 21; refine (HG _ (Hv.out.ext (by exact (by repeat (first | exact Ext.refl _ | assumption | refine Ext.alloc ?_ _ | refine Ext.drew ?_ | refine Ext.drewN ?_ _ | refine Ext.setCell ?_ (by first | omega | (simp; done) | (simp; omega)) _ | refine Ext.trans ?_ (by assumption)))))).mono ?_; rintro e W8 ⟨rfl, hE8⟩) | (go_at_call 19; (with_reducible refine (HC3 _ ?h).mono ?_); (case h => exact (by repeat (first | exact Ext.refl _ | assumption | refine Ext.alloc ?_ _ | refine Ext.drew ?_ | refine Ext.drewN ?_ _ | refine Ext.setCell ?_ (by first | omega | (simp; done) | (simp; omega)) _ | refine Ext.trans ?_ (by assumption)))); rintro e W6 ⟨rfl, hE6⟩) | (go_at_call 19; (with_reducible refine (HC4 _ ?h).mono ?_); (case h => exact (by repeat (first | exact Ext.refl _ | assumption | refine Ext.alloc ?_ _ | refine Ext.drew ?_ | refine Ext.drewN ?_ _ | refine Ext.setCell ?_ (by first | omega | (simp; done) | (simp; omega)) _ | refine Ext.trans ?_ (by assumption)))); rintro e W7 ⟨rfl, hE7⟩))
    go_loopw [11] (fun v wr => NsRel 0 W7 v wr) (fun v _ => 0 - (intOf v).toNat)
    case atStart => exact ⟨0, rfl, Nat.le_refl _, Ext.refl _⟩
    case round =>
      obtain ⟨k, rfl, hk, hEk⟩ := hrel
      have hk0 : k = 0 := by omega
      subst hk0
      go_wp2
      go_ret
      exact ⟨rfl, by exact (by repeat (first | exact Ext.refl _ | assumption | refine Ext.alloc ?_ _ | refine Ext.drew ?_ | refine Ext.drewN ?_ _ | refine Ext.setCell ?_ (by first | omega | (simp; done) | (simp; omega)) _ | refine Ext.trans ?_ (by assumption)))⟩

set_option maxHeartbeats 8000000 in
set_option maxRecDepth 20000 in
theorem names_ok (v : Value) (w : World) (f : Nat) (hL : Laid w) (hv : RdK w v s) (hf : fewOk s = true) (hp : p.size ≤ 100) (hd : dirE s p = .ok f) :
    Calls Tryz.prog 4 #[v, .string p] w fun e w' => e = .returned (.bool true) ∧ Ext w w' := by
  have HA := fun w' => LAwake_any w'
  have Hv := Lib.hid hv
  have HF := fun w' h => few_yes (v := v) hf w' h
  have HN := fun w' h => Names_ok v s p f w' h (by omega) hd
  have HM := fun w' h => Empty_ok v f w' h (by omega) hd
  have HR := fun w' h => RStack_any v s w' h
  have hst := dir_stack hd
  rw [hst] at HR
  have HG := fun w' h => RNm_any (p := p) v w' h hst (by omega)
  have Hn : Hid (∀ l, NamesIs s p f l → l = inT (foldT s) p) := Lib.hid fun l hl => names_fold hst hd hl
  obtain ⟨L, hLs⟩ : ∃ L, inT (foldT s) p = L := ⟨_, rfl⟩
  rw [hLs] at Hn
  have HG : ∀ w', RdK w' v s → Calls Tryz.prog 21 #[v, .string p] w' fun e w'' => ∃ u, e = .returned (.tuple #[u, .int .i64 0]) ∧ RdS w'' u L ∧ Ext w' w'' := fun w' h => (HG w' h).mono fun e w'' h2 => by
    rw [RNmAns, hd, hLs] at h2
    exact h2
  obtain ⟨n, hn⟩ : ∃ n, n = L.length := ⟨_, rfl⟩
  have HM : ∀ w', RdK w' v s → Calls Tryz.prog 20 #[v, .string p] w' fun e w'' => ∃ b, e = .returned (.tuple #[.bool b, .nilIface]) ∧ Hid (b = decide (n = 0)) ∧ Ext w' w'' := fun w' h => by
    have := HM w' h
    unfold EmptyOk at this
    rwa [hLs, ← hn] at this
  have HN : ∀ w', RdK w' v s → Calls Tryz.prog 18 #[v, .string p] w' fun e w'' => ∃ u, e = .returned (.tuple #[u, .nilIface]) ∧ RdS w'' u L ∧ Ext w' w'' := fun w' h => (HN w' h).mono fun e w'' ⟨u, l, h1, h2, h3, h4⟩ => ⟨u, h1, by rw [← Hn.out l h2]; exact h3, h4⟩
  have Hn2 := Lib.hid hn
  have HL := Lib.hid hL
  have hp' : ¬ (100 : Int) < (p.size : Int) := by omega
  obtain ⟨A, c, rfl, _, _, _⟩ := RdK.form hv rfl
  clear hv hf hd hL hst hLs hn Hn
  have Hb : Hid (((n : Int) == 0) = decide (n = 0)) := Lib.hid (by rw [Bool.eq_iff_iff, beq_iff_eq, decide_eq_true_eq]; omega)
  go_enter Tryz.func4, Tryz.ntmps4
  go_upto_region 8 with (first | (go_at_call 15; refine (HF _ (Hv.out.ext (by exact (by repeat (first | exact Ext.refl _ | assumption | refine Ext.alloc ?_ _ | refine Ext.drew ?_ | refine Ext.drewN ?_ _ | refine Ext.setCell ?_ (by first | omega | (simp; done) | (simp; omega)) _ | refine Ext.trans ?_ (by assumption)))))).mono ?_; rintro e W1 ⟨rfl, hE1⟩) | (go_at_call 14; ((with_reducible refine (HA _).mono ?_)); rintro e W2 ⟨rfl, hE2⟩) | (go_at_call 18; refine (HN _ (Hv.out.ext (by exact (by repeat (first | exact Ext.refl _ | assumption | refine Ext.alloc ?_ _ | refine Ext.drew ?_ | refine Ext.drewN ?_ _ | refine Ext.setCell ?_ (by first | omega | (simp; done) | (simp; omega)) _ | refine Ext.trans ?_ (by assumption)))))).mono ?_; rintro e W3 ⟨u3, rfl, hv3, hE3⟩) | (go_at_call 20; refine (HM _ (Hv.out.ext (by exact (by repeat (first | exact Ext.refl _ | assumption | refine Ext.alloc ?_ _ | refine Ext.drew ?_ | refine Ext.drewN ?_ _ | refine Ext.setCell ?_ (by first | omega | (simp; done) | (simp; omega)) _ | refine Ext.trans ?_ (by assumption)))))).mono ?_; rintro e W4 ⟨b, rfl, hb, hE4⟩) | (go_at_call 17; refine (HR _ (Hv.out.ext (by exact (by repeat (first | exact Ext.refl _ | assumption | refine Ext.alloc ?_ _ | refine Ext.drew ?_ | refine Ext.drewN ?_ _ | refine Ext.setCell ?_ (by first | omega | (simp; done) | (simp; omega)) _ | refine Ext.trans ?_ (by assumption)))))).mono ?_; rintro e W5 ⟨rfl, hE5⟩) | (go_at_call 21; refine (HG _ (Hv.out.ext (by exact (by repeat (first | exact Ext.refl _ | assumption | refine Ext.alloc ?_ _ | refine Ext.drew ?_ | refine Ext.drewN ?_ _ | refine Ext.setCell ?_ (by first | omega | (simp; done) | (simp; omega)) _ | refine Ext.trans ?_ (by assumption)))))).mono ?_; rintro e W8 ⟨u8, rfl, hv8, hE8⟩))
  have hv3 := hv3.ext (show Ext W3 W8 by exact (by repeat (first | exact Ext.refl _ | assumption | refine Ext.alloc ?_ _ | refine Ext.drew ?_ | refine Ext.drewN ?_ _ | refine Ext.setCell ?_ (by first | omega | (simp; done) | (simp; omega)) _ | refine Ext.trans ?_ (by assumption))))
  have hE : Ext w W8 := by exact (by repeat (first | exact Ext.refl _ | assumption | refine Ext.alloc ?_ _ | refine Ext.drew ?_ | refine Ext.drewN ?_ _ | refine Ext.setCell ?_ (by first | omega | (simp; done) | (simp; omega)) _ | refine Ext.trans ?_ (by assumption)))
  obtain ⟨A3, c3, rfl, h31, h32, H3⟩ := rdS_form hv3 Hn2.out
  obtain ⟨A8, c8, rfl, h81, h82, H8⟩ := rdS_form hv8 Hn2.out
  have hb' : ((n : Int) == 0) = b := Hb.out.trans hb.out.symm
  clear hv3 hv8 hE1 hE2 hE3 hE4 hE5 hE8
  go_upto_region 11 with (first | (go_at_call 19; ((with_reducible refine (Code_nil _).mono ?_)); rintro e W9 ⟨rfl, hE9⟩))
  go_loopw [11] (fun v wr => NsRel n W9 v wr) (fun v _ => n - (intOf v).toNat)
  case atStart => exact ⟨0, rfl, Nat.zero_le _, Ext.refl _⟩
  case round =>
    obtain ⟨k, rfl, hkn, hEk⟩ := hrel
    by_cases hlt : k < n
    · have hh : k < L.length := by have := Hn2.out; omega
      obtain ⟨b3, o3, rfl, hc3⟩ := H3.out (List.ne_nil_of_length_pos (by omega))
      obtain ⟨b8, o8, rfl, hc8⟩ := H8.out (List.ne_nil_of_length_pos (by omega))
      have g3 := hc3 k hh
      have g8 := hc8 k hh
      obtain ⟨y, hy⟩ : ∃ y, L[k]'hh = y := ⟨_, rfl⟩
      rw [hy] at g3 g8
      have hE9k : Ext W8 wr := by exact (by repeat (first | exact Ext.refl _ | assumption | refine Ext.alloc ?_ _ | refine Ext.drew ?_ | refine Ext.drewN ?_ _ | refine Ext.setCell ?_ (by first | omega | (simp; done) | (simp; omega)) _ | refine Ext.trans ?_ (by assumption)))
      have g3 := hE9k.cell g3
      have g8 := hE9k.cell g8
      have hyy : (y.toList == y.toList) = true := by simp
      clear hc3 hc8 hy
      go_upto_region 13 with (fail)
      go_quiet (fail)
      go_wp2
      exact ⟨⟨k + 1, by simp, by omega, by exact (by repeat (first | exact Ext.refl _ | assumption | refine Ext.alloc ?_ _ | refine Ext.drew ?_ | refine Ext.drewN ?_ _ | refine Ext.setCell ?_ (by first | omega | (simp; done) | (simp; omega)) _ | refine Ext.trans ?_ (by assumption)))⟩, by simp [intOf]; omega⟩
    · have hkn' : k = n := by omega
      subst hkn'
      go_wp2
      go_ret
      exact ⟨by simp, by exact (by repeat (first | exact Ext.refl _ | assumption | refine Ext.alloc ?_ _ | refine Ext.drew ?_ | refine Ext.drewN ?_ _ | refine Ext.setCell ?_ (by first | omega | (simp; done) | (simp; omega)) _ | refine Ext.trans ?_ (by assumption)))⟩

set_option maxHeartbeats 4000000 in
set_option maxRecDepth 20000 in
theorem names_let (v : Value) (w : World) (hv : RdK w v s) (h : ¬ (fewOk s = true ∧ p.size ≤ 100)) :
    Calls Tryz.prog 4 #[v, .string p] w fun e w' => e = .returned (.bool true) ∧ Ext w w' := by
  have HA := fun w' => LAwake_any w'
  have Hv := Lib.hid hv
  rcases hf : fewOk s with _ | _
  · have HF := fun w' h => few_no (v := v) hf w' h
    obtain ⟨A, c, rfl, _, _, _⟩ := RdK.form hv rfl
    clear hv hf h
    go_enter Tryz.func4, Tryz.ntmps4
    go_wp2_with (first | (go_at_call 15; refine (HF _ (Hv.out.ext (by exact (by repeat (first | exact Ext.refl _ | assumption | refine Ext.alloc ?_ _ | refine Ext.drew ?_ | refine Ext.drewN ?_ _ | refine Ext.setCell ?_ (by first | omega | (simp; done) | (simp; omega)) _ | refine Ext.trans ?_ (by assumption)))))).mono ?_; rintro e W1 ⟨rfl, hE1⟩) | (go_at_call 14; ((with_reducible refine (HA _).mono ?_)); rintro e W2 ⟨rfl, hE2⟩))
    go_ret
    exact ⟨rfl, by exact (by repeat (first | exact Ext.refl _ | assumption | refine Ext.alloc ?_ _ | refine Ext.drew ?_ | refine Ext.drewN ?_ _ | refine Ext.setCell ?_ (by first | omega | (simp; done) | (simp; omega)) _ | refine Ext.trans ?_ (by assumption)))⟩
  · have HF := fun w' h => few_yes (v := v) hf w' h
    have hp : ¬ p.size ≤ 100 := fun h2 => h ⟨hf, h2⟩
    have hp' : (100 : Int) < (p.size : Int) := by omega
    obtain ⟨A, c, rfl, _, _, _⟩ := RdK.form hv rfl
    clear hv hf h hp
    go_enter Tryz.func4, Tryz.ntmps4
    go_wp2_with (first | (go_at_call 15; refine (HF _ (Hv.out.ext (by exact (by repeat (first | exact Ext.refl _ | assumption | refine Ext.alloc ?_ _ | refine Ext.drew ?_ | refine Ext.drewN ?_ _ | refine Ext.setCell ?_ (by first | omega | (simp; done) | (simp; omega)) _ | refine Ext.trans ?_ (by assumption)))))).mono ?_; rintro e W1 ⟨rfl, hE1⟩) | (go_at_call 14; ((with_reducible refine (HA _).mono ?_)); rintro e W2 ⟨rfl, hE2⟩))
    go_ret
    exact ⟨rfl, by exact (by repeat (first | exact Ext.refl _ | assumption | refine Ext.alloc ?_ _ | refine Ext.drew ?_ | refine Ext.drewN ?_ _ | refine Ext.setCell ?_ (by first | omega | (simp; done) | (simp; omega)) _ | refine Ext.trans ?_ (by assumption)))⟩

/-- The law, for every stack and every text. -/
theorem LNames_any (v : Value) (s : List (List Ent)) (p : ByteArray) (w : World) (hL : Laid w) (hv : RdK w v s) (_hp : p.size ≤ 140737488355328) :
    Calls Tryz.prog 4 #[v, .string p] w fun e w' => e = .returned (.bool true) ∧ Ext w w' := by
  by_cases h : fewOk s = true ∧ p.size ≤ 100
  · rcases hd : dirE s p with c | f
    · exact names_bad v w c hL hv h.1 h.2 hd
    · exact names_ok v w f hL hv h.1 h.2 hd
  · exact names_let v w hv h
end Go.Proofs.YtknfaabhlcdeoaaGreatDoor
