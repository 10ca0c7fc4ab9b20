/- shalelaw14.EditTouches is true. Printed by etouch.py. -/
import Derived.Test.YtneefmgidplbcaaGreatDoorJE8
import Derived.Test.YtneefmgidplbcaaGreatDoorJE4
import Derived.Lib.QuietBelow
namespace Go.Proofs.YtneefmgidplbcaaGreatDoor
open Go Go.RowKit Go.Shelf Go.Proofs Go.Maps

theorem Blk.two12 {w : World} {b : Nat} {t : TypeId} {a x y c d : Value} (h : Blk w b t #[a, x, y, c, d]) : (w.cell? ⟨b, 1, none⟩ = some x ∧ True) ∧ (w.cell? ⟨b, 2, none⟩ = some y ∧ True) := ⟨⟨h.cell 1 rfl, trivial⟩, ⟨h.cell 2 rfl, trivial⟩⟩

set_option maxHeartbeats 4000000 in
set_option maxRecDepth 20000 in
theorem near_any (p a b : ByteArray) (w : World) (hp : p.size ≤ 70368744177664) (ha : a.size ≤ 70368744177664) (hb : b.size ≤ 70368744177664) :
    Calls Tryz.prog 29 #[.string p, .string a, .string b] w fun e w' => e = .returned (.bool (nearB p a b)) ∧ Ext w w' := by
  have H1 := fun w => Under_any p a w (by omega) ha
  have H2 := fun w => Under_any p b w (by omega) hb
  have H3 := fun w => Under_any a p w (by omega) hp
  have H4 := fun w => Under_any b p w (by omega) hp
  have e1 := beq_path p a
  have e2 := beq_path p b
  have hn : nearB p a b = (decide (p = a) || decide (p = b) || underB p a || underB p b || underB a p || underB b p) := rfl
  obtain ⟨d1, h1⟩ : ∃ d, decide (p = a) = d := ⟨_, rfl⟩
  obtain ⟨d2, h2⟩ : ∃ d, decide (p = b) = d := ⟨_, rfl⟩
  obtain ⟨d3, h3⟩ : ∃ d, underB p a = d := ⟨_, rfl⟩
  obtain ⟨d4, h4⟩ : ∃ d, underB p b = d := ⟨_, rfl⟩
  obtain ⟨d5, h5⟩ : ∃ d, underB a p = d := ⟨_, rfl⟩
  obtain ⟨d6, h6⟩ : ∃ d, underB b p = d := ⟨_, rfl⟩
  rw [h1] at e1 hn
  rw [h2] at e2 hn
  rw [h3] at H1 hn
  rw [h4] at H2 hn
  rw [h5] at H3 hn
  rw [h6] at H4 hn
  rw [hn]
  clear hn h1 h2 h3 h4 h5 h6
  rcases d1 with _ | _
  · rcases d2 with _ | _
    · rcases d3 with _ | _
      · rcases d4 with _ | _
        · rcases d5 with _ | _
          · go_enter Tryz.func29, Tryz.ntmps29
            go_wp2_with fail
            refine (H1 _).mono ?_
            rintro e W1 ⟨rfl, hE1⟩
            go_wp2_with fail
            refine (H2 _).mono ?_
            rintro e W2 ⟨rfl, hE2⟩
            go_wp2_with fail
            refine (H3 _).mono ?_
            rintro e W3 ⟨rfl, hE3⟩
            go_wp2_with fail
            refine (H4 _).mono ?_
            rintro e W4 ⟨rfl, hE4⟩
            go_wp2
            go_ret
            exact ⟨by first | rfl | simp, by exact (by repeat (first | exact Ext.refl _ | assumption | refine Ext.alloc ?_ _ | refine Ext.drew ?_ | refine Ext.drewN ?_ _ | refine Ext.setCell ?_ (by first | omega | (simp; done) | (simp; omega)) _ | refine Ext.trans ?_ (by assumption)))⟩
          · go_enter Tryz.func29, Tryz.ntmps29
            go_wp2_with fail
            refine (H1 _).mono ?_
            rintro e W1 ⟨rfl, hE1⟩
            go_wp2_with fail
            refine (H2 _).mono ?_
            rintro e W2 ⟨rfl, hE2⟩
            go_wp2_with fail
            refine (H3 _).mono ?_
            rintro e W3 ⟨rfl, hE3⟩
            go_wp2
            go_ret
            exact ⟨by first | rfl | simp, by exact (by repeat (first | exact Ext.refl _ | assumption | refine Ext.alloc ?_ _ | refine Ext.drew ?_ | refine Ext.drewN ?_ _ | refine Ext.setCell ?_ (by first | omega | (simp; done) | (simp; omega)) _ | refine Ext.trans ?_ (by assumption)))⟩
        · go_enter Tryz.func29, Tryz.ntmps29
          go_wp2_with fail
          refine (H1 _).mono ?_
          rintro e W1 ⟨rfl, hE1⟩
          go_wp2_with fail
          refine (H2 _).mono ?_
          rintro e W2 ⟨rfl, hE2⟩
          go_wp2
          go_ret
          exact ⟨by first | rfl | simp, by exact (by repeat (first | exact Ext.refl _ | assumption | refine Ext.alloc ?_ _ | refine Ext.drew ?_ | refine Ext.drewN ?_ _ | refine Ext.setCell ?_ (by first | omega | (simp; done) | (simp; omega)) _ | refine Ext.trans ?_ (by assumption)))⟩
      · go_enter Tryz.func29, Tryz.ntmps29
        go_wp2_with fail
        refine (H1 _).mono ?_
        rintro e W1 ⟨rfl, hE1⟩
        go_wp2
        go_ret
        exact ⟨by first | rfl | simp, by exact (by repeat (first | exact Ext.refl _ | assumption | refine Ext.alloc ?_ _ | refine Ext.drew ?_ | refine Ext.drewN ?_ _ | refine Ext.setCell ?_ (by first | omega | (simp; done) | (simp; omega)) _ | refine Ext.trans ?_ (by assumption)))⟩
    · go_enter Tryz.func29, Tryz.ntmps29
      go_wp2
      go_ret
      exact ⟨by first | rfl | simp, by exact (by repeat (first | exact Ext.refl _ | assumption | refine Ext.alloc ?_ _ | refine Ext.drew ?_ | refine Ext.drewN ?_ _ | refine Ext.setCell ?_ (by first | omega | (simp; done) | (simp; omega)) _ | refine Ext.trans ?_ (by assumption)))⟩
  · go_enter Tryz.func29, Tryz.ntmps29
    go_wp2
    go_ret
    exact ⟨by first | rfl | simp, by exact (by repeat (first | exact Ext.refl _ | assumption | refine Ext.alloc ?_ _ | refine Ext.drew ?_ | refine Ext.drewN ?_ _ | refine Ext.setCell ?_ (by first | omega | (simp; done) | (simp; omega)) _ | refine Ext.trans ?_ (by assumption)))⟩

set_option maxRecDepth 100000 in
set_option maxHeartbeats 8000000 in
/-- Where the law lets an input go. -/
theorem touch_let (v1 v2 : Value) (low : List (List Ent)) (up : List Ent) (x : OpT) (w : World) (hv : RdK w v1 low) (hu : RdE w v2 up) (h : ¬ (fewOk low = true ∧ sizeOk up = true ∧ opSmall x = true)) :
    Calls Tryz.prog 5 #[v1, v2, .agg #[.int .i64 x.act, .string x.p, .string x.q, .int .i64 x.n, .string x.s]] w fun e w' => e = .returned (.bool true) ∧ Ext w w' := by
  have Hv := Lib.hid hv
  have Hu := Lib.hid hu
  obtain ⟨A, c, rfl, _, _, _⟩ := rdK_form2 hv rfl
  obtain ⟨A2, c2, rfl, _, _, _⟩ := rdE_form hu rfl
  clear hv hu
  rcases hf : fewOk low with _ | _
  · have HF := fun w => few_no (v := .slice A low.length c) hf w
    clear hf h
    go_enter Tryz.func5, Tryz.ntmps5
    go_wp2_with (first | (go_at_call 21; ((with_reducible refine (EAwake_any _).mono ?_)); rintro e W1 ⟨rfl, hE1⟩) | (go_at_call 9; refine (HF _ (Hv.out.ext (by exact (by repeat (first | exact Ext.refl _ | assumption | refine Ext.alloc ?_ _ | refine Ext.drew ?_ | refine Ext.drewN ?_ _ | refine Ext.setCell ?_ (by first | omega | (simp; done) | (simp; omega)) _ | refine Ext.trans ?_ (by assumption)))))).mono ?_; rintro e W2 ⟨rfl, hE2⟩))
    go_ret
    exact ⟨rfl, by exact (by repeat (first | exact Ext.refl _ | assumption | refine Ext.alloc ?_ _ | refine Ext.drew ?_ | refine Ext.drewN ?_ _ | refine Ext.setCell ?_ (by first | omega | (simp; done) | (simp; omega)) _ | refine Ext.trans ?_ (by assumption)))⟩
  · have HF := fun w => few_yes (v := .slice A low.length c) hf w
    rcases hs : sizeOk up with _ | _
    · have HS := fun w => size_no (v := .slice A2 up.length c2) hs w
      clear hf h hs
      go_enter Tryz.func5, Tryz.ntmps5
      go_wp2_with (first | (go_at_call 21; ((with_reducible refine (EAwake_any _).mono ?_)); rintro e W1 ⟨rfl, hE1⟩) | (go_at_call 9; refine (HF _ (Hv.out.ext (by exact (by repeat (first | exact Ext.refl _ | assumption | refine Ext.alloc ?_ _ | refine Ext.drew ?_ | refine Ext.drewN ?_ _ | refine Ext.setCell ?_ (by first | omega | (simp; done) | (simp; omega)) _ | refine Ext.trans ?_ (by assumption)))))).mono ?_; rintro e W2 ⟨rfl, hE2⟩) | (go_at_call 27; refine (HS _ (Hu.out.ext (by exact (by repeat (first | exact Ext.refl _ | assumption | refine Ext.alloc ?_ _ | refine Ext.drew ?_ | refine Ext.drewN ?_ _ | refine Ext.setCell ?_ (by first | omega | (simp; done) | (simp; omega)) _ | refine Ext.trans ?_ (by assumption)))))).mono ?_; rintro e W3 ⟨rfl, hE3⟩))
      go_ret
      exact ⟨rfl, by exact (by repeat (first | exact Ext.refl _ | assumption | refine Ext.alloc ?_ _ | refine Ext.drew ?_ | refine Ext.drewN ?_ _ | refine Ext.setCell ?_ (by first | omega | (simp; done) | (simp; omega)) _ | refine Ext.trans ?_ (by assumption)))⟩
    · have HS := fun w => size_yes (v := .slice A2 up.length c2) hs w
      have hx : opSmall x = false := by
        cases hx : opSmall x
        · rfl
        · exact absurd ⟨hf, hs, hx⟩ h
      have HX := fun w => OFew_any x w
      rw [hx] at HX
      have hB := Blk.new w 57 #[.int .i64 x.act, .string x.p, .string x.q, .int .i64 x.n, .string x.s]
      have HB := Lib.hid hB
      clear hf h hs hx hB
      go_enter Tryz.func5, Tryz.ntmps5
      go_wp2_with (first | (go_at_call 21; ((with_reducible refine (EAwake_any _).mono ?_)); rintro e W1 ⟨rfl, hE1⟩) | (go_at_call 9; refine (HF _ (Hv.out.ext (by exact (by repeat (first | exact Ext.refl _ | assumption | refine Ext.alloc ?_ _ | refine Ext.drew ?_ | refine Ext.drewN ?_ _ | refine Ext.setCell ?_ (by first | omega | (simp; done) | (simp; omega)) _ | refine Ext.trans ?_ (by assumption)))))).mono ?_; rintro e W2 ⟨rfl, hE2⟩) | (go_at_call 27; refine (HS _ (Hu.out.ext (by exact (by repeat (first | exact Ext.refl _ | assumption | refine Ext.alloc ?_ _ | refine Ext.drew ?_ | refine Ext.drewN ?_ _ | refine Ext.setCell ?_ (by first | omega | (simp; done) | (simp; omega)) _ | refine Ext.trans ?_ (by assumption)))))).mono ?_; rintro e W3 ⟨rfl, hE3⟩; obtain ⟨⟨x0, _⟩, ⟨x1, _⟩, ⟨x2, _⟩, ⟨x3, _⟩, ⟨x4, _⟩⟩ := (HB.out.ext (hE1.trans (hE2.trans hE3))).five) | (go_at_call 22; refine (HX _).mono ?_; rintro e W4 ⟨rfl, hE4⟩))
      go_ret
      exact ⟨rfl, by exact (by repeat (first | exact Ext.refl _ | assumption | refine Ext.alloc ?_ _ | refine Ext.drew ?_ | refine Ext.drewN ?_ _ | refine Ext.setCell ?_ (by first | omega | (simp; done) | (simp; omega)) _ | refine Ext.trans ?_ (by assumption)))⟩

theorem doE_ok {low : List (List Ent)} {up u : List Ent} {x : OpT} (hd : doE low up x = .ok u) : layerOk up = true ∧ layerOk u = true ∧ stackOk (low ++ [up]) = true ∧ ∃ m : Nat, m < 7 ∧ x.act = (m : Int) ∧ ∃ t', doT (foldT (low ++ [up])) m x = .ok t' ∧ u = doneU low t' up m x := by
  rw [doE] at hd
  split at hd
  · rename_i hr
    obtain ⟨h1, h2, _⟩ := rightOp_iff.1 hr
    split at hd
    · rename_i hst
      split at hd
      · cases hd
      · rename_i t' ht
        split at hd
        · rename_i hok
          cases hd
          exact ⟨(stackOk_layers hst).2 up (by simp), hok, hst, x.act.toNat, by omega, by omega, t', ht, rfl⟩
        · cases hd
    · cases hd
  · cases hd

set_option maxRecDepth 100000 in
set_option maxHeartbeats 16000000 in
theorem touch_main (v1 v2 : Value) (low : List (List Ent)) (up : List Ent) (x : OpT) (w : World) (hL : Laid w) (hv : RdK w v1 low) (hu : RdE w v2 up) (hx : x.fits) (hf : fewOk low = true) (hs : sizeOk up = true) (hm : opSmall x = true) (hll : low.length ≤ 1000) :
    Calls Tryz.prog 5 #[v1, v2, .agg #[.int .i64 x.act, .string x.p, .string x.q, .int .i64 x.n, .string x.s]] w fun e w' => e = .returned (.bool true) ∧ Ext w w' := by
  have hsm : x.p.size ≤ 100 ∧ x.q.size ≤ 100 ∧ x.s.size ≤ 600 := by simpa [opSmall] using hm
  obtain ⟨hsp, hsq, _⟩ := hsm
  have Hv := Lib.hid hv
  have Hu := Lib.hid hu
  have HL := Lib.hid hL
  have Hx := Lib.hid hx
  have HX := fun w => OFew_any x w
  rw [hm] at HX
  obtain ⟨A, c, rfl, _, _, _⟩ := rdK_form2 hv rfl
  obtain ⟨nup, hnup⟩ : ∃ n, n = up.length := ⟨_, rfl⟩
  have Hnup := Lib.hid hnup
  obtain ⟨A2, c2, rfl, hc1, hc2, Hcup0⟩ := rdE_form hu hnup
  have HF := fun w => few_yes (v := .slice A low.length c) hf w
  have HS := fun w => size_yes (v := .slice A2 nup c2) hs w
  have hB := Blk.new w 57 #[.int .i64 x.act, .string x.p, .string x.q, .int .i64 x.n, .string x.s]
  have HB := Lib.hid hB
  clear hv hu hL hx hf hs hm hnup hB
  go_enter Tryz.func5, Tryz.ntmps5
  go_upto_region 3 with (first | (go_at_call 21; ((with_reducible refine (EAwake_any _).mono ?_)); rintro e W1 ⟨rfl, hE1⟩) | (go_at_call 9; refine (HF _ (Hv.out.ext (by exact (by repeat (first | exact Ext.refl _ | assumption | refine Ext.alloc ?_ _ | refine Ext.drew ?_ | refine Ext.drewN ?_ _ | refine Ext.setCell ?_ (by first | omega | (simp; done) | (simp; omega)) _ | refine Ext.trans ?_ (by assumption)))))).mono ?_; rintro e W2 ⟨rfl, hE2⟩) | (go_at_call 27; refine (HS _ (Hu.out.ext (by exact (by repeat (first | exact Ext.refl _ | assumption | refine Ext.alloc ?_ _ | refine Ext.drew ?_ | refine Ext.drewN ?_ _ | refine Ext.setCell ?_ (by first | omega | (simp; done) | (simp; omega)) _ | refine Ext.trans ?_ (by assumption)))))).mono ?_; rintro e W3 ⟨rfl, hE3⟩; obtain ⟨⟨x0, _⟩, ⟨x1, _⟩, ⟨x2, _⟩, ⟨x3, _⟩, ⟨x4, _⟩⟩ := (HB.out.ext (hE1.trans (hE2.trans hE3))).five) | (go_at_call 22; refine (HX _).mono ?_; rintro e W4 ⟨rfl, hE4⟩))
  have hEw4 : Ext w W4 := by exact (by repeat (first | exact Ext.refl _ | assumption | refine Ext.alloc ?_ _ | refine Ext.drew ?_ | refine Ext.drewN ?_ _ | refine Ext.setCell ?_ (by first | omega | (simp; done) | (simp; omega)) _ | refine Ext.trans ?_ (by assumption)))
  have hB4 := HB.out.ext (hE1.trans (hE2.trans (hE3.trans hE4)))
  obtain ⟨ob, hob⟩ : ∃ ob, w.heap.size = ob := ⟨_, rfl⟩
  rw [hob] at hB4 ⊢
  clear x0 x1 x2 x3 x4 hob HB
  obtain ⟨⟨x0, _⟩, ⟨x1, _⟩, ⟨x2, _⟩, ⟨x3, _⟩, ⟨x4, _⟩⟩ := hB4.five
  rcases hd : doE low up x with cc | u
  · have hc0 : (cc != 0) = true := by simpa using doE_code hd
    have HD := fun (W : World) (he : Ext w W) => EdDo_bad (v := .slice A low.length c) (u := .slice A2 nup c2) hd Hx.out hll W (Hv.out.ext he) (Hu.out.ext he)
    clear hd
    go_wp2_with (first
      | (go_at_call 24; refine (EOf_any x _).mono ?_; rintro e W5 ⟨rfl, hE5⟩)
      | (go_at_call 23; refine (HD _ (hEw4.trans hE5)).mono ?_; rintro e W6 ⟨v6, n6, rfl, hEr, hE6⟩)
      | (go_at_call 12; refine (Code_err _ _ _ _ hEr (HL.out.ext ((hEw4.trans hE5).trans hE6))).mono ?_; rintro e W7 ⟨rfl, hE7⟩))
    go_ret
    exact ⟨rfl, ((hEw4.trans hE5).trans hE6).trans hE7⟩
  · obtain ⟨hokup, hoku, _, m, hm7, hact, t', _, hue⟩ := doE_ok hd
    have HD := fun (W : World) (he : Ext w W) => EdDo_ok (v := .slice A low.length c) (u := .slice A2 nup c2) hd Hx.out hll W (Hv.out.ext he) (Hu.out.ext he)
    obtain ⟨qq, hqq⟩ : ∃ qq, qq = (if m = 6 then x.q else x.p) := ⟨_, rfl⟩
    have hsqq : qq.size ≤ 100 := by rw [hqq]; split <;> assumption
    have Htch : Hid (∀ r : ByteArray, nearB r x.p qq = false → findT u r = findT up r) := Lib.hid fun r h => by
      rw [hue]
      exact touch (layerOk_rising hokup) hqq h
    have Hokup := Lib.hid hokup
    have Hoku := Lib.hid hoku
    have hlu := layerOk_len hoku
    obtain ⟨nu, hnu⟩ : ∃ n, n = u.length := ⟨_, rfl⟩
    have Hnu := Lib.hid hnu
    have Hqq := Lib.hid hqq
    rw [← hnu] at hlu
    have hqp : ((x.act == 6) = true ∧ qq = x.q) ∨ ((x.act == 6) = false ∧ qq = x.p) := by
      by_cases h : m = 6
      · exact .inl ⟨by rw [hact, h]; rfl, by rw [hqq, if_pos h]⟩
      · exact .inr ⟨by rw [hact]; simpa using fun e => h (by omega), by rw [hqq, if_neg h]⟩
    clear hd hokup hoku hnu hact hue hqq
    rcases hqp with ⟨h6, h9⟩ | ⟨h6, h9⟩
    all_goals
      have H9 := Lib.hid h9
      clear h9
      go_upto_region 9 with (first
        | (go_at_call 24; refine (EOf_any x _).mono ?_; rintro e W5 ⟨rfl, hE5⟩)
        | (go_at_call 23; refine (HD _ (hEw4.trans hE5)).mono ?_; rintro e W6 ⟨v6, rfl, hr6, hE6⟩; obtain ⟨Au, cu, rfl, hcu1, hcu2, Hcu6⟩ := rdE_form hr6 Hnu.out; have Hr6 := Lib.hid hr6; clear hr6)
        | (go_at_call 12; (with_reducible refine (Code_nil _).mono ?_); rintro e wc ⟨rfl, hE7'⟩; have y0 := ((hE5.trans hE6).trans hE7').cell x0; have y1 := ((hE5.trans hE6).trans hE7').cell x1; have y2 := ((hE5.trans hE6).trans hE7').cell x2))
      rw [← H9.out]
      have hE7 : Ext W4 wc := (hE5.trans hE6).trans hE7'
      have Hru : Hid (RdE wc (.slice Au nu cu) u) := Lib.hid (Hr6.out.ext hE7')
      obtain ⟨A4, c4, he4, _, _, Hcu⟩ := rdE_form Hru.out Hnu.out
      cases he4
      have Hrup : Hid (RdE wc (.slice A2 nup c2) up) := Lib.hid (Hu.out.ext (hEw4.trans hE7))
      obtain ⟨A3, c3, he3, _, _, Hcup⟩ := rdE_form Hrup.out Hnup.out
      cases he3
      have hBo := hB4.ext hE7
      clear Hcup0 Hcu6 y0 y1 y2
      go_wp2
      go_loopw [10] (fun v wr => ∃ k : Nat, v = .int .i64 k ∧ k ≤ nup ∧ Ext wc wr) (fun v _ => nup - (intOf v).toNat)
      case atStart => exact ⟨0, rfl, Nat.zero_le _, by first | exact Ext.refl _ | assumption | exact (by repeat (first | exact Ext.refl _ | assumption | refine Ext.alloc ?_ _ | refine Ext.drew ?_ | refine Ext.drewN ?_ _ | refine Ext.setCell ?_ (by first | omega | (simp; done) | (simp; omega)) _ | refine Ext.trans ?_ (by assumption)))⟩
      case round =>
        obtain ⟨k, rfl, hkn, hE⟩ := hrel
        by_cases hlt : k < nup
        · have hh : k < up.length := by have := Hnup.out; omega
          obtain ⟨cb, co, hslice, hcell⟩ := Hcup.out (List.ne_nil_of_length_pos (by omega))
          subst hslice
          obtain ⟨y, hy⟩ : ∃ y, up[k]'hh = y := ⟨_, rfl⟩
          obtain ⟨q0, q1, q2, _⟩ := hcell k hh
          rw [hy] at q0 q1 q2
          have g0 := hE.cell q0
          have g1 := hE.cell q1
          have g2 := hE.cell q2
          have hyt : up[k]? = some y := by rw [List.getElem?_eq_getElem hh, hy]
          have hmem := List.mem_of_getElem? hyt
          have hps := path_size ((layerOk_iff.1 Hokup.out).2.2 y hmem).1
          have hfy : findT up y.path = some y := findT_of (layerOk_rising Hokup.out) hmem
          have HN := fun W => near_any y.path x.p qq W (by omega) (by omega) (by omega)
          have HF := fun W he => Find_any (.slice Au nu cu) u y.path W (Hru.out.ext he)
          have htch : nearB y.path x.p qq = false → findT u y.path = findT up y.path := Htch.out y.path
          have hkl : (k : Int) < (nup : Int) := by omega
          have hne : ∀ w, (binOp .neq 66 (.agg #[.string y.path, .int .i64 y.kind, .string y.data]) (.agg #[.string y.path, .int .i64 y.kind, .string y.data])).run Tryz.prog w = .ok (.bool false) w := fun w => by rw [neq_ent]; simp
          obtain ⟨nb, hnb⟩ : ∃ nb, nearB y.path x.p qq = nb := ⟨_, rfl⟩
          obtain ⟨fr, hfr⟩ : ∃ fr, findE u y.path = fr := ⟨_, rfl⟩
          rw [hnb] at HN htch
          have HF1 : ∀ W, Ext wc W → Calls Tryz.prog 28 #[(.slice Au nu cu), .string y.path] W fun e w' => e = .returned (foundV fr) ∧ Ext W w' := fun W he => by
            have := HF W he
            rwa [hfr] at this
          have hval : nb = false → fr = some y := fun h => by
            rw [← hfr, findE_T Hoku.out, ← hfy]
            exact htch h
          clear hcell q0 q1 q2 hy hyt hmem hfy HF htch hnb hfr
          rcases nb with _ | _
          · have hfr2 := hval rfl
            subst hfr2
            have HF2 : ∀ W, Ext wc W → Calls Tryz.prog 28 #[(.slice Au nu cu), .string y.path] W fun e w' => e = .returned (.tuple #[.agg #[.string y.path, .int .i64 y.kind, .string y.data], .bool true]) ∧ Ext W w' := HF1
            clear HF1 hval
            go_upto_region 13 with (go_at_call 28; refine (HF2 _ hE).mono ?_; rintro e W5 ⟨rfl, hE5⟩)
            obtain ⟨⟨o1, _⟩, ⟨o2, _⟩⟩ := (hBo.ext (hE.trans hE5)).two12
            have h0 := hE5.cell g0
            have h1 := hE5.cell g1
            have h2 := hE5.cell g2
            have hBx := Blk.new W5 66 #[.string y.path, .int .i64 y.kind, .string y.data]
            have hE6 := (Ext.refl W5).alloc (.cells #[.string y.path, .int .i64 y.kind, .string y.data] 66)
            obtain ⟨⟨x0, _⟩, ⟨x1, _⟩, ⟨x2, _⟩⟩ := hBx.three
            have h0 := hE6.cell h0
            have h1 := hE6.cell h1
            have h2 := hE6.cell h2
            have o1 := hE6.cell o1
            have h0' := fun d os => cell_regrown h0 d os
            have h1' := fun d os => cell_regrown h1 d os
            have h2' := fun d os => cell_regrown h2 d os
            have o1' := fun d os => cell_regrown o1 d os
            have x0' := fun d os => cell_regrown x0 d os
            have x1' := fun d os => cell_regrown x1 d os
            have x2' := fun d os => cell_regrown x2 d os
            (refine wp_region_quiet_below (by kernel_rfl) (by kernel_rfl) ?_; (repeat (go_big_quiet_step ((go_at_call 29; exact Calls.regrown_of (HN _))))); refine wpQuiet_nil ?_; intro _ hq; obtain ⟨⟨dq, osq⟩, hq2⟩ := hq; subst hq2)
            go_wp2
            exact ⟨⟨k + 1, by simp, by omega, hE.trans (hE5.trans (hE6.trans (below_regrown _ dq osq)))⟩, by simp [intOf]; omega⟩
          · clear hval
            rcases fr with _ | z
            · have HF2 : ∀ W, Ext wc W → Calls Tryz.prog 28 #[(.slice Au nu cu), .string y.path] W fun e w' => e = .returned (.tuple #[.agg #[.string ⟨#[]⟩, .int .i64 0, .string ⟨#[]⟩], .bool false]) ∧ Ext W w' := HF1
              clear HF1
              go_upto_region 13 with (go_at_call 28; refine (HF2 _ hE).mono ?_; rintro e W5 ⟨rfl, hE5⟩)
              obtain ⟨⟨o1, _⟩, ⟨o2, _⟩⟩ := (hBo.ext (hE.trans hE5)).two12
              have h0 := hE5.cell g0
              have h1 := hE5.cell g1
              have h2 := hE5.cell g2
              have hBx := Blk.new W5 66 #[.string ⟨#[]⟩, .int .i64 0, .string ⟨#[]⟩]
              have hE6 := (Ext.refl W5).alloc (.cells #[.string ⟨#[]⟩, .int .i64 0, .string ⟨#[]⟩] 66)
              obtain ⟨⟨x0, _⟩, ⟨x1, _⟩, ⟨x2, _⟩⟩ := hBx.three
              have h0 := hE6.cell h0
              have h1 := hE6.cell h1
              have h2 := hE6.cell h2
              have o1 := hE6.cell o1
              have h0' := fun d os => cell_regrown h0 d os
              have h1' := fun d os => cell_regrown h1 d os
              have h2' := fun d os => cell_regrown h2 d os
              have o1' := fun d os => cell_regrown o1 d os
              have x0' := fun d os => cell_regrown x0 d os
              have x1' := fun d os => cell_regrown x1 d os
              have x2' := fun d os => cell_regrown x2 d os
              (refine wp_region_quiet_below (by kernel_rfl) (by kernel_rfl) ?_; (repeat (go_big_quiet_step ((go_at_call 29; exact Calls.regrown_of (HN _))))); refine wpQuiet_nil ?_; intro _ hq; obtain ⟨⟨dq, osq⟩, hq2⟩ := hq; subst hq2)
              go_wp2
              exact ⟨⟨k + 1, by simp, by omega, hE.trans (hE5.trans (hE6.trans (below_regrown _ dq osq)))⟩, by simp [intOf]; omega⟩
            · have HF2 : ∀ W, Ext wc W → Calls Tryz.prog 28 #[(.slice Au nu cu), .string y.path] W fun e w' => e = .returned (.tuple #[.agg #[.string z.path, .int .i64 z.kind, .string z.data], .bool true]) ∧ Ext W w' := HF1
              clear HF1
              go_upto_region 13 with (go_at_call 28; refine (HF2 _ hE).mono ?_; rintro e W5 ⟨rfl, hE5⟩)
              obtain ⟨⟨o1, _⟩, ⟨o2, _⟩⟩ := (hBo.ext (hE.trans hE5)).two12
              have h0 := hE5.cell g0
              have h1 := hE5.cell g1
              have h2 := hE5.cell g2
              have hBx := Blk.new W5 66 #[.string z.path, .int .i64 z.kind, .string z.data]
              have hE6 := (Ext.refl W5).alloc (.cells #[.string z.path, .int .i64 z.kind, .string z.data] 66)
              obtain ⟨⟨x0, _⟩, ⟨x1, _⟩, ⟨x2, _⟩⟩ := hBx.three
              have h0 := hE6.cell h0
              have h1 := hE6.cell h1
              have h2 := hE6.cell h2
              have o1 := hE6.cell o1
              have h0' := fun d os => cell_regrown h0 d os
              have h1' := fun d os => cell_regrown h1 d os
              have h2' := fun d os => cell_regrown h2 d os
              have o1' := fun d os => cell_regrown o1 d os
              have x0' := fun d os => cell_regrown x0 d os
              have x1' := fun d os => cell_regrown x1 d os
              have x2' := fun d os => cell_regrown x2 d os
              (refine wp_region_quiet_below (by kernel_rfl) (by kernel_rfl) ?_; (repeat (go_big_quiet_step ((go_at_call 29; exact Calls.regrown_of (HN _))))); refine wpQuiet_nil ?_; intro _ hq; obtain ⟨⟨dq, osq⟩, hq2⟩ := hq; subst hq2)
              go_wp2
              exact ⟨⟨k + 1, by simp, by omega, hE.trans (hE5.trans (hE6.trans (below_regrown _ dq osq)))⟩, by simp [intOf]; omega⟩
        · go_wp2
          go_loopw [13] (fun v wr => ∃ k : Nat, v = .int .i64 k ∧ k ≤ nu ∧ Ext wc wr) (fun v _ => nu - (intOf v).toNat)
          case atStart => exact ⟨0, rfl, Nat.zero_le _, by first | exact Ext.refl _ | assumption | exact (by repeat (first | exact Ext.refl _ | assumption | refine Ext.alloc ?_ _ | refine Ext.drew ?_ | refine Ext.drewN ?_ _ | refine Ext.setCell ?_ (by first | omega | (simp; done) | (simp; omega)) _ | refine Ext.trans ?_ (by assumption)))⟩
          case round =>
            obtain ⟨k, rfl, hkn, hE⟩ := hrel
            by_cases hlt : k < nu
            · have hh : k < u.length := by have := Hnu.out; omega
              obtain ⟨cb, co, hslice, hcell⟩ := Hcu.out (List.ne_nil_of_length_pos (by omega))
              subst hslice
              obtain ⟨y, hy⟩ : ∃ y, u[k]'hh = y := ⟨_, rfl⟩
              obtain ⟨q0, q1, q2, _⟩ := hcell k hh
              rw [hy] at q0 q1 q2
              have g0 := hE.cell q0
              have g1 := hE.cell q1
              have g2 := hE.cell q2
              have hyt : u[k]? = some y := by rw [List.getElem?_eq_getElem hh, hy]
              have hmem := List.mem_of_getElem? hyt
              have hps := path_size ((layerOk_iff.1 Hoku.out).2.2 y hmem).1
              have hfy : findT u y.path = some y := findT_of (layerOk_rising Hoku.out) hmem
              have HN := fun W => near_any y.path x.p qq W (by omega) (by omega) (by omega)
              have HF := fun W he => Find_any (.slice A2 nup c2) up y.path W (Hrup.out.ext he)
              have htch : nearB y.path x.p qq = false → findT u y.path = findT up y.path := Htch.out y.path
              have hkl : (k : Int) < (nu : Int) := by omega
              have hne : ∀ w, (binOp .neq 66 (.agg #[.string y.path, .int .i64 y.kind, .string y.data]) (.agg #[.string y.path, .int .i64 y.kind, .string y.data])).run Tryz.prog w = .ok (.bool false) w := fun w => by rw [neq_ent]; simp
              obtain ⟨nb, hnb⟩ : ∃ nb, nearB y.path x.p qq = nb := ⟨_, rfl⟩
              obtain ⟨fr, hfr⟩ : ∃ fr, findE up y.path = fr := ⟨_, rfl⟩
              rw [hnb] at HN htch
              have HF1 : ∀ W, Ext wc W → Calls Tryz.prog 28 #[(.slice A2 nup c2), .string y.path] W fun e w' => e = .returned (foundV fr) ∧ Ext W w' := fun W he => by
                have := HF W he
                rwa [hfr] at this
              have hval : nb = false → fr = some y := fun h => by
                rw [← hfr, findE_T Hokup.out, ← hfy]
                exact (htch h).symm
              clear hcell q0 q1 q2 hy hyt hmem hfy HF htch hnb hfr
              rcases nb with _ | _
              · have hfr2 := hval rfl
                subst hfr2
                have HF2 : ∀ W, Ext wc W → Calls Tryz.prog 28 #[(.slice A2 nup c2), .string y.path] W fun e w' => e = .returned (.tuple #[.agg #[.string y.path, .int .i64 y.kind, .string y.data], .bool true]) ∧ Ext W w' := HF1
                clear HF1 hval
                go_upto_region 19 with (go_at_call 28; refine (HF2 _ hE).mono ?_; rintro e W5 ⟨rfl, hE5⟩)
                obtain ⟨⟨o1, _⟩, ⟨o2, _⟩⟩ := (hBo.ext (hE.trans hE5)).two12
                have h0 := hE5.cell g0
                have h1 := hE5.cell g1
                have h2 := hE5.cell g2
                have hBx := Blk.new W5 66 #[.string y.path, .int .i64 y.kind, .string y.data]
                have hE6 := (Ext.refl W5).alloc (.cells #[.string y.path, .int .i64 y.kind, .string y.data] 66)
                obtain ⟨⟨x0, _⟩, ⟨x1, _⟩, ⟨x2, _⟩⟩ := hBx.three
                have h0 := hE6.cell h0
                have h1 := hE6.cell h1
                have h2 := hE6.cell h2
                have o1 := hE6.cell o1
                have h0' := fun d os => cell_regrown h0 d os
                have h1' := fun d os => cell_regrown h1 d os
                have h2' := fun d os => cell_regrown h2 d os
                have o1' := fun d os => cell_regrown o1 d os
                have x0' := fun d os => cell_regrown x0 d os
                have x1' := fun d os => cell_regrown x1 d os
                have x2' := fun d os => cell_regrown x2 d os
                (refine wp_region_quiet_below (by kernel_rfl) (by kernel_rfl) ?_; (repeat (go_big_quiet_step ((go_at_call 29; exact Calls.regrown_of (HN _))))); refine wpQuiet_nil ?_; intro _ hq; obtain ⟨⟨dq, osq⟩, hq2⟩ := hq; subst hq2)
                go_wp2
                exact ⟨⟨k + 1, by simp, by omega, hE.trans (hE5.trans (hE6.trans (below_regrown _ dq osq)))⟩, by simp [intOf]; omega⟩
              · clear hval
                rcases fr with _ | z
                · have HF2 : ∀ W, Ext wc W → Calls Tryz.prog 28 #[(.slice A2 nup c2), .string y.path] W fun e w' => e = .returned (.tuple #[.agg #[.string ⟨#[]⟩, .int .i64 0, .string ⟨#[]⟩], .bool false]) ∧ Ext W w' := HF1
                  clear HF1
                  go_upto_region 19 with (go_at_call 28; refine (HF2 _ hE).mono ?_; rintro e W5 ⟨rfl, hE5⟩)
                  obtain ⟨⟨o1, _⟩, ⟨o2, _⟩⟩ := (hBo.ext (hE.trans hE5)).two12
                  have h0 := hE5.cell g0
                  have h1 := hE5.cell g1
                  have h2 := hE5.cell g2
                  have hBx := Blk.new W5 66 #[.string ⟨#[]⟩, .int .i64 0, .string ⟨#[]⟩]
                  have hE6 := (Ext.refl W5).alloc (.cells #[.string ⟨#[]⟩, .int .i64 0, .string ⟨#[]⟩] 66)
                  obtain ⟨⟨x0, _⟩, ⟨x1, _⟩, ⟨x2, _⟩⟩ := hBx.three
                  have h0 := hE6.cell h0
                  have h1 := hE6.cell h1
                  have h2 := hE6.cell h2
                  have o1 := hE6.cell o1
                  have h0' := fun d os => cell_regrown h0 d os
                  have h1' := fun d os => cell_regrown h1 d os
                  have h2' := fun d os => cell_regrown h2 d os
                  have o1' := fun d os => cell_regrown o1 d os
                  have x0' := fun d os => cell_regrown x0 d os
                  have x1' := fun d os => cell_regrown x1 d os
                  have x2' := fun d os => cell_regrown x2 d os
                  (refine wp_region_quiet_below (by kernel_rfl) (by kernel_rfl) ?_; (repeat (go_big_quiet_step ((go_at_call 29; exact Calls.regrown_of (HN _))))); refine wpQuiet_nil ?_; intro _ hq; obtain ⟨⟨dq, osq⟩, hq2⟩ := hq; subst hq2)
                  go_wp2
                  exact ⟨⟨k + 1, by simp, by omega, hE.trans (hE5.trans (hE6.trans (below_regrown _ dq osq)))⟩, by simp [intOf]; omega⟩
                · have HF2 : ∀ W, Ext wc W → Calls Tryz.prog 28 #[(.slice A2 nup c2), .string y.path] W fun e w' => e = .returned (.tuple #[.agg #[.string z.path, .int .i64 z.kind, .string z.data], .bool true]) ∧ Ext W w' := HF1
                  clear HF1
                  go_upto_region 19 with (go_at_call 28; refine (HF2 _ hE).mono ?_; rintro e W5 ⟨rfl, hE5⟩)
                  obtain ⟨⟨o1, _⟩, ⟨o2, _⟩⟩ := (hBo.ext (hE.trans hE5)).two12
                  have h0 := hE5.cell g0
                  have h1 := hE5.cell g1
                  have h2 := hE5.cell g2
                  have hBx := Blk.new W5 66 #[.string z.path, .int .i64 z.kind, .string z.data]
                  have hE6 := (Ext.refl W5).alloc (.cells #[.string z.path, .int .i64 z.kind, .string z.data] 66)
                  obtain ⟨⟨x0, _⟩, ⟨x1, _⟩, ⟨x2, _⟩⟩ := hBx.three
                  have h0 := hE6.cell h0
                  have h1 := hE6.cell h1
                  have h2 := hE6.cell h2
                  have o1 := hE6.cell o1
                  have h0' := fun d os => cell_regrown h0 d os
                  have h1' := fun d os => cell_regrown h1 d os
                  have h2' := fun d os => cell_regrown h2 d os
                  have o1' := fun d os => cell_regrown o1 d os
                  have x0' := fun d os => cell_regrown x0 d os
                  have x1' := fun d os => cell_regrown x1 d os
                  have x2' := fun d os => cell_regrown x2 d os
                  (refine wp_region_quiet_below (by kernel_rfl) (by kernel_rfl) ?_; (repeat (go_big_quiet_step ((go_at_call 29; exact Calls.regrown_of (HN _))))); refine wpQuiet_nil ?_; intro _ hq; obtain ⟨⟨dq, osq⟩, hq2⟩ := hq; subst hq2)
                  go_wp2
                  exact ⟨⟨k + 1, by simp, by omega, hE.trans (hE5.trans (hE6.trans (below_regrown _ dq osq)))⟩, by simp [intOf]; omega⟩
            · go_wp2
              go_ret
              exact ⟨rfl, hEw4.trans (hE7.trans hE)⟩
theorem EditTouches_any (v1 v2 : Value) (low : List (List Ent)) (up : List Ent) (x : OpT) (w : World) (hL : Laid w) (hv : RdK w v1 low) (hu : RdE w v2 up) (hx : x.fits) :
    Calls Tryz.prog 5 #[v1, v2, .agg #[.int .i64 x.act, .string x.p, .string x.q, .int .i64 x.n, .string x.s]] w fun e w' => e = .returned (.bool true) ∧ Ext w w' := by
  by_cases h : fewOk low = true ∧ sizeOk up = true ∧ opSmall x = true
  · exact touch_main v1 v2 low up x w hL hv hu hx h.1 h.2.1 h.2.2 (Nat.le_trans (fewOk_len h.1) (by decide))
  · exact touch_let v1 v2 low up x w hv hu h
end Go.Proofs.YtneefmgidplbcaaGreatDoor
