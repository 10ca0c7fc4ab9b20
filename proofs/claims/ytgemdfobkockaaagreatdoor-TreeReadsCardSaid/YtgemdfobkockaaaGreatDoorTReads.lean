/- shalelaw11.TreeReads is true. -/
import Derived.Test.YtgemdfobkockaaaGreatDoorTMove
namespace Go.Proofs.YtgemdfobkockaaaGreatDoor
open Go Go.RowKit Go.Shelf Go.Proofs

theorem Write_ok {v : Value} {t l : List Ent} {p s : ByteArray} {n : Int} (hp : p.size ≤ 140737488355328) (h : writeT t p n s = .ok l) (w : World) (hv : RdE w v t) : Calls Tryz.prog 41 #[v, .string p, .int .i64 n, .string s] w (WithOk l w) := by
  have := Write_any v t p n s w hv hp
  rwa [h] at this
theorem Write_bad {v : Value} {t : List Ent} {p s : ByteArray} {n c : Int} (hp : p.size ≤ 140737488355328) (h : writeT t p n s = .error c) (w : World) (hv : RdE w v t) : Calls Tryz.prog 41 #[v, .string p, .int .i64 n, .string s] w (TBad c w) := by
  have := Write_any v t p n s w hv hp
  rwa [h] at this
theorem Rename_ok {v : Value} {t l : List Ent} {p q : ByteArray} (hp : p.size ≤ 140737488355328) (hq : q.size ≤ 140737488355328) (h : renameT t p q = .ok l) (w : World) (hv : RdE w v t) : Calls Tryz.prog 42 #[v, .string p, .string q] w (WithOk l w) := by
  have := Rename_any v t p q w hv hp hq
  rwa [h] at this
theorem Rename_bad {v : Value} {t : List Ent} {p q : ByteArray} {c : Int} (hp : p.size ≤ 140737488355328) (hq : q.size ≤ 140737488355328) (h : renameT t p q = .error c) (w : World) (hv : RdE w v t) : Calls Tryz.prog 42 #[v, .string p, .string q] w (TBad c w) := by
  have := Rename_any v t p q w hv hp hq
  rwa [h] at this
theorem Unlink_ok {v : Value} {t l : List Ent} {p : ByteArray} (hp : p.size ≤ 140737488355328) (h : unlinkT t p = .ok l) (w : World) (hv : RdE w v t) (hl : t.length ≤ 1000000) : Calls Tryz.prog 43 #[v, .string p] w (WithOk l w) := by
  have := Unlink_any v t p w hv hp hl
  rwa [h] at this

theorem RdE.grow {w w' : World} {v : Value} {l : List Ent} (h : RdE w v l) (he : Ext w w') : RdE w' v l := h.ext he

set_option maxRecDepth 100000 in
set_option maxHeartbeats 8000000 in
/-- Where the law lets an input go. -/
theorem reads_let (v : Value) (t : List Ent) (p q s : ByteArray) (n : Int) (w : World) (hL : Laid w) (hv : RdE w v t) (h : ¬ (sizeOk t = true ∧ p.size ≤ 100 ∧ q.size ≤ 100 ∧ s.size ≤ 200 ∧ treeOk t = true)) :
    Calls Tryz.prog 9 #[v, .string p, .string q, .int .u8 n, .string s] w fun e w' => e = .returned (.bool true) ∧ Ext w w' := by
  have Hv := Lib.hid hv
  have HL := Lib.hid hL
  obtain ⟨A, c, rfl, _, _, _⟩ := rdE_form hv rfl
  clear hv hL
  rcases hf : sizeOk t with _ | _
  · have HF := fun w => size_no (v := .slice A t.length c) hf w
    clear hf h
    go_enter Tryz.func9, Tryz.ntmps9
    go_wp2_with (first | (go_at_call 34; refine (TAwake_any _ (HL.out.ext (by exact (by repeat (first | exact Ext.refl _ | assumption | refine Ext.alloc ?_ _ | refine Ext.drew ?_ | refine Ext.drewN ?_ _ | refine Ext.setCell ?_ (by first | omega | (simp; done) | (simp; omega)) _ | refine Ext.trans ?_ (by assumption)))))).mono ?_; rintro e W1 ⟨rfl, hE1⟩) | (go_at_call 35; refine (HF _ (Hv.out.ext (by exact (by repeat (first | exact Ext.refl _ | assumption | refine Ext.alloc ?_ _ | refine Ext.drew ?_ | refine Ext.drewN ?_ _ | refine Ext.setCell ?_ (by first | omega | (simp; done) | (simp; omega)) _ | refine Ext.trans ?_ (by assumption)))))).mono ?_; rintro e W2 ⟨rfl, hE2⟩))
    go_ret
    exact ⟨rfl, by exact (by repeat (first | exact Ext.refl _ | assumption | refine Ext.alloc ?_ _ | refine Ext.drew ?_ | refine Ext.drewN ?_ _ | refine Ext.setCell ?_ (by first | omega | (simp; done) | (simp; omega)) _ | refine Ext.trans ?_ (by assumption)))⟩
  · have HF := fun w => size_yes (v := .slice A t.length c) hf w
    by_cases hp : p.size ≤ 100
    · by_cases hq : q.size ≤ 100
      · by_cases hs : s.size ≤ 200
        · have ht : treeOk t = false := by
            cases ht : treeOk t
            · rfl
            · exact absurd ⟨hf, hp, hq, hs, ht⟩ h
          have hp' : ¬ (100 : Int) < (p.size : Int) := by omega
          have hq' : ¬ (100 : Int) < (q.size : Int) := by omega
          have hs' : ¬ (200 : Int) < (s.size : Int) := by omega
          have HT := fun w => Tree_no (v := .slice A t.length c) ht w
          clear hf h ht
          go_enter Tryz.func9, Tryz.ntmps9
          go_wp2_with (first | (go_at_call 34; refine (TAwake_any _ (HL.out.ext (by exact (by repeat (first | exact Ext.refl _ | assumption | refine Ext.alloc ?_ _ | refine Ext.drew ?_ | refine Ext.drewN ?_ _ | refine Ext.setCell ?_ (by first | omega | (simp; done) | (simp; omega)) _ | refine Ext.trans ?_ (by assumption)))))).mono ?_; rintro e W1 ⟨rfl, hE1⟩) | (go_at_call 35; refine (HF _ (Hv.out.ext (by exact (by repeat (first | exact Ext.refl _ | assumption | refine Ext.alloc ?_ _ | refine Ext.drew ?_ | refine Ext.drewN ?_ _ | refine Ext.setCell ?_ (by first | omega | (simp; done) | (simp; omega)) _ | refine Ext.trans ?_ (by assumption)))))).mono ?_; rintro e W2 ⟨rfl, hE2⟩) | (go_at_call 36; refine (HT _ (Hv.out.ext (by exact (by repeat (first | exact Ext.refl _ | assumption | refine Ext.alloc ?_ _ | refine Ext.drew ?_ | refine Ext.drewN ?_ _ | refine Ext.setCell ?_ (by first | omega | (simp; done) | (simp; omega)) _ | refine Ext.trans ?_ (by assumption)))))).mono ?_; rintro e W3 ⟨rfl, hE3⟩))
          go_ret
          exact ⟨rfl, by exact (by repeat (first | exact Ext.refl _ | assumption | refine Ext.alloc ?_ _ | refine Ext.drew ?_ | refine Ext.drewN ?_ _ | refine Ext.setCell ?_ (by first | omega | (simp; done) | (simp; omega)) _ | refine Ext.trans ?_ (by assumption)))⟩
        · have hp' : ¬ (100 : Int) < (p.size : Int) := by omega
          have hq' : ¬ (100 : Int) < (q.size : Int) := by omega
          have hs' : (200 : Int) < (s.size : Int) := by omega
          clear hf h
          go_enter Tryz.func9, Tryz.ntmps9
          go_wp2_with (first | (go_at_call 34; refine (TAwake_any _ (HL.out.ext (by exact (by repeat (first | exact Ext.refl _ | assumption | refine Ext.alloc ?_ _ | refine Ext.drew ?_ | refine Ext.drewN ?_ _ | refine Ext.setCell ?_ (by first | omega | (simp; done) | (simp; omega)) _ | refine Ext.trans ?_ (by assumption)))))).mono ?_; rintro e W1 ⟨rfl, hE1⟩) | (go_at_call 35; refine (HF _ (Hv.out.ext (by exact (by repeat (first | exact Ext.refl _ | assumption | refine Ext.alloc ?_ _ | refine Ext.drew ?_ | refine Ext.drewN ?_ _ | refine Ext.setCell ?_ (by first | omega | (simp; done) | (simp; omega)) _ | refine Ext.trans ?_ (by assumption)))))).mono ?_; rintro e W2 ⟨rfl, hE2⟩))
          go_ret
          exact ⟨rfl, by exact (by repeat (first | exact Ext.refl _ | assumption | refine Ext.alloc ?_ _ | refine Ext.drew ?_ | refine Ext.drewN ?_ _ | refine Ext.setCell ?_ (by first | omega | (simp; done) | (simp; omega)) _ | refine Ext.trans ?_ (by assumption)))⟩
      · have hp' : ¬ (100 : Int) < (p.size : Int) := by omega
        have hq' : (100 : Int) < (q.size : Int) := by omega
        clear hf h
        go_enter Tryz.func9, Tryz.ntmps9
        go_wp2_with (first | (go_at_call 34; refine (TAwake_any _ (HL.out.ext (by exact (by repeat (first | exact Ext.refl _ | assumption | refine Ext.alloc ?_ _ | refine Ext.drew ?_ | refine Ext.drewN ?_ _ | refine Ext.setCell ?_ (by first | omega | (simp; done) | (simp; omega)) _ | refine Ext.trans ?_ (by assumption)))))).mono ?_; rintro e W1 ⟨rfl, hE1⟩) | (go_at_call 35; refine (HF _ (Hv.out.ext (by exact (by repeat (first | exact Ext.refl _ | assumption | refine Ext.alloc ?_ _ | refine Ext.drew ?_ | refine Ext.drewN ?_ _ | refine Ext.setCell ?_ (by first | omega | (simp; done) | (simp; omega)) _ | refine Ext.trans ?_ (by assumption)))))).mono ?_; rintro e W2 ⟨rfl, hE2⟩))
        go_ret
        exact ⟨rfl, by exact (by repeat (first | exact Ext.refl _ | assumption | refine Ext.alloc ?_ _ | refine Ext.drew ?_ | refine Ext.drewN ?_ _ | refine Ext.setCell ?_ (by first | omega | (simp; done) | (simp; omega)) _ | refine Ext.trans ?_ (by assumption)))⟩
    · have hp' : (100 : Int) < (p.size : Int) := by omega
      clear hf h
      go_enter Tryz.func9, Tryz.ntmps9
      go_wp2_with (first | (go_at_call 34; refine (TAwake_any _ (HL.out.ext (by exact (by repeat (first | exact Ext.refl _ | assumption | refine Ext.alloc ?_ _ | refine Ext.drew ?_ | refine Ext.drewN ?_ _ | refine Ext.setCell ?_ (by first | omega | (simp; done) | (simp; omega)) _ | refine Ext.trans ?_ (by assumption)))))).mono ?_; rintro e W1 ⟨rfl, hE1⟩) | (go_at_call 35; refine (HF _ (Hv.out.ext (by exact (by repeat (first | exact Ext.refl _ | assumption | refine Ext.alloc ?_ _ | refine Ext.drew ?_ | refine Ext.drewN ?_ _ | refine Ext.setCell ?_ (by first | omega | (simp; done) | (simp; omega)) _ | refine Ext.trans ?_ (by assumption)))))).mono ?_; rintro e W2 ⟨rfl, hE2⟩))
      go_ret
      exact ⟨rfl, by exact (by repeat (first | exact Ext.refl _ | assumption | refine Ext.alloc ?_ _ | refine Ext.drew ?_ | refine Ext.drewN ?_ _ | refine Ext.setCell ?_ (by first | omega | (simp; done) | (simp; omega)) _ | refine Ext.trans ?_ (by assumption)))⟩

set_option maxRecDepth 100000 in
set_option maxHeartbeats 16000000 in
/-- The law's claim where an input is looked at. -/
theorem reads_main (v : Value) (t : List Ent) (p q s : ByteArray) (k : Nat) (w : World) (hk : k ≤ 255) (hL : Laid w) (hv : RdE w v t) (hf : sizeOk t = true) (hp : p.size ≤ 100) (hq : q.size ≤ 100) (hs : s.size ≤ 200) (ht : treeOk t = true) :
    Calls Tryz.prog 9 #[v, .string p, .string q, .int .u8 k, .string s] w fun e w' => e = .returned (.bool true) ∧ Ext w w' := by
  have Hv := Lib.hid hv
  have HL := Lib.hid hL
  obtain ⟨A, c', rfl, _, _, _⟩ := rdE_form hv rfl
  have HF := fun w => size_yes (v := .slice A t.length c') hf w
  have hp' : ¬ (100 : Int) < (p.size : Int) := by omega
  have hq' : ¬ (100 : Int) < (q.size : Int) := by omega
  have hs' : ¬ (200 : Int) < (s.size : Int) := by omega
  have HT := fun w => Tree_yes (v := .slice A t.length c') ht w
  have hw8 : IntKind.i64.wrap (k : Int) = (k : Int) := IntWalk.i64_in _ ⟨by omega, by omega⟩
  have hadd : IntKind.i64.wrap ((k : Int) + (s.size : Int)) = (k : Int) + (s.size : Int) := IntWalk.i64_in _ ⟨by omega, by omega⟩
  rcases hm : madeT t p (1 : Nat) with c | x
  · have hc0 : (c == 0) = false := by simpa using madeT_code hm
    have HC := fun w => Create_bad (v := .slice A t.length c') (by omega) hm w
    clear hf ht hv hL hm
    go_enter Tryz.func9, Tryz.ntmps9
    go_wp2_with (first | (go_at_call 34; refine (TAwake_any _ (HL.out.ext (by exact (by repeat (first | exact Ext.refl _ | assumption | refine Ext.alloc ?_ _ | refine Ext.drew ?_ | refine Ext.drewN ?_ _ | refine Ext.setCell ?_ (by first | omega | (simp; done) | (simp; omega)) _ | refine Ext.trans ?_ (by assumption)))))).mono ?_; rintro e W1 ⟨rfl, hE1⟩) | (go_at_call 35; refine (HF _ (Hv.out.ext (by exact (by repeat (first | exact Ext.refl _ | assumption | refine Ext.alloc ?_ _ | refine Ext.drew ?_ | refine Ext.drewN ?_ _ | refine Ext.setCell ?_ (by first | omega | (simp; done) | (simp; omega)) _ | refine Ext.trans ?_ (by assumption)))))).mono ?_; rintro e W2 ⟨rfl, hE2⟩) | (go_at_call 36; refine (HT _ (Hv.out.ext (by exact (by repeat (first | exact Ext.refl _ | assumption | refine Ext.alloc ?_ _ | refine Ext.drew ?_ | refine Ext.drewN ?_ _ | refine Ext.setCell ?_ (by first | omega | (simp; done) | (simp; omega)) _ | refine Ext.trans ?_ (by assumption)))))).mono ?_; rintro e W3 ⟨rfl, hE3⟩) | (go_at_call 40; refine (HC _ (Hv.out.ext (by exact (by repeat (first | exact Ext.refl _ | assumption | refine Ext.alloc ?_ _ | refine Ext.drew ?_ | refine Ext.drewN ?_ _ | refine Ext.setCell ?_ (by first | omega | (simp; done) | (simp; omega)) _ | refine Ext.trans ?_ (by assumption)))))).mono ?_; rintro e W4 ⟨v4, n4, rfl, hErC, hE4⟩) | (go_at_call 18; refine (Code_err _ _ _ _ (hErC.ext (by exact (by repeat (first | exact Ext.refl _ | assumption | refine Ext.alloc ?_ _ | refine Ext.drew ?_ | refine Ext.drewN ?_ _ | refine Ext.setCell ?_ (by first | omega | (simp; done) | (simp; omega)) _ | refine Ext.trans ?_ (by assumption))))) (HL.out.ext (by exact (by repeat (first | exact Ext.refl _ | assumption | refine Ext.alloc ?_ _ | refine Ext.drew ?_ | refine Ext.drewN ?_ _ | refine Ext.setCell ?_ (by first | omega | (simp; done) | (simp; omega)) _ | refine Ext.trans ?_ (by assumption)))))).mono ?_; rintro e W14 ⟨rfl, hE14⟩))
    go_ret
    exact ⟨rfl, by exact (by repeat (first | exact Ext.refl _ | assumption | refine Ext.alloc ?_ _ | refine Ext.drew ?_ | refine Ext.drewN ?_ _ | refine Ext.setCell ?_ (by first | omega | (simp; done) | (simp; omega)) _ | refine Ext.trans ?_ (by assumption)))⟩
  · have HC := fun w => Create_ok (v := .slice A t.length c') (by omega) hm w
    obtain ⟨h1, h2, h3⟩ := made_written hm k s
    have HR1 := fun u w w' h he => tRead_ok (v := u) (by omega) h1 w' (RdE.grow (w := w) h he)
    by_cases hks : k + s.size ≤ 256
    · obtain ⟨y, hy1, hy2, hy3, hy4⟩ := h3 hks
      have HW := fun u w => Write_ok (v := u) (by omega) hy1 w
      have HR2 := fun u w w' h he => tRead_ok (v := u) (by omega) hy3 w' (RdE.grow (w := w) h he)
      have HU := fun u w h => Unlink_ok (v := u) (by omega) hy4 w h (by have := tree_small hy2; omega)
      obtain ⟨hd1, hd2⟩ := written_nil k s
      generalize writtenT ⟨#[]⟩ k s = d at *
      have hks' : (k : Int) + (s.size : Int) ≤ 256 := by omega
      have hcmp : ((d.extract k d.size).toList == s.toList) = true := by rw [hd1, hd2]; simp
      have hcmp2 : ((d.extract k (k + s.size)).toList == s.toList) = true := by rw [hd2]; simp
      have hds : (d.size : Int) = (k : Int) + (s.size : Int) := by omega
      have hkd : k ≤ d.size := by omega
      rcases hn : renameT y p q with c | z
      · have hc0 : (c == 0) = false := by simpa using renameT_code hn
        have HN := fun u w => Rename_bad (v := u) (by omega) (by omega) hn w
        clear hf ht hv hL hm h1 h2 h3 hy1 hy2 hy3 hy4 hn hd2
        go_enter Tryz.func9, Tryz.ntmps9
        go_wp2_with (first | (go_at_call 34; refine (TAwake_any _ (HL.out.ext (by exact (by repeat (first | exact Ext.refl _ | assumption | refine Ext.alloc ?_ _ | refine Ext.drew ?_ | refine Ext.drewN ?_ _ | refine Ext.setCell ?_ (by first | omega | (simp; done) | (simp; omega)) _ | refine Ext.trans ?_ (by assumption)))))).mono ?_; rintro e W1 ⟨rfl, hE1⟩) | (go_at_call 35; refine (HF _ (Hv.out.ext (by exact (by repeat (first | exact Ext.refl _ | assumption | refine Ext.alloc ?_ _ | refine Ext.drew ?_ | refine Ext.drewN ?_ _ | refine Ext.setCell ?_ (by first | omega | (simp; done) | (simp; omega)) _ | refine Ext.trans ?_ (by assumption)))))).mono ?_; rintro e W2 ⟨rfl, hE2⟩) | (go_at_call 36; refine (HT _ (Hv.out.ext (by exact (by repeat (first | exact Ext.refl _ | assumption | refine Ext.alloc ?_ _ | refine Ext.drew ?_ | refine Ext.drewN ?_ _ | refine Ext.setCell ?_ (by first | omega | (simp; done) | (simp; omega)) _ | refine Ext.trans ?_ (by assumption)))))).mono ?_; rintro e W3 ⟨rfl, hE3⟩) | (go_at_call 40; refine (HC _ (Hv.out.ext (by exact (by repeat (first | exact Ext.refl _ | assumption | refine Ext.alloc ?_ _ | refine Ext.drew ?_ | refine Ext.drewN ?_ _ | refine Ext.setCell ?_ (by first | omega | (simp; done) | (simp; omega)) _ | refine Ext.trans ?_ (by assumption)))))).mono ?_; rintro e W4 ⟨v4, rfl, hr4, hE4⟩) | (go_at_call 37; (with_reducible refine (HR1 _ _ _ hr4 (by exact (by repeat (first | exact Ext.refl _ | assumption | refine Ext.alloc ?_ _ | refine Ext.drew ?_ | refine Ext.drewN ?_ _ | refine Ext.setCell ?_ (by first | omega | (simp; done) | (simp; omega)) _ | refine Ext.trans ?_ (by assumption))))).mono ?_); rintro e W5 ⟨rfl, hE5⟩) | (go_at_call 41; refine (HW _ _ (hr4.ext (by exact (by repeat (first | exact Ext.refl _ | assumption | refine Ext.alloc ?_ _ | refine Ext.drew ?_ | refine Ext.drewN ?_ _ | refine Ext.setCell ?_ (by first | omega | (simp; done) | (simp; omega)) _ | refine Ext.trans ?_ (by assumption)))))).mono ?_; rintro e W6 ⟨v6, rfl, hr6, hE6⟩) | (go_at_call 37; (with_reducible refine (HR2 _ _ _ hr6 (by exact (by repeat (first | exact Ext.refl _ | assumption | refine Ext.alloc ?_ _ | refine Ext.drew ?_ | refine Ext.drewN ?_ _ | refine Ext.setCell ?_ (by first | omega | (simp; done) | (simp; omega)) _ | refine Ext.trans ?_ (by assumption))))).mono ?_); rintro e W7 ⟨rfl, hE7⟩) | (go_at_call 42; refine (HN _ _ (hr6.ext (by exact (by repeat (first | exact Ext.refl _ | assumption | refine Ext.alloc ?_ _ | refine Ext.drew ?_ | refine Ext.drewN ?_ _ | refine Ext.setCell ?_ (by first | omega | (simp; done) | (simp; omega)) _ | refine Ext.trans ?_ (by assumption)))))).mono ?_; rintro e W8 ⟨v8, n8, rfl, hErC, hE8⟩) | (go_at_call 43; refine (HU _ _ (hr6.ext (by exact (by repeat (first | exact Ext.refl _ | assumption | refine Ext.alloc ?_ _ | refine Ext.drew ?_ | refine Ext.drewN ?_ _ | refine Ext.setCell ?_ (by first | omega | (simp; done) | (simp; omega)) _ | refine Ext.trans ?_ (by assumption)))))).mono ?_; rintro e W11 ⟨v11, rfl, hr11, hE11⟩) | (go_at_call 39; refine (Same_yes (hr11.ext (by exact (by repeat (first | exact Ext.refl _ | assumption | refine Ext.alloc ?_ _ | refine Ext.drew ?_ | refine Ext.drewN ?_ _ | refine Ext.setCell ?_ (by first | omega | (simp; done) | (simp; omega)) _ | refine Ext.trans ?_ (by assumption))))) (Hv.out.ext (by exact (by repeat (first | exact Ext.refl _ | assumption | refine Ext.alloc ?_ _ | refine Ext.drew ?_ | refine Ext.drewN ?_ _ | refine Ext.setCell ?_ (by first | omega | (simp; done) | (simp; omega)) _ | refine Ext.trans ?_ (by assumption)))))).mono ?_; rintro e W12 ⟨rfl, hE12⟩) | (go_at_call 18; (with_reducible refine (Code_nil _).mono ?_); rintro e W13 ⟨rfl, hE13⟩) | (go_at_call 18; refine (Code_err _ _ _ _ (hErC.ext (by exact (by repeat (first | exact Ext.refl _ | assumption | refine Ext.alloc ?_ _ | refine Ext.drew ?_ | refine Ext.drewN ?_ _ | refine Ext.setCell ?_ (by first | omega | (simp; done) | (simp; omega)) _ | refine Ext.trans ?_ (by assumption))))) (HL.out.ext (by exact (by repeat (first | exact Ext.refl _ | assumption | refine Ext.alloc ?_ _ | refine Ext.drew ?_ | refine Ext.drewN ?_ _ | refine Ext.setCell ?_ (by first | omega | (simp; done) | (simp; omega)) _ | refine Ext.trans ?_ (by assumption)))))).mono ?_; rintro e W14 ⟨rfl, hE14⟩))
        go_ret
        exact ⟨rfl, by exact (by repeat (first | exact Ext.refl _ | assumption | refine Ext.alloc ?_ _ | refine Ext.drew ?_ | refine Ext.drewN ?_ _ | refine Ext.setCell ?_ (by first | omega | (simp; done) | (simp; omega)) _ | refine Ext.trans ?_ (by assumption)))⟩
      · have HN := fun u w => Rename_ok (v := u) (by omega) (by omega) hn w
        obtain ⟨e0, hf0, _, _, _, _, _, hpq, _, _, hz1, hz2⟩ := moved hn
        obtain ⟨e1, hf1, he1⟩ := readT_ok hy3
        rw [hf0] at hf1
        cases hf1
        rw [he1] at hz1
        have HR3 := fun u w w' h he => tRead_ok (v := u) (p := q) (by omega) hz1 w' (RdE.grow (w := w) h he)
        have HR4 := fun u w w' h he => tRead_bad (v := u) (p := p) (by omega) hz2 w' (RdE.grow (w := w) h he)
        clear hf ht hv hL hm h1 h2 h3 hy1 hy2 hy3 hy4 hn hd2 hf0 he1 hz1 hz2
        go_enter Tryz.func9, Tryz.ntmps9
        go_wp2_with (first | (go_at_call 34; refine (TAwake_any _ (HL.out.ext (by exact (by repeat (first | exact Ext.refl _ | assumption | refine Ext.alloc ?_ _ | refine Ext.drew ?_ | refine Ext.drewN ?_ _ | refine Ext.setCell ?_ (by first | omega | (simp; done) | (simp; omega)) _ | refine Ext.trans ?_ (by assumption)))))).mono ?_; rintro e W1 ⟨rfl, hE1⟩) | (go_at_call 35; refine (HF _ (Hv.out.ext (by exact (by repeat (first | exact Ext.refl _ | assumption | refine Ext.alloc ?_ _ | refine Ext.drew ?_ | refine Ext.drewN ?_ _ | refine Ext.setCell ?_ (by first | omega | (simp; done) | (simp; omega)) _ | refine Ext.trans ?_ (by assumption)))))).mono ?_; rintro e W2 ⟨rfl, hE2⟩) | (go_at_call 36; refine (HT _ (Hv.out.ext (by exact (by repeat (first | exact Ext.refl _ | assumption | refine Ext.alloc ?_ _ | refine Ext.drew ?_ | refine Ext.drewN ?_ _ | refine Ext.setCell ?_ (by first | omega | (simp; done) | (simp; omega)) _ | refine Ext.trans ?_ (by assumption)))))).mono ?_; rintro e W3 ⟨rfl, hE3⟩) | (go_at_call 40; refine (HC _ (Hv.out.ext (by exact (by repeat (first | exact Ext.refl _ | assumption | refine Ext.alloc ?_ _ | refine Ext.drew ?_ | refine Ext.drewN ?_ _ | refine Ext.setCell ?_ (by first | omega | (simp; done) | (simp; omega)) _ | refine Ext.trans ?_ (by assumption)))))).mono ?_; rintro e W4 ⟨v4, rfl, hr4, hE4⟩) | (go_at_call 37; (with_reducible refine (HR1 _ _ _ hr4 (by exact (by repeat (first | exact Ext.refl _ | assumption | refine Ext.alloc ?_ _ | refine Ext.drew ?_ | refine Ext.drewN ?_ _ | refine Ext.setCell ?_ (by first | omega | (simp; done) | (simp; omega)) _ | refine Ext.trans ?_ (by assumption))))).mono ?_); rintro e W5 ⟨rfl, hE5⟩) | (go_at_call 41; refine (HW _ _ (hr4.ext (by exact (by repeat (first | exact Ext.refl _ | assumption | refine Ext.alloc ?_ _ | refine Ext.drew ?_ | refine Ext.drewN ?_ _ | refine Ext.setCell ?_ (by first | omega | (simp; done) | (simp; omega)) _ | refine Ext.trans ?_ (by assumption)))))).mono ?_; rintro e W6 ⟨v6, rfl, hr6, hE6⟩) | (go_at_call 37; (with_reducible refine (HR2 _ _ _ hr6 (by exact (by repeat (first | exact Ext.refl _ | assumption | refine Ext.alloc ?_ _ | refine Ext.drew ?_ | refine Ext.drewN ?_ _ | refine Ext.setCell ?_ (by first | omega | (simp; done) | (simp; omega)) _ | refine Ext.trans ?_ (by assumption))))).mono ?_); rintro e W7 ⟨rfl, hE7⟩) | (go_at_call 42; refine (HN _ _ (hr6.ext (by exact (by repeat (first | exact Ext.refl _ | assumption | refine Ext.alloc ?_ _ | refine Ext.drew ?_ | refine Ext.drewN ?_ _ | refine Ext.setCell ?_ (by first | omega | (simp; done) | (simp; omega)) _ | refine Ext.trans ?_ (by assumption)))))).mono ?_; rintro e W8 ⟨v8, rfl, hr8, hE8⟩) | (go_at_call 37; (with_reducible refine (HR3 _ _ _ hr8 (by exact (by repeat (first | exact Ext.refl _ | assumption | refine Ext.alloc ?_ _ | refine Ext.drew ?_ | refine Ext.drewN ?_ _ | refine Ext.setCell ?_ (by first | omega | (simp; done) | (simp; omega)) _ | refine Ext.trans ?_ (by assumption))))).mono ?_); rintro e W9 ⟨rfl, hE9⟩) | (go_at_call 37; (with_reducible refine (HR4 _ _ _ hr8 (by exact (by repeat (first | exact Ext.refl _ | assumption | refine Ext.alloc ?_ _ | refine Ext.drew ?_ | refine Ext.drewN ?_ _ | refine Ext.setCell ?_ (by first | omega | (simp; done) | (simp; omega)) _ | refine Ext.trans ?_ (by assumption))))).mono ?_); rintro e W10 ⟨v10, rfl, ⟨a10, rfl, hErC⟩, hE10⟩) | (go_at_call 43; refine (HU _ _ (hr6.ext (by exact (by repeat (first | exact Ext.refl _ | assumption | refine Ext.alloc ?_ _ | refine Ext.drew ?_ | refine Ext.drewN ?_ _ | refine Ext.setCell ?_ (by first | omega | (simp; done) | (simp; omega)) _ | refine Ext.trans ?_ (by assumption)))))).mono ?_; rintro e W11 ⟨v11, rfl, hr11, hE11⟩) | (go_at_call 39; refine (Same_yes (hr11.ext (by exact (by repeat (first | exact Ext.refl _ | assumption | refine Ext.alloc ?_ _ | refine Ext.drew ?_ | refine Ext.drewN ?_ _ | refine Ext.setCell ?_ (by first | omega | (simp; done) | (simp; omega)) _ | refine Ext.trans ?_ (by assumption))))) (Hv.out.ext (by exact (by repeat (first | exact Ext.refl _ | assumption | refine Ext.alloc ?_ _ | refine Ext.drew ?_ | refine Ext.drewN ?_ _ | refine Ext.setCell ?_ (by first | omega | (simp; done) | (simp; omega)) _ | refine Ext.trans ?_ (by assumption)))))).mono ?_; rintro e W12 ⟨rfl, hE12⟩) | (go_at_call 18; (with_reducible refine (Code_nil _).mono ?_); rintro e W13 ⟨rfl, hE13⟩) | (go_at_call 18; refine (Code_err _ _ _ _ (hErC.ext (by exact (by repeat (first | exact Ext.refl _ | assumption | refine Ext.alloc ?_ _ | refine Ext.drew ?_ | refine Ext.drewN ?_ _ | refine Ext.setCell ?_ (by first | omega | (simp; done) | (simp; omega)) _ | refine Ext.trans ?_ (by assumption))))) (HL.out.ext (by exact (by repeat (first | exact Ext.refl _ | assumption | refine Ext.alloc ?_ _ | refine Ext.drew ?_ | refine Ext.drewN ?_ _ | refine Ext.setCell ?_ (by first | omega | (simp; done) | (simp; omega)) _ | refine Ext.trans ?_ (by assumption)))))).mono ?_; rintro e W14 ⟨rfl, hE14⟩))
        go_ret
        exact ⟨rfl, by exact (by repeat (first | exact Ext.refl _ | assumption | refine Ext.alloc ?_ _ | refine Ext.drew ?_ | refine Ext.drewN ?_ _ | refine Ext.setCell ?_ (by first | omega | (simp; done) | (simp; omega)) _ | refine Ext.trans ?_ (by assumption)))⟩
    · have HW := fun u w => Write_bad (v := u) (by omega) (h2 hks) w
      have hks' : ¬ (k : Int) + (s.size : Int) ≤ 256 := by omega
      clear hf ht hv hL hm h1 h2 h3 hks
      go_enter Tryz.func9, Tryz.ntmps9
      go_wp2_with (first | (go_at_call 34; refine (TAwake_any _ (HL.out.ext (by exact (by repeat (first | exact Ext.refl _ | assumption | refine Ext.alloc ?_ _ | refine Ext.drew ?_ | refine Ext.drewN ?_ _ | refine Ext.setCell ?_ (by first | omega | (simp; done) | (simp; omega)) _ | refine Ext.trans ?_ (by assumption)))))).mono ?_; rintro e W1 ⟨rfl, hE1⟩) | (go_at_call 35; refine (HF _ (Hv.out.ext (by exact (by repeat (first | exact Ext.refl _ | assumption | refine Ext.alloc ?_ _ | refine Ext.drew ?_ | refine Ext.drewN ?_ _ | refine Ext.setCell ?_ (by first | omega | (simp; done) | (simp; omega)) _ | refine Ext.trans ?_ (by assumption)))))).mono ?_; rintro e W2 ⟨rfl, hE2⟩) | (go_at_call 36; refine (HT _ (Hv.out.ext (by exact (by repeat (first | exact Ext.refl _ | assumption | refine Ext.alloc ?_ _ | refine Ext.drew ?_ | refine Ext.drewN ?_ _ | refine Ext.setCell ?_ (by first | omega | (simp; done) | (simp; omega)) _ | refine Ext.trans ?_ (by assumption)))))).mono ?_; rintro e W3 ⟨rfl, hE3⟩) | (go_at_call 40; refine (HC _ (Hv.out.ext (by exact (by repeat (first | exact Ext.refl _ | assumption | refine Ext.alloc ?_ _ | refine Ext.drew ?_ | refine Ext.drewN ?_ _ | refine Ext.setCell ?_ (by first | omega | (simp; done) | (simp; omega)) _ | refine Ext.trans ?_ (by assumption)))))).mono ?_; rintro e W4 ⟨v4, rfl, hr4, hE4⟩) | (go_at_call 37; (with_reducible refine (HR1 _ _ _ hr4 (by exact (by repeat (first | exact Ext.refl _ | assumption | refine Ext.alloc ?_ _ | refine Ext.drew ?_ | refine Ext.drewN ?_ _ | refine Ext.setCell ?_ (by first | omega | (simp; done) | (simp; omega)) _ | refine Ext.trans ?_ (by assumption))))).mono ?_); rintro e W5 ⟨rfl, hE5⟩) | (go_at_call 41; refine (HW _ _ (hr4.ext (by exact (by repeat (first | exact Ext.refl _ | assumption | refine Ext.alloc ?_ _ | refine Ext.drew ?_ | refine Ext.drewN ?_ _ | refine Ext.setCell ?_ (by first | omega | (simp; done) | (simp; omega)) _ | refine Ext.trans ?_ (by assumption)))))).mono ?_; rintro e W6 ⟨v6, n6, rfl, hErC, hE6⟩) | (go_at_call 18; (with_reducible refine (Code_nil _).mono ?_); rintro e W13 ⟨rfl, hE13⟩) | (go_at_call 18; refine (Code_err _ _ _ _ (hErC.ext (by exact (by repeat (first | exact Ext.refl _ | assumption | refine Ext.alloc ?_ _ | refine Ext.drew ?_ | refine Ext.drewN ?_ _ | refine Ext.setCell ?_ (by first | omega | (simp; done) | (simp; omega)) _ | refine Ext.trans ?_ (by assumption))))) (HL.out.ext (by exact (by repeat (first | exact Ext.refl _ | assumption | refine Ext.alloc ?_ _ | refine Ext.drew ?_ | refine Ext.drewN ?_ _ | refine Ext.setCell ?_ (by first | omega | (simp; done) | (simp; omega)) _ | refine Ext.trans ?_ (by assumption)))))).mono ?_; rintro e W14 ⟨rfl, hE14⟩))
      go_ret
      exact ⟨rfl, by exact (by repeat (first | exact Ext.refl _ | assumption | refine Ext.alloc ?_ _ | refine Ext.drew ?_ | refine Ext.drewN ?_ _ | refine Ext.setCell ?_ (by first | omega | (simp; done) | (simp; omega)) _ | refine Ext.trans ?_ (by assumption)))⟩

theorem TreeReads_any (v : Value) (t : List Ent) (p q s : ByteArray) (n : Int) (w : World) (hn : 0 ≤ n ∧ n ≤ 255) (hL : Laid w) (hv : RdE w v t) :
    Calls Tryz.prog 9 #[v, .string p, .string q, .int .u8 n, .string s] w fun e w' => e = .returned (.bool true) ∧ Ext w w' := by
  by_cases h : sizeOk t = true ∧ p.size ≤ 100 ∧ q.size ≤ 100 ∧ s.size ≤ 200 ∧ treeOk t = true
  · obtain ⟨k, rfl⟩ : ∃ k : Nat, n = k := ⟨n.toNat, by omega⟩
    exact reads_main v t p q s k w (by omega) hL hv h.1 h.2.1 h.2.2.1 h.2.2.2.1 h.2.2.2.2
  · exact reads_let v t p q s n w hL hv h
end Go.Proofs.YtgemdfobkockaaaGreatDoor
