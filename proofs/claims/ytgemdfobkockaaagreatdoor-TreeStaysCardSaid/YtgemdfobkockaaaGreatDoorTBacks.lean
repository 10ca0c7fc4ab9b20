/- shalelaw11.TreeBacks is true. -/
import Derived.Test.YtgemdfobkockaaaGreatDoorTMove
import Derived.Test.YtgemdfobkockaaaGreatDoorTreeRm
import Derived.Test.YtgemdfobkockaaaGreatDoorTAwake
import Derived.Test.YtgemdfobkockaaaGreatDoorSameE
namespace Go.Proofs.YtgemdfobkockaaaGreatDoor
open Go Go.RowKit Go.Shelf Go.Proofs

theorem tsize_yes {v : Value} {l : List Ent} (h : sizeOk l = true) (w : World) (hv : RdE w v l) : Calls Tryz.prog 35 #[v] w fun e w' => e = .returned (.int .i64 1) ∧ Ext w w' := by
  have := Size_any v l w hv
  rwa [h] at this
theorem tsize_no {v : Value} {l : List Ent} (h : sizeOk l = false) (w : World) (hv : RdE w v l) : Calls Tryz.prog 35 #[v] w fun e w' => e = .returned (.int .i64 0) ∧ Ext w w' := by
  have := Size_any v l w hv
  rwa [h] at this
theorem Mkdir_ok {v : Value} {t l : List Ent} {p : ByteArray} (hp : p.size ≤ 140737488355328) (h : madeT t p 2 = .ok l) (w : World) (hv : RdE w v t) : Calls Tryz.prog 47 #[v, .string p] w (WithOk l w) := by
  have := Mkdir_any v t p w hv hp
  rwa [h] at this
theorem Mkdir_bad {v : Value} {t : List Ent} {p : ByteArray} {c : Int} (hp : p.size ≤ 140737488355328) (h : madeT t p 2 = .error c) (w : World) (hv : RdE w v t) : Calls Tryz.prog 47 #[v, .string p] w (TBad c w) := by
  have := Mkdir_any v t p w hv hp
  rwa [h] at this
theorem Rmdir_ok {v : Value} {t l : List Ent} {p : ByteArray} (hp : p.size ≤ 140737488355328) (h : rmdirT t p = .ok l) (w : World) (hv : RdE w v t) : Calls Tryz.prog 48 #[v, .string p] w (WithOk l w) := by
  have := Rmdir_any v t p w hv hp
  rwa [h] at this

theorem mkdir_rmdir {t x : List Ent} {p : ByteArray} (h : madeT t p 2 = .ok x) : rmdirT x p = .ok t := by
  obtain ⟨ht, hp, rfl, hx, hf⟩ := made_all h (.inr rfl)
  obtain ⟨⟨ys, z, hn⟩, _, _, hroot⟩ := place_zero hp ht
  have hr := tree_rising ht
  have hmem : (⟨p, 2, ⟨#[]⟩⟩ : Ent) ∈ insT t ⟨p, 2, ⟨#[]⟩⟩ := mem_insT.2 (.inl rfl)
  have hfile : fileT (insT t ⟨p, 2, ⟨#[]⟩⟩) p = .error 5 := by
    rw [fileT, if_pos hx, if_neg hroot]
    have ha := atT_of hx hmem
    have ha : atT (insT t ⟨p, 2, ⟨#[]⟩⟩) p = .ok ⟨p, 2, ⟨#[]⟩⟩ := ha
    rw [ha]
    exact if_pos rfl
  have hin : inT (insT t ⟨p, 2, ⟨#[]⟩⟩) p = [] := by
    rw [inT, List.filterMap_eq_nil_iff]
    intro y hy
    rcases hi : inP p y with _ | z2
    · rfl
    · exfalso
      obtain ⟨ys2, hn2, hp2⟩ := inP_iff.1 hi
      have hd : dirOf y.path = p := by rw [names_dir hn2, hp2]
      rcases mem_insT.1 hy with rfl | ⟨hy, _⟩
      · have hn2 : names p = some (ys2 ++ [z2]) := hn2
        have hp3 := (names_some hn2).2.2
        have hne : ys2 ≠ [] := by
          rintro rfl
          exact hroot (hp2.symm.trans rfl)
        have h1 := path_lt hne z2
        rw [hp2, hp3] at h1
        exact lt_ne h1 rfl
      · rcases ((treeOk_iff.1 ht).2.2 y hy).2.2 with h1 | ⟨d, hd1, hd2, _⟩
        · exact hroot (by rw [← hd, h1])
        · exact findT_none hf d hd1 (by rw [hd2, hd])
  rw [rmdirT, hfile]
  show (if (5 : Int) = 5 then _ else _) = _
  rw [if_pos rfl, if_pos hin]
  congr 1
  have h2 := delT_insT hr ⟨p, 2, ⟨#[]⟩⟩
  exact h2.trans (delT_none (findT_none hf))
theorem RdE.grow2 {w w' : World} {v : Value} {l : List Ent} (h : RdE w v l) (he : Ext w w') : RdE w' v l := h.ext he

set_option maxRecDepth 100000 in
set_option maxHeartbeats 8000000 in
/-- Where the law lets an input go. -/
theorem backs_let (v : Value) (t : List Ent) (p q : ByteArray) (w : World) (hL : Laid w) (hv : RdE w v t) (h : ¬ (sizeOk t = true ∧ p.size ≤ 100 ∧ q.size ≤ 100 ∧ treeOk t = true)) :
    Calls Tryz.prog 12 #[v, .string p, .string q] w fun e w' => e = .returned (.bool true) ∧ Ext w w' := by
  have Hv := Lib.hid hv
  have HL := Lib.hid hL
  obtain ⟨A, c, rfl, _, _, _⟩ := rdE_form hv rfl
  clear hv hL
  rcases hf : sizeOk t with _ | _
  · have HF := fun w => tsize_no (v := .slice A t.length c) hf w
    clear hf h
    go_enter Tryz.func12, Tryz.ntmps12
    go_wp2_with (first | (go_at_call 34; refine (TAwake_any _ (HL.out.ext (by exact (by repeat (first | exact Ext.refl _ | assumption | refine Ext.alloc ?_ _ | refine Ext.drew ?_ | refine Ext.drewN ?_ _ | refine Ext.setCell ?_ (by first | omega | (simp; done) | (simp; omega)) _ | refine Ext.trans ?_ (by assumption)))))).mono ?_; rintro e W1 ⟨rfl, hE1⟩) | (go_at_call 35; refine (HF _ (Hv.out.ext (by exact (by repeat (first | exact Ext.refl _ | assumption | refine Ext.alloc ?_ _ | refine Ext.drew ?_ | refine Ext.drewN ?_ _ | refine Ext.setCell ?_ (by first | omega | (simp; done) | (simp; omega)) _ | refine Ext.trans ?_ (by assumption)))))).mono ?_; rintro e W2 ⟨rfl, hE2⟩))
    go_ret
    exact ⟨rfl, by exact (by repeat (first | exact Ext.refl _ | assumption | refine Ext.alloc ?_ _ | refine Ext.drew ?_ | refine Ext.drewN ?_ _ | refine Ext.setCell ?_ (by first | omega | (simp; done) | (simp; omega)) _ | refine Ext.trans ?_ (by assumption)))⟩
  · have HF := fun w => tsize_yes (v := .slice A t.length c) hf w
    by_cases hp : p.size ≤ 100
    · have hp' : ¬ (100 : Int) < (p.size : Int) := by omega
      by_cases hq : q.size ≤ 100
      · have ht : treeOk t = false := by
          cases ht : treeOk t
          · rfl
          · exact absurd ⟨hf, hp, hq, ht⟩ h
        have hq' : ¬ (100 : Int) < (q.size : Int) := by omega
        have HT := fun w => Tree_no (v := .slice A t.length c) ht w
        clear hf h ht
        go_enter Tryz.func12, Tryz.ntmps12
        go_wp2_with (first | (go_at_call 34; refine (TAwake_any _ (HL.out.ext (by exact (by repeat (first | exact Ext.refl _ | assumption | refine Ext.alloc ?_ _ | refine Ext.drew ?_ | refine Ext.drewN ?_ _ | refine Ext.setCell ?_ (by first | omega | (simp; done) | (simp; omega)) _ | refine Ext.trans ?_ (by assumption)))))).mono ?_; rintro e W1 ⟨rfl, hE1⟩) | (go_at_call 35; refine (HF _ (Hv.out.ext (by exact (by repeat (first | exact Ext.refl _ | assumption | refine Ext.alloc ?_ _ | refine Ext.drew ?_ | refine Ext.drewN ?_ _ | refine Ext.setCell ?_ (by first | omega | (simp; done) | (simp; omega)) _ | refine Ext.trans ?_ (by assumption)))))).mono ?_; rintro e W2 ⟨rfl, hE2⟩) | (go_at_call 36; refine (HT _ (Hv.out.ext (by exact (by repeat (first | exact Ext.refl _ | assumption | refine Ext.alloc ?_ _ | refine Ext.drew ?_ | refine Ext.drewN ?_ _ | refine Ext.setCell ?_ (by first | omega | (simp; done) | (simp; omega)) _ | refine Ext.trans ?_ (by assumption)))))).mono ?_; rintro e W3 ⟨rfl, hE3⟩))
        go_ret
        exact ⟨rfl, by exact (by repeat (first | exact Ext.refl _ | assumption | refine Ext.alloc ?_ _ | refine Ext.drew ?_ | refine Ext.drewN ?_ _ | refine Ext.setCell ?_ (by first | omega | (simp; done) | (simp; omega)) _ | refine Ext.trans ?_ (by assumption)))⟩
      · have hq' : (100 : Int) < (q.size : Int) := by omega
        clear hf h
        go_enter Tryz.func12, Tryz.ntmps12
        go_wp2_with (first | (go_at_call 34; refine (TAwake_any _ (HL.out.ext (by exact (by repeat (first | exact Ext.refl _ | assumption | refine Ext.alloc ?_ _ | refine Ext.drew ?_ | refine Ext.drewN ?_ _ | refine Ext.setCell ?_ (by first | omega | (simp; done) | (simp; omega)) _ | refine Ext.trans ?_ (by assumption)))))).mono ?_; rintro e W1 ⟨rfl, hE1⟩) | (go_at_call 35; refine (HF _ (Hv.out.ext (by exact (by repeat (first | exact Ext.refl _ | assumption | refine Ext.alloc ?_ _ | refine Ext.drew ?_ | refine Ext.drewN ?_ _ | refine Ext.setCell ?_ (by first | omega | (simp; done) | (simp; omega)) _ | refine Ext.trans ?_ (by assumption)))))).mono ?_; rintro e W2 ⟨rfl, hE2⟩))
        go_ret
        exact ⟨rfl, by exact (by repeat (first | exact Ext.refl _ | assumption | refine Ext.alloc ?_ _ | refine Ext.drew ?_ | refine Ext.drewN ?_ _ | refine Ext.setCell ?_ (by first | omega | (simp; done) | (simp; omega)) _ | refine Ext.trans ?_ (by assumption)))⟩
    · have hp' : (100 : Int) < (p.size : Int) := by omega
      clear hf h
      go_enter Tryz.func12, Tryz.ntmps12
      go_wp2_with (first | (go_at_call 34; refine (TAwake_any _ (HL.out.ext (by exact (by repeat (first | exact Ext.refl _ | assumption | refine Ext.alloc ?_ _ | refine Ext.drew ?_ | refine Ext.drewN ?_ _ | refine Ext.setCell ?_ (by first | omega | (simp; done) | (simp; omega)) _ | refine Ext.trans ?_ (by assumption)))))).mono ?_; rintro e W1 ⟨rfl, hE1⟩) | (go_at_call 35; refine (HF _ (Hv.out.ext (by exact (by repeat (first | exact Ext.refl _ | assumption | refine Ext.alloc ?_ _ | refine Ext.drew ?_ | refine Ext.drewN ?_ _ | refine Ext.setCell ?_ (by first | omega | (simp; done) | (simp; omega)) _ | refine Ext.trans ?_ (by assumption)))))).mono ?_; rintro e W2 ⟨rfl, hE2⟩))
      go_ret
      exact ⟨rfl, by exact (by repeat (first | exact Ext.refl _ | assumption | refine Ext.alloc ?_ _ | refine Ext.drew ?_ | refine Ext.drewN ?_ _ | refine Ext.setCell ?_ (by first | omega | (simp; done) | (simp; omega)) _ | refine Ext.trans ?_ (by assumption)))⟩

set_option maxRecDepth 100000 in
set_option maxHeartbeats 16000000 in
theorem backs_main (v : Value) (t : List Ent) (p q : ByteArray) (w : World) (hL : Laid w) (hv : RdE w v t) (hf : sizeOk t = true) (hp : p.size ≤ 100) (hq : q.size ≤ 100) (ht : treeOk t = true) :
    Calls Tryz.prog 12 #[v, .string p, .string q] w fun e w' => e = .returned (.bool true) ∧ Ext w w' := by
  have Hv := Lib.hid hv
  have HL := Lib.hid hL
  obtain ⟨A, c', rfl, _, _, _⟩ := rdE_form hv rfl
  have HF := fun w => tsize_yes (v := .slice A t.length c') hf w
  have hp' : ¬ (100 : Int) < (p.size : Int) := by omega
  have hq' : ¬ (100 : Int) < (q.size : Int) := by omega
  have HT := fun w => Tree_yes (v := .slice A t.length c') ht w
  rcases hm : madeT t p 2 with c | x
  · have hc0 : (c == 0) = false := by simpa using madeT_code hm
    have HC := fun w => Mkdir_bad (v := .slice A t.length c') (by omega) hm w
    rcases hn : renameT t p q with d | z
    · have hd0 : (d == 0) = false := by simpa using renameT_code hn
      have HN := fun w => Rename_bad (v := .slice A t.length c') (by omega) (by omega) hn w
      clear hf ht hv hL hm hn
      go_enter Tryz.func12, Tryz.ntmps12
      go_wp2_with (first | (go_at_call 34; refine (TAwake_any _ (HL.out.ext (by exact (by repeat (first | exact Ext.refl _ | assumption | refine Ext.alloc ?_ _ | refine Ext.drew ?_ | refine Ext.drewN ?_ _ | refine Ext.setCell ?_ (by first | omega | (simp; done) | (simp; omega)) _ | refine Ext.trans ?_ (by assumption)))))).mono ?_; rintro e W1 ⟨rfl, hE1⟩) | (go_at_call 35; refine (HF _ (Hv.out.ext (by exact (by repeat (first | exact Ext.refl _ | assumption | refine Ext.alloc ?_ _ | refine Ext.drew ?_ | refine Ext.drewN ?_ _ | refine Ext.setCell ?_ (by first | omega | (simp; done) | (simp; omega)) _ | refine Ext.trans ?_ (by assumption)))))).mono ?_; rintro e W2 ⟨rfl, hE2⟩) | (go_at_call 36; refine (HT _ (Hv.out.ext (by exact (by repeat (first | exact Ext.refl _ | assumption | refine Ext.alloc ?_ _ | refine Ext.drew ?_ | refine Ext.drewN ?_ _ | refine Ext.setCell ?_ (by first | omega | (simp; done) | (simp; omega)) _ | refine Ext.trans ?_ (by assumption)))))).mono ?_; rintro e W3 ⟨rfl, hE3⟩) | (go_at_call 47; refine (HC _ (Hv.out.ext (by exact (by repeat (first | exact Ext.refl _ | assumption | refine Ext.alloc ?_ _ | refine Ext.drew ?_ | refine Ext.drewN ?_ _ | refine Ext.setCell ?_ (by first | omega | (simp; done) | (simp; omega)) _ | refine Ext.trans ?_ (by assumption)))))).mono ?_; rintro e W4 ⟨v4, n4, rfl, hErC, hE4⟩) | (go_at_call 42; refine (HN _ (Hv.out.ext (by exact (by repeat (first | exact Ext.refl _ | assumption | refine Ext.alloc ?_ _ | refine Ext.drew ?_ | refine Ext.drewN ?_ _ | refine Ext.setCell ?_ (by first | omega | (simp; done) | (simp; omega)) _ | refine Ext.trans ?_ (by assumption)))))).mono ?_; rintro e W8 ⟨v8, n8, rfl, hErR, hE8⟩) | (go_at_call 18; refine (Code_err _ _ _ _ (hErC.ext (by exact (by repeat (first | exact Ext.refl _ | assumption | refine Ext.alloc ?_ _ | refine Ext.drew ?_ | refine Ext.drewN ?_ _ | refine Ext.setCell ?_ (by first | omega | (simp; done) | (simp; omega)) _ | refine Ext.trans ?_ (by assumption))))) (HL.out.ext (by exact (by repeat (first | exact Ext.refl _ | assumption | refine Ext.alloc ?_ _ | refine Ext.drew ?_ | refine Ext.drewN ?_ _ | refine Ext.setCell ?_ (by first | omega | (simp; done) | (simp; omega)) _ | refine Ext.trans ?_ (by assumption)))))).mono ?_; rintro e W15 ⟨rfl, hE15⟩; clear hErC) | (go_at_call 18; refine (Code_err _ _ _ _ (hErR.ext (by exact (by repeat (first | exact Ext.refl _ | assumption | refine Ext.alloc ?_ _ | refine Ext.drew ?_ | refine Ext.drewN ?_ _ | refine Ext.setCell ?_ (by first | omega | (simp; done) | (simp; omega)) _ | refine Ext.trans ?_ (by assumption))))) (HL.out.ext (by exact (by repeat (first | exact Ext.refl _ | assumption | refine Ext.alloc ?_ _ | refine Ext.drew ?_ | refine Ext.drewN ?_ _ | refine Ext.setCell ?_ (by first | omega | (simp; done) | (simp; omega)) _ | refine Ext.trans ?_ (by assumption)))))).mono ?_; rintro e W14 ⟨rfl, hE14⟩))
      go_ret
      exact ⟨rfl, by exact (by repeat (first | exact Ext.refl _ | assumption | refine Ext.alloc ?_ _ | refine Ext.drew ?_ | refine Ext.drewN ?_ _ | refine Ext.setCell ?_ (by first | omega | (simp; done) | (simp; omega)) _ | refine Ext.trans ?_ (by assumption)))⟩
    · have HN := fun w w' h he => Rename_ok (v := .slice A t.length c') (p := p) (q := q) (by omega) (by omega) hn w' (RdE.grow2 (w := w) h he)
      have HB := fun u w w' h he => Rename_ok (v := u) (p := q) (q := p) (by omega) (by omega) (moved_back hn) w' (RdE.grow2 (w := w) h he)
      clear hf ht hv hL hm hn
      go_enter Tryz.func12, Tryz.ntmps12
      go_wp2_with (first | (go_at_call 34; refine (TAwake_any _ (HL.out.ext (by exact (by repeat (first | exact Ext.refl _ | assumption | refine Ext.alloc ?_ _ | refine Ext.drew ?_ | refine Ext.drewN ?_ _ | refine Ext.setCell ?_ (by first | omega | (simp; done) | (simp; omega)) _ | refine Ext.trans ?_ (by assumption)))))).mono ?_; rintro e W1 ⟨rfl, hE1⟩) | (go_at_call 35; refine (HF _ (Hv.out.ext (by exact (by repeat (first | exact Ext.refl _ | assumption | refine Ext.alloc ?_ _ | refine Ext.drew ?_ | refine Ext.drewN ?_ _ | refine Ext.setCell ?_ (by first | omega | (simp; done) | (simp; omega)) _ | refine Ext.trans ?_ (by assumption)))))).mono ?_; rintro e W2 ⟨rfl, hE2⟩) | (go_at_call 36; refine (HT _ (Hv.out.ext (by exact (by repeat (first | exact Ext.refl _ | assumption | refine Ext.alloc ?_ _ | refine Ext.drew ?_ | refine Ext.drewN ?_ _ | refine Ext.setCell ?_ (by first | omega | (simp; done) | (simp; omega)) _ | refine Ext.trans ?_ (by assumption)))))).mono ?_; rintro e W3 ⟨rfl, hE3⟩) | (go_at_call 47; refine (HC _ (Hv.out.ext (by exact (by repeat (first | exact Ext.refl _ | assumption | refine Ext.alloc ?_ _ | refine Ext.drew ?_ | refine Ext.drewN ?_ _ | refine Ext.setCell ?_ (by first | omega | (simp; done) | (simp; omega)) _ | refine Ext.trans ?_ (by assumption)))))).mono ?_; rintro e W4 ⟨v4, n4, rfl, hErC, hE4⟩) | (go_at_call 42; (with_reducible refine (HN _ _ Hv.out (by exact (by repeat (first | exact Ext.refl _ | assumption | refine Ext.alloc ?_ _ | refine Ext.drew ?_ | refine Ext.drewN ?_ _ | refine Ext.setCell ?_ (by first | omega | (simp; done) | (simp; omega)) _ | refine Ext.trans ?_ (by assumption))))).mono ?_); rintro e W8 ⟨v8, rfl, hr8, hE8⟩) | (go_at_call 42; (with_reducible refine (HB _ _ _ hr8 (by exact (by repeat (first | exact Ext.refl _ | assumption | refine Ext.alloc ?_ _ | refine Ext.drew ?_ | refine Ext.drewN ?_ _ | refine Ext.setCell ?_ (by first | omega | (simp; done) | (simp; omega)) _ | refine Ext.trans ?_ (by assumption))))).mono ?_); rintro e W9 ⟨v9, rfl, hr9, hE9⟩) | (go_at_call 39; refine (Same_yes (hr9.ext (by exact (by repeat (first | exact Ext.refl _ | assumption | refine Ext.alloc ?_ _ | refine Ext.drew ?_ | refine Ext.drewN ?_ _ | refine Ext.setCell ?_ (by first | omega | (simp; done) | (simp; omega)) _ | refine Ext.trans ?_ (by assumption))))) (Hv.out.ext (by exact (by repeat (first | exact Ext.refl _ | assumption | refine Ext.alloc ?_ _ | refine Ext.drew ?_ | refine Ext.drewN ?_ _ | refine Ext.setCell ?_ (by first | omega | (simp; done) | (simp; omega)) _ | refine Ext.trans ?_ (by assumption)))))).mono ?_; rintro e W10 ⟨rfl, hE10⟩) | (go_at_call 18; (with_reducible refine (Code_nil _).mono ?_); rintro e W13 ⟨rfl, hE13⟩) | (go_at_call 18; refine (Code_err _ _ _ _ (hErC.ext (by exact (by repeat (first | exact Ext.refl _ | assumption | refine Ext.alloc ?_ _ | refine Ext.drew ?_ | refine Ext.drewN ?_ _ | refine Ext.setCell ?_ (by first | omega | (simp; done) | (simp; omega)) _ | refine Ext.trans ?_ (by assumption))))) (HL.out.ext (by exact (by repeat (first | exact Ext.refl _ | assumption | refine Ext.alloc ?_ _ | refine Ext.drew ?_ | refine Ext.drewN ?_ _ | refine Ext.setCell ?_ (by first | omega | (simp; done) | (simp; omega)) _ | refine Ext.trans ?_ (by assumption)))))).mono ?_; rintro e W15 ⟨rfl, hE15⟩; clear hErC))
      go_ret
      exact ⟨rfl, by exact (by repeat (first | exact Ext.refl _ | assumption | refine Ext.alloc ?_ _ | refine Ext.drew ?_ | refine Ext.drewN ?_ _ | refine Ext.setCell ?_ (by first | omega | (simp; done) | (simp; omega)) _ | refine Ext.trans ?_ (by assumption)))⟩
  · have HC := fun w => Mkdir_ok (v := .slice A t.length c') (by omega) hm w
    have HD := fun u w => Rmdir_ok (v := u) (by omega) (mkdir_rmdir hm) w
    rcases hn : renameT t p q with d | z
    · have hd0 : (d == 0) = false := by simpa using renameT_code hn
      have HN := fun w => Rename_bad (v := .slice A t.length c') (by omega) (by omega) hn w
      clear hf ht hv hL hm hn
      go_enter Tryz.func12, Tryz.ntmps12
      go_wp2_with (first | (go_at_call 34; refine (TAwake_any _ (HL.out.ext (by exact (by repeat (first | exact Ext.refl _ | assumption | refine Ext.alloc ?_ _ | refine Ext.drew ?_ | refine Ext.drewN ?_ _ | refine Ext.setCell ?_ (by first | omega | (simp; done) | (simp; omega)) _ | refine Ext.trans ?_ (by assumption)))))).mono ?_; rintro e W1 ⟨rfl, hE1⟩) | (go_at_call 35; refine (HF _ (Hv.out.ext (by exact (by repeat (first | exact Ext.refl _ | assumption | refine Ext.alloc ?_ _ | refine Ext.drew ?_ | refine Ext.drewN ?_ _ | refine Ext.setCell ?_ (by first | omega | (simp; done) | (simp; omega)) _ | refine Ext.trans ?_ (by assumption)))))).mono ?_; rintro e W2 ⟨rfl, hE2⟩) | (go_at_call 36; refine (HT _ (Hv.out.ext (by exact (by repeat (first | exact Ext.refl _ | assumption | refine Ext.alloc ?_ _ | refine Ext.drew ?_ | refine Ext.drewN ?_ _ | refine Ext.setCell ?_ (by first | omega | (simp; done) | (simp; omega)) _ | refine Ext.trans ?_ (by assumption)))))).mono ?_; rintro e W3 ⟨rfl, hE3⟩) | (go_at_call 47; refine (HC _ (Hv.out.ext (by exact (by repeat (first | exact Ext.refl _ | assumption | refine Ext.alloc ?_ _ | refine Ext.drew ?_ | refine Ext.drewN ?_ _ | refine Ext.setCell ?_ (by first | omega | (simp; done) | (simp; omega)) _ | refine Ext.trans ?_ (by assumption)))))).mono ?_; rintro e W4 ⟨v4, rfl, hr4, hE4⟩) | (go_at_call 48; refine (HD _ _ (hr4.ext (by exact (by repeat (first | exact Ext.refl _ | assumption | refine Ext.alloc ?_ _ | refine Ext.drew ?_ | refine Ext.drewN ?_ _ | refine Ext.setCell ?_ (by first | omega | (simp; done) | (simp; omega)) _ | refine Ext.trans ?_ (by assumption)))))).mono ?_; rintro e W5 ⟨v5, rfl, hr5, hE5⟩) | (go_at_call 39; refine (Same_yes (hr5.ext (by exact (by repeat (first | exact Ext.refl _ | assumption | refine Ext.alloc ?_ _ | refine Ext.drew ?_ | refine Ext.drewN ?_ _ | refine Ext.setCell ?_ (by first | omega | (simp; done) | (simp; omega)) _ | refine Ext.trans ?_ (by assumption))))) (Hv.out.ext (by exact (by repeat (first | exact Ext.refl _ | assumption | refine Ext.alloc ?_ _ | refine Ext.drew ?_ | refine Ext.drewN ?_ _ | refine Ext.setCell ?_ (by first | omega | (simp; done) | (simp; omega)) _ | refine Ext.trans ?_ (by assumption)))))).mono ?_; rintro e W6 ⟨rfl, hE6⟩; clear hr5) | (go_at_call 42; refine (HN _ (Hv.out.ext (by exact (by repeat (first | exact Ext.refl _ | assumption | refine Ext.alloc ?_ _ | refine Ext.drew ?_ | refine Ext.drewN ?_ _ | refine Ext.setCell ?_ (by first | omega | (simp; done) | (simp; omega)) _ | refine Ext.trans ?_ (by assumption)))))).mono ?_; rintro e W8 ⟨v8, n8, rfl, hErR, hE8⟩) | (go_at_call 18; (with_reducible refine (Code_nil _).mono ?_); rintro e W13 ⟨rfl, hE13⟩) | (go_at_call 18; refine (Code_err _ _ _ _ (hErR.ext (by exact (by repeat (first | exact Ext.refl _ | assumption | refine Ext.alloc ?_ _ | refine Ext.drew ?_ | refine Ext.drewN ?_ _ | refine Ext.setCell ?_ (by first | omega | (simp; done) | (simp; omega)) _ | refine Ext.trans ?_ (by assumption))))) (HL.out.ext (by exact (by repeat (first | exact Ext.refl _ | assumption | refine Ext.alloc ?_ _ | refine Ext.drew ?_ | refine Ext.drewN ?_ _ | refine Ext.setCell ?_ (by first | omega | (simp; done) | (simp; omega)) _ | refine Ext.trans ?_ (by assumption)))))).mono ?_; rintro e W14 ⟨rfl, hE14⟩))
      go_ret
      exact ⟨rfl, by exact (by repeat (first | exact Ext.refl _ | assumption | refine Ext.alloc ?_ _ | refine Ext.drew ?_ | refine Ext.drewN ?_ _ | refine Ext.setCell ?_ (by first | omega | (simp; done) | (simp; omega)) _ | refine Ext.trans ?_ (by assumption)))⟩
    · have HN := fun w w' h he => Rename_ok (v := .slice A t.length c') (p := p) (q := q) (by omega) (by omega) hn w' (RdE.grow2 (w := w) h he)
      have HB := fun u w w' h he => Rename_ok (v := u) (p := q) (q := p) (by omega) (by omega) (moved_back hn) w' (RdE.grow2 (w := w) h he)
      clear hf ht hv hL hm hn
      go_enter Tryz.func12, Tryz.ntmps12
      go_wp2_with (first | (go_at_call 34; refine (TAwake_any _ (HL.out.ext (by exact (by repeat (first | exact Ext.refl _ | assumption | refine Ext.alloc ?_ _ | refine Ext.drew ?_ | refine Ext.drewN ?_ _ | refine Ext.setCell ?_ (by first | omega | (simp; done) | (simp; omega)) _ | refine Ext.trans ?_ (by assumption)))))).mono ?_; rintro e W1 ⟨rfl, hE1⟩) | (go_at_call 35; refine (HF _ (Hv.out.ext (by exact (by repeat (first | exact Ext.refl _ | assumption | refine Ext.alloc ?_ _ | refine Ext.drew ?_ | refine Ext.drewN ?_ _ | refine Ext.setCell ?_ (by first | omega | (simp; done) | (simp; omega)) _ | refine Ext.trans ?_ (by assumption)))))).mono ?_; rintro e W2 ⟨rfl, hE2⟩) | (go_at_call 36; refine (HT _ (Hv.out.ext (by exact (by repeat (first | exact Ext.refl _ | assumption | refine Ext.alloc ?_ _ | refine Ext.drew ?_ | refine Ext.drewN ?_ _ | refine Ext.setCell ?_ (by first | omega | (simp; done) | (simp; omega)) _ | refine Ext.trans ?_ (by assumption)))))).mono ?_; rintro e W3 ⟨rfl, hE3⟩) | (go_at_call 47; refine (HC _ (Hv.out.ext (by exact (by repeat (first | exact Ext.refl _ | assumption | refine Ext.alloc ?_ _ | refine Ext.drew ?_ | refine Ext.drewN ?_ _ | refine Ext.setCell ?_ (by first | omega | (simp; done) | (simp; omega)) _ | refine Ext.trans ?_ (by assumption)))))).mono ?_; rintro e W4 ⟨v4, rfl, hr4, hE4⟩) | (go_at_call 48; refine (HD _ _ (hr4.ext (by exact (by repeat (first | exact Ext.refl _ | assumption | refine Ext.alloc ?_ _ | refine Ext.drew ?_ | refine Ext.drewN ?_ _ | refine Ext.setCell ?_ (by first | omega | (simp; done) | (simp; omega)) _ | refine Ext.trans ?_ (by assumption)))))).mono ?_; rintro e W5 ⟨v5, rfl, hr5, hE5⟩) | (go_at_call 39; refine (Same_yes (hr5.ext (by exact (by repeat (first | exact Ext.refl _ | assumption | refine Ext.alloc ?_ _ | refine Ext.drew ?_ | refine Ext.drewN ?_ _ | refine Ext.setCell ?_ (by first | omega | (simp; done) | (simp; omega)) _ | refine Ext.trans ?_ (by assumption))))) (Hv.out.ext (by exact (by repeat (first | exact Ext.refl _ | assumption | refine Ext.alloc ?_ _ | refine Ext.drew ?_ | refine Ext.drewN ?_ _ | refine Ext.setCell ?_ (by first | omega | (simp; done) | (simp; omega)) _ | refine Ext.trans ?_ (by assumption)))))).mono ?_; rintro e W6 ⟨rfl, hE6⟩; clear hr5) | (go_at_call 42; (with_reducible refine (HN _ _ Hv.out (by exact (by repeat (first | exact Ext.refl _ | assumption | refine Ext.alloc ?_ _ | refine Ext.drew ?_ | refine Ext.drewN ?_ _ | refine Ext.setCell ?_ (by first | omega | (simp; done) | (simp; omega)) _ | refine Ext.trans ?_ (by assumption))))).mono ?_); rintro e W8 ⟨v8, rfl, hr8, hE8⟩) | (go_at_call 42; (with_reducible refine (HB _ _ _ hr8 (by exact (by repeat (first | exact Ext.refl _ | assumption | refine Ext.alloc ?_ _ | refine Ext.drew ?_ | refine Ext.drewN ?_ _ | refine Ext.setCell ?_ (by first | omega | (simp; done) | (simp; omega)) _ | refine Ext.trans ?_ (by assumption))))).mono ?_); rintro e W9 ⟨v9, rfl, hr9, hE9⟩) | (go_at_call 39; refine (Same_yes (hr9.ext (by exact (by repeat (first | exact Ext.refl _ | assumption | refine Ext.alloc ?_ _ | refine Ext.drew ?_ | refine Ext.drewN ?_ _ | refine Ext.setCell ?_ (by first | omega | (simp; done) | (simp; omega)) _ | refine Ext.trans ?_ (by assumption))))) (Hv.out.ext (by exact (by repeat (first | exact Ext.refl _ | assumption | refine Ext.alloc ?_ _ | refine Ext.drew ?_ | refine Ext.drewN ?_ _ | refine Ext.setCell ?_ (by first | omega | (simp; done) | (simp; omega)) _ | refine Ext.trans ?_ (by assumption)))))).mono ?_; rintro e W10 ⟨rfl, hE10⟩) | (go_at_call 18; (with_reducible refine (Code_nil _).mono ?_); rintro e W13 ⟨rfl, hE13⟩))
      go_ret
      exact ⟨rfl, by exact (by repeat (first | exact Ext.refl _ | assumption | refine Ext.alloc ?_ _ | refine Ext.drew ?_ | refine Ext.drewN ?_ _ | refine Ext.setCell ?_ (by first | omega | (simp; done) | (simp; omega)) _ | refine Ext.trans ?_ (by assumption)))⟩

theorem TreeBacks_any (v : Value) (t : List Ent) (p q : ByteArray) (w : World) (hL : Laid w) (hv : RdE w v t) :
    Calls Tryz.prog 12 #[v, .string p, .string q] w fun e w' => e = .returned (.bool true) ∧ Ext w w' := by
  by_cases h : sizeOk t = true ∧ p.size ≤ 100 ∧ q.size ≤ 100 ∧ treeOk t = true
  · exact backs_main v t p q w hL hv h.1 h.2.1 h.2.2.1 h.2.2.2
  · exact backs_let v t p q w hL hv h
end Go.Proofs.YtgemdfobkockaaaGreatDoor
