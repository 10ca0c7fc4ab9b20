/- The plain laws of what is made, written, moved, removed in a tree. -/
import Derived.Test.YtgemdfobkockaaaGreatDoorTreeRen
namespace Go.Proofs.YtgemdfobkockaaaGreatDoor
open Go Go.RowKit Go.Shelf Go.Proofs

theorem entOk_new {p d : ByteArray} {k : Int} {ys : List ByteArray} {z : ByteArray} (h : names p = some (ys ++ [z])) (hk : k = 1 ∨ k = 2) (hd : d.size ≤ 256) (h2 : k = 2 → d = ⟨#[]⟩) : entOk ⟨p, k, d⟩ = true := by
  rcases hk with rfl | rfl
  · simp [entOk, deep, h, hd]
    omega
  · obtain rfl := h2 rfl
    simp [entOk, deep, h]
    omega

theorem place_of {t : List Ent} {p : ByteArray} {ys : List ByteArray} {z : ByteArray} (ht : treeOk t = true) (hn : names p = some (ys ++ [z])) (hd : DirIn t p) (hf : findT t p = none) : placeT t p = 0 := by
  have h0 : ys ++ [z] ≠ [] := by simp
  have hatp : atT t p = .error 3 := by rw [atT_deep hn h0, hf]
  rw [placeT, hn]
  show (if ys ++ [z] = [] then (1 : Int) else _) = 0
  rw [if_neg h0]
  rcases hd with hr | ⟨y, hy, h1, h2⟩
  · rw [hr, atT_root, hatp]
    exact if_neg (by decide)
  · rw [← h1, atT_of ht hy, hatp]
    show (if y.kind = 1 then (6 : Int) else 0) = 0
    rw [if_neg (by omega)]

theorem made_all {t x : List Ent} {p : ByteArray} {k : Int} (h : madeT t p k = .ok x) (hk : k = 1 ∨ k = 2) : treeOk t = true ∧ placeT t p = 0 ∧ x = insT t ⟨p, k, ⟨#[]⟩⟩ ∧ treeOk x = true ∧ findT t p = none := by
  rw [madeT] at h
  split at h
  · rename_i ht
    split at h
    · rename_i hp
      obtain ⟨⟨ys, z, hn⟩, hd, hf, _⟩ := place_zero hp ht
      rw [withT] at h
      split at h
      · rename_i hl
        cases h
        refine ⟨ht, hp, rfl, tree_ins ht hd hf (entOk_new hn hk (by decide) (fun _ => rfl)) (by show k ≤ 2; omega) ?_, hf⟩
        rw [insT_len, delT_none (findT_none hf)] at hl
        exact hl
      · cases h
    · cases h
  · cases h
theorem madeT_code {t : List Ent} {p : ByteArray} {k c : Int} (h : madeT t p k = .error c) : c ≠ 0 := by
  rw [madeT] at h
  split at h
  · split at h
    · rw [withT] at h
      split at h
      · cases h
      · cases h; decide
    · rename_i hp
      cases h
      exact hp
  · cases h; decide
theorem fileT_code {t : List Ent} {p : ByteArray} {c : Int} (h : fileT t p = .error c) : c ≠ 0 := by
  rw [fileT] at h
  split at h
  · split at h
    · cases h; decide
    · split at h
      · rename_i ha
        cases h
        exact atT_code ha
      · split at h
        · cases h; decide
        · cases h
  · cases h; decide
theorem renameT_code {t : List Ent} {p q : ByteArray} {c : Int} (h : renameT t p q = .error c) : c ≠ 0 := by
  rcases hf : fileT t p with cc | e
  · rw [renameT, hf] at h
    cases h
    exact fileT_code hf
  · by_cases hp : placeT t q = 0
    · rw [(rename_eq hf hp).1] at h
      cases h
    · rw [renameT, hf] at h
      have h : (if placeT t q = 0 then withT (delT t p) { e with path := q } else Except.error (placeT t q)) = .error c := h
      rw [if_neg hp] at h
      cases h
      exact hp

theorem delT_insT {t : List Ent} (hr : Rising t) (e : Ent) : delT (insT t e) e.path = delT t e.path := rising_ext (rising_delT (rising_insT hr e) _) (rising_delT hr _) fun x => by
  rw [mem_delT, mem_delT, mem_insT]
  constructor
  · rintro ⟨rfl | h, h2⟩
    · exact absurd rfl h2
    · exact h
  · rintro h
    exact ⟨.inr h, h.2⟩

/-- A file that is given another path. -/
theorem moved {t z : List Ent} {p q : ByteArray} (h : renameT t p q = .ok z) : ∃ e, fileT t p = .ok e ∧ treeOk t = true ∧ z = insT (delT t p) (moveE e q) ∧ treeOk z = true ∧ fileT z q = .ok (moveE e q) ∧ findT z p = none ∧ p ≠ q ∧ placeT z p = 0 ∧ insT (delT z q) e = t ∧ readT z q = .ok e.data ∧ readT z p = .error 3 := by
  rcases hf : fileT t p with cc | e
  · rw [renameT, hf] at h
    cases h
  · by_cases hp : placeT t q = 0
    · rw [(rename_eq hf hp).1] at h
      cases h
      obtain ⟨ht, hx, rfl, hk, hpr⟩ := fileT_ok hf
      obtain ⟨⟨ys, zz, hn⟩, hd, hfq, _⟩ := place_zero hp ht
      have hr := tree_rising ht
      have hent := (treeOk_iff.1 ht).2.2 e hx
      have hne : e.path ≠ q := fun he => findT_none hfq e hx he
      have hleaf := file_leaf ht hx (by omega)
      have hdel : treeOk (delT t e.path) = true := tree_del ht fun y hy => .inl (hleaf y hy)
      have hdir : ∀ r, DirIn t r → DirIn (delT t e.path) r := fun r hr' => hr'.elim .inl fun ⟨d, hd1, hd2, hd3⟩ => .inr ⟨d, mem_delT.2 ⟨hd1, fun he => by
        have := rising_one hr hd1 hx he
        subst this
        omega⟩, hd2, hd3⟩
      have hfd : findT (delT t e.path) q = none := by
        rw [findT_del hr]
        split
        · rfl
        · exact hfq
      have hz : treeOk (insT (delT t e.path) (moveE e q)) = true := by
        refine tree_ins hdel (hdir q hd) hfd ?_ (by show e.kind ≤ 2; omega) ?_
        · exact entOk_new hn (.inl hk) (entOk_data hent.1 hk) (fun h => by omega)
        · have := delT_mem_len hr hx
          have := tree_small ht
          omega
      have hzf : fileT (insT (delT t e.path) (moveE e q)) q = .ok (moveE e q) := fileT_of (e := moveE e q) hz (mem_insT.2 (.inl rfl)) hk
      have hzp : findT (insT (delT t e.path) (moveE e q)) e.path = none := by
        rw [findT_ins (rising_delT hr _), if_neg (show ¬ e.path = (moveE e q).path from hne), findT_del hr, if_pos rfl]
      obtain ⟨ys', z', hn', _⟩ := ent_names hent.1
      have hzd : DirIn (insT (delT t e.path) (moveE e q)) e.path := by
        rcases hdir _ hent.2.2 with h | ⟨d, hd1, hd2, hd3⟩
        · exact .inl h
        · refine .inr ⟨d, mem_insT.2 (.inr ⟨hd1, fun he => ?_⟩), hd2, hd3⟩
          exact findT_none hfq d (mem_delT.1 hd1).1 he
      have hback : insT (delT (insT (delT t e.path) (moveE e q)) q) e = t := by
        have h1 : delT (insT (delT t e.path) (moveE e q)) q = delT (delT t e.path) q := delT_insT (rising_delT hr _) (moveE e q)
        rw [h1, delT_none (t := delT t e.path) (fun y hy => findT_none hfd y hy), insT_delT, insT_same hr hx]
      refine ⟨e, rfl, ht, rfl, hz, hzf, hzp, hne, place_of hz hn' hzd hzp, hback, readT_of (e := moveE e q) hz (mem_insT.2 (.inl rfl)) hk, ?_⟩
      have h0 : ys' ++ [z'] ≠ [] := by simp
      rw [readT, kindT, if_pos hz, atT_deep hn' h0, hzp]
    · rw [renameT, hf] at h
      have h : (if placeT t q = 0 then withT (delT t p) { e with path := q } else Except.error (placeT t q)) = .ok z := h
      rw [if_neg hp] at h
      cases h

/-- Back again. -/
theorem moved_back {t z : List Ent} {p q : ByteArray} (h : renameT t p q = .ok z) : renameT z q p = .ok t := by
  obtain ⟨e, hf, ht, hz, hzo, hfz, hzp, hne, hpl, hback, _, _⟩ := moved h
  rw [(rename_eq hfz hpl).1]
  obtain ⟨_, _, hpe, _, _⟩ := fileT_ok hf
  have : moveE (moveE e q) p = e := by rw [← hpe]; rfl
  rw [this, hback]

theorem Rename_ok {v : Value} {t l : List Ent} {p q : ByteArray} (hp : p.size ≤ 140737488355328) (hq : q.size ≤ 140737488355328) (h : renameT t p q = .ok l) (w : World) (hv : RdE w v t) : Calls Tryz.prog 42 #[v, .string p, .string q] w (WithOk l w) := by
  have := Rename_any v t p q w hv hp hq
  rwa [h] at this
theorem Rename_bad {v : Value} {t : List Ent} {p q : ByteArray} {c : Int} (hp : p.size ≤ 140737488355328) (hq : q.size ≤ 140737488355328) (h : renameT t p q = .error c) (w : World) (hv : RdE w v t) : Calls Tryz.prog 42 #[v, .string p, .string q] w (TBad c w) := by
  have := Rename_any v t p q w hv hp hq
  rwa [h] at this
end Go.Proofs.YtgemdfobkockaaaGreatDoor
