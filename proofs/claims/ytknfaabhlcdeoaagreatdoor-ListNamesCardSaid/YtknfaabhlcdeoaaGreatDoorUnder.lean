/- path.Under: whether a path lies below another; for texts of at most 2^46 bytes. -/
import Derived.Test.YtknfaabhlcdeoaaGreatDoorShF
import Derived.Test.YtknfaabhlcdeoaaGreatDoorPath
namespace Go.Proofs.YtknfaabhlcdeoaaGreatDoor
open Go Go.RowKit Go.Shelf Go.Proofs

theorem join_app (b : List (List UInt8)) (hb : b ≠ []) : ∀ (a : List (List UInt8)), a ≠ [] → Lib.join (a ++ b) [47] = Lib.join a [47] ++ 47 :: Lib.join b [47]
  | [], h => absurd rfl h
  | [x], _ => by
    rcases b with _ | ⟨y, b⟩
    · exact absurd rfl hb
    · show Lib.join (x :: y :: b) [47] = _
      rw [join_cons2, Lib.join_one]
  | x :: y :: a, _ => by
    have ih := join_app b hb (y :: a) (by simp)
    show Lib.join (x :: y :: (a ++ b)) [47] = _
    rw [join_cons2, join_cons2, List.append_assoc, List.cons_append, ← ih]
    rfl

theorem data_pathOf {xs : List ByteArray} (h : xs ≠ []) : (pathOf xs).data.toList = 47 :: Lib.join (xs.map (·.data.toList)) [47] := by
  rw [pathOf, if_neg h, toList_B]

theorem map_data_inj {xs ys : List ByteArray} (h : xs.map (·.data.toList) = ys.map (·.data.toList)) : xs = ys := by
  rw [← map_B_toList xs, h, map_B_toList]

/-- What path.Under asks. -/
theorem under_is (p q : ByteArray) : underB p q = (decide (0 ≤ deep q) && decide (deep q < deep p) && (decide (q = ⟨#[47]⟩) || Lib.hasPrefix p.data.toList (q.data.toList ++ [47]))) := by
  rw [underB, deep, deep]
  rcases hq : names q with _ | ys
  · rcases hp : names p with _ | xs <;> simp
  · rcases hp : names p with _ | xs
    · simp
      omega
    · obtain ⟨vx, ex⟩ := ValN.of hp
      obtain ⟨vy, ey⟩ := ValN.of hq
      by_cases hlt : ys.length < xs.length
      · have h1 : (decide ((0 : Int) ≤ (ys.length : Int)) && decide ((ys.length : Int) < (xs.length : Int))) = true := by
          rw [Bool.and_eq_true, decide_eq_true_eq, decide_eq_true_eq]; omega
        dsimp only
        rw [decide_eq_true hlt, Bool.true_and, h1, Bool.true_and, Bool.eq_iff_iff, decide_eq_true_eq, Bool.or_eq_true, decide_eq_true_eq]
        by_cases hy : ys = []
        · subst hy
          constructor
          · intro _
            left
            rw [← ey]
            rfl
          · intro _
            rfl
        · have hx : xs ≠ [] := List.ne_nil_of_length_pos (by omega)
          have hroot : q ≠ ⟨#[47]⟩ := names_ne_root hq hy
          have hnx : ∀ x ∈ xs.map (·.data.toList), ∀ b ∈ x, b ≠ 47 := by
            intro x hx2
            obtain ⟨y, hy2, rfl⟩ := List.mem_map.1 hx2
            exact nameOk_no (List.all_eq_true.1 vx.1 y hy2)
          have hny : ∀ x ∈ ys.map (·.data.toList), ∀ b ∈ x, b ≠ 47 := by
            intro x hx2
            obtain ⟨y, hy2, rfl⟩ := List.mem_map.1 hx2
            exact nameOk_no (List.all_eq_true.1 vy.1 y hy2)
          rw [Lib.hasPrefix, List.isPrefixOf_iff_prefix, ← ex, ← ey, data_pathOf hx, data_pathOf hy]
          constructor
          · intro h
            right
            have e : xs = ys ++ xs.drop ys.length := by
              have := List.take_append_drop ys.length xs
              rw [h] at this
              exact this.symm
            have hr : xs.drop ys.length ≠ [] := by
              intro h2
              have := congrArg List.length h2
              rw [List.length_drop] at this
              simp at this
              omega
            rw [e, List.map_append, join_app _ (by simpa using hr) _ (by simpa using hy)]
            exact ⟨Lib.join ((xs.drop ys.length).map (·.data.toList)) [47], by simp⟩
          · rintro (h | ⟨r, h⟩)
            · rw [ey] at h
              exact absurd h hroot
            · rw [List.append_assoc, List.cons_append, List.cons.injEq] at h
              have h2 := h.2
              rw [List.singleton_append] at h2
              have h3 := segs_join _ (by simpa using hx) hnx
              have h4 := segs_join _ (by simpa using hy) hny
              rw [← h2, segs_append, h4] at h3
              have h5 := congrArg (List.take ys.length) h3
              rw [List.take_append_of_le_length (by simp), List.take_of_length_le (by simp), ← List.map_take] at h5
              exact (map_data_inj h5).symm
      · have h1 : decide ((ys.length : Int) < (xs.length : Int)) = false := by
          rw [decide_eq_false_iff_not]; omega
        dsimp only
        rw [decide_eq_false hlt, h1]
        simp

theorem entOk_fits {e : Ent} (h : entOk e = true) : e.fits := by
  obtain ⟨ys, z, _, _, h3, h4, h5, h6⟩ := ent_names h
  have h7 : e.path.size ≤ 55 := by
    rw [h6]
    exact pathOf_size (by rw [List.all_append, h3]; simpa using h4) (by rw [List.length_append, List.length_singleton]; omega)
  have h8 : e.data.size ≤ 256 := by
    by_cases hk : e.kind = 1
    · exact entOk_data h hk
    · rw [entOk, Bool.and_eq_true] at h
      have h9 := h.2
      rw [if_neg hk, Bool.and_eq_true, List.isEmpty_iff] at h9
      have : e.data = ⟨#[]⟩ := data_inj h9.2
      rw [this]
      decide
  exact ⟨by omega, by omega⟩

theorem root_eq (q : ByteArray) : (q.toList == [47]) = decide (q = ⟨#[47]⟩) := by
  rw [Bool.eq_iff_iff, beq_iff_eq, decide_eq_true_eq]
  constructor
  · intro h
    exact data_inj (by rw [← toList_eq, h])
  · rintro rfl
    rw [toList_eq]

set_option maxHeartbeats 4000000 in
theorem Under_any (p q : ByteArray) (w : World) (hp : p.size ≤ 140737488355328) (hq : q.size ≤ 70368744177664) :
    Calls Tryz.prog 90 #[.string p, .string q] w fun e w' => e = .returned (.bool (underB p q)) ∧ Ext w w' := by
  have HD := fun w => Deep_any p w (by omega)
  have HD2 := fun w => Deep_any q w (by omega)
  have HP := fun w => Tryz.strings_HasPrefix p (q ++ ⟨#[47]⟩) w
  have e0 : (q ++ ⟨#[47]⟩).data.toList = q.data.toList ++ [47] := by simp
  rw [e0] at HP
  have hsz : (q ++ (⟨#[47]⟩ : ByteArray)).size = q.size + 1 := by simp [ByteArray.size_append]; rfl
  have hU := under_is p q
  have hr := root_eq q
  obtain ⟨a, ha⟩ : ∃ a, deep p = a := ⟨_, rfl⟩
  obtain ⟨b, hb⟩ : ∃ b, deep q = b := ⟨_, rfl⟩
  obtain ⟨r, hr2⟩ : ∃ r, decide (q = ⟨#[47]⟩) = r := ⟨_, rfl⟩
  obtain ⟨h, hh⟩ : ∃ h, Lib.hasPrefix p.data.toList (q.data.toList ++ [47]) = h := ⟨_, rfl⟩
  rw [ha] at HD
  rw [hb] at HD2
  rw [hh] at HP
  rw [ha, hb, hr2, hh] at hU
  rw [hr2] at hr
  rw [hU]
  clear hU ha hb hr2 hh e0
  by_cases h1 : 0 ≤ b
  · by_cases h2 : b < a
    · have e : (decide (0 ≤ b) && decide (b < a) && (r || h)) = (r || h) := by rw [decide_eq_true h1, decide_eq_true h2]; rfl
      rw [e]
      clear e
      cases r
      · go_enter Tryz.func90, Tryz.ntmps90
        go_wp2_with (first | (go_at_call 49; ((with_reducible refine (HD _).mono ?_)); rintro e w1 ⟨rfl, hE1⟩) | (go_at_call 49; ((with_reducible refine (HD2 _).mono ?_)); rintro e w2 ⟨rfl, hE2⟩) | (go_at_call 135; refine (HP _).mono ?_; rintro e w3 ⟨rfl, rfl⟩))
        go_ret
        exact ⟨by first | rfl | simp, by exact (by repeat (first | exact Ext.refl _ | assumption | refine Ext.alloc ?_ _ | refine Ext.drew ?_ | refine Ext.drewN ?_ _ | refine Ext.setCell ?_ (by first | omega | (simp; done) | (simp; omega)) _ | refine Ext.trans ?_ (by assumption)))⟩
      · go_enter Tryz.func90, Tryz.ntmps90
        go_wp2_with (first | (go_at_call 49; ((with_reducible refine (HD _).mono ?_)); rintro e w1 ⟨rfl, hE1⟩) | (go_at_call 49; ((with_reducible refine (HD2 _).mono ?_)); rintro e w2 ⟨rfl, hE2⟩))
        go_ret
        exact ⟨by first | rfl | simp, by exact (by repeat (first | exact Ext.refl _ | assumption | refine Ext.alloc ?_ _ | refine Ext.drew ?_ | refine Ext.drewN ?_ _ | refine Ext.setCell ?_ (by first | omega | (simp; done) | (simp; omega)) _ | refine Ext.trans ?_ (by assumption)))⟩
    · have e : (decide (0 ≤ b) && decide (b < a) && (r || h)) = false := by rw [decide_eq_true h1, decide_eq_false h2]; rfl
      rw [e]
      clear e
      go_enter Tryz.func90, Tryz.ntmps90
      go_wp2_with (first | (go_at_call 49; ((with_reducible refine (HD _).mono ?_)); rintro e w1 ⟨rfl, hE1⟩) | (go_at_call 49; ((with_reducible refine (HD2 _).mono ?_)); rintro e w2 ⟨rfl, hE2⟩))
      go_ret
      exact ⟨by first | rfl | simp, by exact (by repeat (first | exact Ext.refl _ | assumption | refine Ext.alloc ?_ _ | refine Ext.drew ?_ | refine Ext.drewN ?_ _ | refine Ext.setCell ?_ (by first | omega | (simp; done) | (simp; omega)) _ | refine Ext.trans ?_ (by assumption)))⟩
  · have e : (decide (0 ≤ b) && decide (b < a) && (r || h)) = false := by rw [decide_eq_false h1]; rfl
    rw [e]
    clear e
    go_enter Tryz.func90, Tryz.ntmps90
    go_wp2_with (first | (go_at_call 49; ((with_reducible refine (HD _).mono ?_)); rintro e w1 ⟨rfl, hE1⟩) | (go_at_call 49; ((with_reducible refine (HD2 _).mono ?_)); rintro e w2 ⟨rfl, hE2⟩))
    go_ret
    exact ⟨by first | rfl | simp, by exact (by repeat (first | exact Ext.refl _ | assumption | refine Ext.alloc ?_ _ | refine Ext.drew ?_ | refine Ext.drewN ?_ _ | refine Ext.setCell ?_ (by first | omega | (simp; done) | (simp; omega)) _ | refine Ext.trans ?_ (by assumption)))⟩
end Go.Proofs.YtknfaabhlcdeoaaGreatDoor
