/- Joined: What lies below a path: plain facts; Whether a stack is of a size that is looked at; What the laws over stacks share: errors' numbers; shalelaw09; What the laws over stacks share: Few's answers; The document's Join, Less, Parent, and its Right of entries, layers and stacks; The document's Right of layers and of stacks; Entries as cells of a row; Plain facts of the folded stack, and what a list of entries is answered as; The document's Under, With, Over and Stack: the folded stack, for every stack that can be looked at -/
import Derived.Test.YthadldnojdjlnaaGreatDoorJP3
import Derived.Test.YthadldnojdjlnaaGreatDoorJP0
import Derived.Test.YthadldnojdjlnaaGreatDoorJP1
import Derived.Test.YthadldnojdjlnaaGreatDoorJP2
import Derived.Lib.QuietBelow
import Derived.Test.YthadldnojdjlnaaGreatDoorShelf
import Derived.Lib.Hide
import Derived.Sort.OwnSorted
import Derived.Laws.OwnMore
import Derived.Maps.AppendAt
import Derived.Deep.RegionLaw
import Derived.BigRegion
import Derived.Deep.AppendLies
import Derived.Laws.AppendOwnNone
/-! UnderW -/
namespace Go.Proofs.YthadldnojdjlnaaGreatDoor
open Go Go.RowKit Go.Shelf Go.Proofs

theorem join_app (b : List (List UInt8)) (hb : b ≠ []) : ∀ (a : List (List UInt8)), a ≠ [] → Lib.join (a ++ b) [47] = Lib.join a [47] ++ 47 :: Lib.join b [47]
  | [], h => absurd rfl h
  | [x], _ => by
    rcases b with _ | ⟨y, b⟩
    · exact absurd rfl hb
    · show Lib.join (x :: y :: b) [47] = _
      rw [join_cons2, Lib.join_one]
  | x :: y :: a, _ => by
    have ih := join_app b hb (y :: a) (by simp)
    show Lib.join (x :: y :: (a ++ b)) [47] = _
    rw [join_cons2, join_cons2, List.append_assoc, List.cons_append, ← ih]
    rfl

theorem data_pathOf {xs : List ByteArray} (h : xs ≠ []) : (pathOf xs).data.toList = 47 :: Lib.join (xs.map (·.data.toList)) [47] := by
  rw [pathOf, if_neg h, toList_B]

theorem map_data_inj {xs ys : List ByteArray} (h : xs.map (·.data.toList) = ys.map (·.data.toList)) : xs = ys := by
  rw [← map_B_toList xs, h, map_B_toList]

/-- What path.Under asks. -/
theorem under_is (p q : ByteArray) : underB p q = (decide (0 ≤ deep q) && decide (deep q < deep p) && (decide (q = ⟨#[47]⟩) || Lib.hasPrefix p.data.toList (q.data.toList ++ [47]))) := by
  rw [underB, deep, deep]
  rcases hq : names q with _ | ys
  · rcases hp : names p with _ | xs <;> simp
  · rcases hp : names p with _ | xs
    · simp
      omega
    · obtain ⟨vx, ex⟩ := ValN.of hp
      obtain ⟨vy, ey⟩ := ValN.of hq
      by_cases hlt : ys.length < xs.length
      · have h1 : (decide ((0 : Int) ≤ (ys.length : Int)) && decide ((ys.length : Int) < (xs.length : Int))) = true := by
          rw [Bool.and_eq_true, decide_eq_true_eq, decide_eq_true_eq]; omega
        dsimp only
        rw [decide_eq_true hlt, Bool.true_and, h1, Bool.true_and, Bool.eq_iff_iff, decide_eq_true_eq, Bool.or_eq_true, decide_eq_true_eq]
        by_cases hy : ys = []
        · subst hy
          constructor
          · intro _
            left
            rw [← ey]
            rfl
          · intro _
            rfl
        · have hx : xs ≠ [] := List.ne_nil_of_length_pos (by omega)
          have hroot : q ≠ ⟨#[47]⟩ := names_ne_root hq hy
          have hnx : ∀ x ∈ xs.map (·.data.toList), ∀ b ∈ x, b ≠ 47 := by
            intro x hx2
            obtain ⟨y, hy2, rfl⟩ := List.mem_map.1 hx2
            exact nameOk_no (List.all_eq_true.1 vx.1 y hy2)
          have hny : ∀ x ∈ ys.map (·.data.toList), ∀ b ∈ x, b ≠ 47 := by
            intro x hx2
            obtain ⟨y, hy2, rfl⟩ := List.mem_map.1 hx2
            exact nameOk_no (List.all_eq_true.1 vy.1 y hy2)
          rw [Lib.hasPrefix, List.isPrefixOf_iff_prefix, ← ex, ← ey, data_pathOf hx, data_pathOf hy]
          constructor
          · intro h
            right
            have e : xs = ys ++ xs.drop ys.length := by
              have := List.take_append_drop ys.length xs
              rw [h] at this
              exact this.symm
            have hr : xs.drop ys.length ≠ [] := by
              intro h2
              have := congrArg List.length h2
              rw [List.length_drop] at this
              simp at this
              omega
            rw [e, List.map_append, join_app _ (by simpa using hr) _ (by simpa using hy)]
            exact ⟨Lib.join ((xs.drop ys.length).map (·.data.toList)) [47], by simp⟩
          · rintro (h | ⟨r, h⟩)
            · rw [ey] at h
              exact absurd h hroot
            · rw [List.append_assoc, List.cons_append, List.cons.injEq] at h
              have h2 := h.2
              rw [List.singleton_append] at h2
              have h3 := segs_join _ (by simpa using hx) hnx
              have h4 := segs_join _ (by simpa using hy) hny
              rw [← h2, segs_append, h4] at h3
              have h5 := congrArg (List.take ys.length) h3
              rw [List.take_append_of_le_length (by simp), List.take_of_length_le (by simp), ← List.map_take] at h5
              exact (map_data_inj h5).symm
      · have h1 : decide ((ys.length : Int) < (xs.length : Int)) = false := by
          rw [decide_eq_false_iff_not]; omega
        dsimp only
        rw [decide_eq_false hlt, h1]
        simp

theorem entOk_fits {e : Ent} (h : entOk e = true) : e.fits := by
  obtain ⟨ys, z, _, _, h3, h4, h5, h6⟩ := ent_names h
  have h7 : e.path.size ≤ 55 := by
    rw [h6]
    exact pathOf_size (by rw [List.all_append, h3]; simpa using h4) (by rw [List.length_append, List.length_singleton]; omega)
  have h8 : e.data.size ≤ 256 := by
    by_cases hk : e.kind = 1
    · exact entOk_data h hk
    · rw [entOk, Bool.and_eq_true] at h
      have h9 := h.2
      rw [if_neg hk, Bool.and_eq_true, List.isEmpty_iff] at h9
      have : e.data = ⟨#[]⟩ := data_inj h9.2
      rw [this]
      decide
  exact ⟨by omega, by omega⟩

theorem root_eq (q : ByteArray) : (q.toList == [47]) = decide (q = ⟨#[47]⟩) := by
  rw [Bool.eq_iff_iff, beq_iff_eq, decide_eq_true_eq]
  constructor
  · intro h
    exact data_inj (by rw [← toList_eq, h])
  · rintro rfl
    rw [toList_eq]

end Go.Proofs.YthadldnojdjlnaaGreatDoor

/-! FewW -/
namespace Go.Proofs.YthadldnojdjlnaaGreatDoor
open Go Go.RowKit Go.Shelf Go.Proofs

def entSmall (x : Ent) : Bool := decide (x.path.size ≤ 100) && decide (x.data.size ≤ 600)
def sizeOk (l : List Ent) : Bool := decide (l.length ≤ 70) && l.all entSmall
def fewOk (s : List (List Ent)) : Bool := decide (s.length ≤ 12) && s.all sizeOk
def oneI (b : Bool) : Int := if b = true then 1 else 0

theorem sizeOk_at {l : List Ent} (h : sizeOk l = true) {x : Ent} (hx : x ∈ l) : x.path.size ≤ 100 ∧ x.data.size ≤ 600 := by
  rw [sizeOk, Bool.and_eq_true, List.all_eq_true] at h
  have := h.2 x hx
  rw [entSmall, Bool.and_eq_true, decide_eq_true_eq, decide_eq_true_eq] at this
  exact this
theorem sizeOk_len {l : List Ent} (h : sizeOk l = true) : l.length ≤ 70 := by
  rw [sizeOk, Bool.and_eq_true, decide_eq_true_eq] at h
  exact h.1
theorem fewOk_at {s : List (List Ent)} (h : fewOk s = true) {l : List Ent} (hl : l ∈ s) : sizeOk l = true := by
  rw [fewOk, Bool.and_eq_true, List.all_eq_true] at h
  exact h.2 l hl
theorem fewOk_len {s : List (List Ent)} (h : fewOk s = true) : s.length ≤ 12 := by
  rw [fewOk, Bool.and_eq_true, decide_eq_true_eq] at h
  exact h.1

theorem rdE_form {w : World} {v : Value} {l : List Ent} {n : Nat} (hv : RdE w v l) (hn : n = l.length) :
    ∃ A c, v = .slice A n c ∧ n ≤ c ∧ c ≤ 9223372036854775807 ∧ Hid (l ≠ [] → ∃ b o, A = some ⟨b, o, none⟩ ∧
      ∀ (j : Nat) (h : j < l.length), w.cell? ⟨b, o + j * 3, Option.none⟩ = some (.string l[j].path) ∧ w.cell? ⟨b, o + j * 3 + 1, Option.none⟩ = some (.int .i64 l[j].kind) ∧ w.cell? ⟨b, o + j * 3 + 2, Option.none⟩ = some (.string l[j].data) ∧ l[j].fits) := by
  by_cases h0 : l = []
  · obtain ⟨A, c, e, h1, h2, _⟩ := hv
    rw [← hn] at e h1
    exact ⟨A, c, e, h1, h2, Lib.hid fun h => absurd h0 h⟩
  · obtain ⟨b, o, c, e, h1, h2, h3⟩ := RdE.open_ hv h0
    rw [← hn] at e h1
    exact ⟨_, c, e, h1, h2, Lib.hid fun _ => ⟨b, o, rfl, h3⟩⟩
end Go.Proofs.YthadldnojdjlnaaGreatDoor

/-! LHelpW -/
namespace Go.Proofs.YthadldnojdjlnaaGreatDoor
open Go Go.RowKit Go.Shelf Go.Proofs

def rootB : ByteArray := ⟨#[47]⟩
theorem look_root {s : List (List Ent)} (h : stackOk s = true) : lookE s rootB = .ok (⟨rootB, 2, ⟨#[]⟩⟩, 0) := by
  rw [lookE, if_pos h, rootB, names_root]
  rfl
theorem dir_root {s : List (List Ent)} (h : stackOk s = true) : dirE s rootB = .ok 0 := by
  rw [dirE, look_root h]
  rfl

theorem lookN_code {s : List (List Ent)} {xs : List ByteArray} {i : Nat} {c : Int} (h : lookN s xs i = .error c) : c ≠ 0 := by
  induction i with
  | zero => rw [lookN] at h; cases h
  | succ i ih =>
    rw [lookN] at h
    split at h
    · rename_i c' hc
      cases h
      exact ih hc
    · split at h
      · cases h; decide
      · split at h
        · cases h
        · cases h; decide
theorem lookE_code {s : List (List Ent)} {p : ByteArray} {c : Int} (h : lookE s p = .error c) : c ≠ 0 := by
  rw [lookE] at h
  split at h
  · split at h
    · cases h; decide
    · exact lookN_code h
  · cases h; decide
theorem dirE_code {s : List (List Ent)} {p : ByteArray} {c : Int} (h : dirE s p = .error c) : c ≠ 0 := by
  rw [dirE] at h
  split at h
  · rename_i c' hc
    cases h
    exact lookE_code hc
  · split at h
    · cases h; decide
    · cases h

theorem rdS_form {w : World} {v : Value} {l : List ByteArray} {n : Nat} (hv : RdS w v l) (hn : n = l.length) :
    ∃ A c, v = .slice A n c ∧ n ≤ c ∧ c ≤ 9223372036854775807 ∧ Hid (l ≠ [] → ∃ b o, A = some ⟨b, o, none⟩ ∧ ∀ (j : Nat) (h : j < l.length), w.cell? ⟨b, o + j, none⟩ = some (.string l[j])) := by
  by_cases h0 : l = []
  · obtain ⟨A, c, e, h1, h2, _⟩ := hv
    rw [← hn] at e h1
    exact ⟨A, c, e, h1, h2, Lib.hid fun h => absurd h0 h⟩
  · obtain ⟨b, o, c, e, h1, h2, h3⟩ := RdS.open_ hv h0
    rw [← hn] at e h1
    exact ⟨_, c, e, h1, h2, Lib.hid fun _ => ⟨b, o, rfl, fun j h => h3 j _ (List.getElem?_eq_getElem h)⟩⟩
end Go.Proofs.YthadldnojdjlnaaGreatDoor

/-! Few -/
namespace Go.Proofs.YthadldnojdjlnaaGreatDoor
open Go Go.RowKit Go.Shelf Go.Proofs

theorem size_next {l : List Ent} {n k : Nat} {w wr : World} (hlt : k < n) (hE : Ext w wr) (hall : Hid (∀ (t : Nat) (h : t < l.length), t < k → entSmall l[t] = true)) (hh : k < l.length) (hx : entSmall l[k] = true) :
    (∃ k' : Nat, Value.int IntKind.i64 ((k : Int) + 1) = .int .i64 k' ∧ k' ≤ n ∧ Hid (∀ (t : Nat) (h : t < l.length), t < k' → entSmall l[t] = true) ∧ Ext w wr) ∧ n - (intOf (.int .i64 ((k : Int) + 1))).toNat < n - (intOf (.int .i64 (k : Int))).toNat := by
  refine ⟨⟨k + 1, by simp, by omega, Lib.hid fun t ht h => ?_, hE⟩, by simp [intOf]; omega⟩
  by_cases e : t = k
  · subst e; exact hx
  · exact hall.out t ht (by omega)

set_option maxHeartbeats 2000000 in
theorem Size_any (v : Value) (l : List Ent) (w : World) (hv : RdE w v l) :
    Calls Tryz.prog 17 #[v] w fun e w' => e = .returned (.int .i64 (oneI (sizeOk l))) ∧ Ext w w' := by
  obtain ⟨n, hn⟩ : ∃ n, n = l.length := ⟨_, rfl⟩
  have Hn := Lib.hid hn
  have hlen := Rd.len hv
  obtain ⟨A, c, rfl, hc1, hc2, Hcell⟩ := rdE_form hv hn
  rw [← hn] at hlen
  clear hn hv
  by_cases h70 : n ≤ 70
  · have h70' : ¬ (70 : Int) < (n : Int) := by omega
    go_enter Tryz.func17, Tryz.ntmps17
    go_wp2
    go_loopw [3] (fun i wr => ∃ k : Nat, i = .int .i64 k ∧ k ≤ n ∧ Hid (∀ (t : Nat) (h : t < l.length), t < k → entSmall l[t] = true) ∧ Ext w wr) (fun i _ => n - (intOf i).toNat)
    case atStart => exact ⟨0, rfl, Nat.zero_le _, Lib.hid fun t _ h => absurd h (Nat.not_lt_zero t), Ext.refl _⟩
    case round =>
      obtain ⟨k, rfl, hkn, hall, hE⟩ := hrel
      by_cases hlt : k < n
      · have hh : k < l.length := by have := Hn.out; omega
        obtain ⟨b, o, rfl, hcell⟩ := Hcell.out (List.ne_nil_of_length_pos (by omega))
        obtain ⟨q0, q1, q2, hf⟩ := hcell k hh
        obtain ⟨x, hx⟩ : ∃ x, l[k]'hh = x := ⟨_, rfl⟩
        rw [hx] at q0 q1 q2 hf
        have g0 := hE.cell q0
        have g1 := hE.cell q1
        have g2 := hE.cell q2
        have hf1 := hf.1
        have hf2 := hf.2
        have Hx := Lib.hid hx
        clear q0 q1 q2 hx hf hcell
        by_cases hp : x.path.size ≤ 100
        · have hp' : ¬ (100 : Int) < (x.path.size : Int) := by omega
          by_cases hd : x.data.size ≤ 600
          · have hd' : ¬ (600 : Int) < (x.data.size : Int) := by omega
            have hok : entSmall (l[k]'hh) = true := by rw [Hx.out, entSmall, decide_eq_true hp, decide_eq_true hd]; rfl
            go_wp2
            exact size_next hlt hE hall hh hok
          · have hd' : (600 : Int) < (x.data.size : Int) := by omega
            have hbad : sizeOk l = false := by
              rw [sizeOk, Bool.and_eq_false_iff]
              exact .inr (List.all_eq_false.2 ⟨_, List.getElem_mem hh, by rw [Hx.out, entSmall, decide_eq_false hd]; simp⟩)
            go_wp2
            go_ret
            exact ⟨by first | rfl | (rw [hbad]; rfl), hE⟩
        · have hp' : (100 : Int) < (x.path.size : Int) := by omega
          have hbad : sizeOk l = false := by
            rw [sizeOk, Bool.and_eq_false_iff]
            exact .inr (List.all_eq_false.2 ⟨_, List.getElem_mem hh, by rw [Hx.out, entSmall, decide_eq_false hp]; simp⟩)
          go_wp2
          go_ret
          exact ⟨by first | rfl | (rw [hbad]; rfl), hE⟩
      · have hkn2 : k = n := by omega
        have hok : sizeOk l = true := by
          rw [sizeOk, Bool.and_eq_true, decide_eq_true_eq, List.all_eq_true]
          refine ⟨by have := Hn.out; omega, fun x hx => ?_⟩
          obtain ⟨t, ht, rfl⟩ := List.getElem_of_mem hx
          exact hall.out t ht (by have := Hn.out; omega)
        subst hkn2
        go_wp2
        go_ret
        exact ⟨by first | rfl | (rw [hok]; rfl), hE⟩
  · have h70' : (70 : Int) < (n : Int) := by omega
    have hbad : sizeOk l = false := by rw [sizeOk, Bool.and_eq_false_iff]; exact .inl (decide_eq_false (by have := Hn.out; omega))
    go_enter Tryz.func17, Tryz.ntmps17
    go_wp2
    go_ret
    exact ⟨by first | rfl | (rw [hbad]; rfl), Ext.refl _⟩

theorem few_next {s : List (List Ent)} {n k : Nat} {w wr : World} (hlt : k < n) (hE : Ext w wr) (hall : Hid (∀ (t : Nat) (h : t < s.length), t < k → sizeOk s[t] = true)) (hh : k < s.length) (hx : sizeOk s[k] = true) :
    (∃ k' : Nat, Value.int IntKind.i64 ((k : Int) + 1) = .int .i64 k' ∧ k' ≤ n ∧ Hid (∀ (t : Nat) (h : t < s.length), t < k' → sizeOk s[t] = true) ∧ Ext w wr) ∧ n - (intOf (.int .i64 ((k : Int) + 1))).toNat < n - (intOf (.int .i64 (k : Int))).toNat := by
  refine ⟨⟨k + 1, by simp, by omega, Lib.hid fun t ht h => ?_, hE⟩, by simp [intOf]; omega⟩
  by_cases e : t = k
  · subst e; exact hx
  · exact hall.out t ht (by omega)

set_option maxHeartbeats 2000000 in
theorem Few_any (v : Value) (s : List (List Ent)) (w : World) (hv : RdK w v s) :
    Calls Tryz.prog 5 #[v] w fun e w' => e = .returned (.int .i64 (oneI (fewOk s))) ∧ Ext w w' := by
  obtain ⟨n, hn⟩ : ∃ n, n = s.length := ⟨_, rfl⟩
  have Hn := Lib.hid hn
  have hlen := Rd.len hv
  obtain ⟨A, c, rfl, hc1, hc2, Hcell⟩ := RdK.form hv hn
  rw [← hn] at hlen
  clear hn hv
  by_cases h12 : n ≤ 12
  · have h12' : ¬ (12 : Int) < (n : Int) := by omega
    go_enter Tryz.func5, Tryz.ntmps5
    go_wp2
    go_loopw [3] (fun i wr => ∃ k : Nat, i = .int .i64 k ∧ k ≤ n ∧ Hid (∀ (t : Nat) (h : t < s.length), t < k → sizeOk s[t] = true) ∧ Ext w wr) (fun i _ => n - (intOf i).toNat)
    case atStart => exact ⟨0, rfl, Nat.zero_le _, Lib.hid fun t _ h => absurd h (Nat.not_lt_zero t), Ext.refl _⟩
    case round =>
      obtain ⟨k, rfl, hkn, hall, hE⟩ := hrel
      by_cases hlt : k < n
      · have hh : k < s.length := by have := Hn.out; omega
        obtain ⟨b, o, rfl, hcell⟩ := Hcell.out (List.ne_nil_of_length_pos (by omega))
        obtain ⟨u, q0, hu⟩ := hcell k hh
        have g0 := hE.cell q0
        have HS := Size_any u s[k] wr (hu.ext hE)
        clear q0 hcell hu
        rcases hok : sizeOk s[k] with _ | _
        · rw [hok] at HS
          have hbad : fewOk s = false := by
            rw [fewOk, Bool.and_eq_false_iff]
            exact .inr (List.all_eq_false.2 ⟨_, List.getElem_mem hh, by simp [hok]⟩)
          clear hok
          go_wp2_with (go_at_call 17; refine HS.mono ?_; rintro e W2 ⟨rfl, hE2⟩)
          go_ret
          exact ⟨by first | rfl | (rw [hbad]; rfl), hE.trans hE2⟩
        · rw [hok] at HS
          have Hok := Lib.hid hok
          clear hok
          go_wp2_with (go_at_call 17; refine HS.mono ?_; rintro e W2 ⟨rfl, hE2⟩)
          exact few_next hlt (hE.trans hE2) hall hh Hok.out
      · have hkn2 : k = n := by omega
        have hok : fewOk s = true := by
          rw [fewOk, Bool.and_eq_true, decide_eq_true_eq, List.all_eq_true]
          refine ⟨by have := Hn.out; omega, fun x hx => ?_⟩
          obtain ⟨t, ht, rfl⟩ := List.getElem_of_mem hx
          exact hall.out t ht (by have := Hn.out; omega)
        subst hkn2
        go_wp2
        go_ret
        exact ⟨by first | rfl | (rw [hok]; rfl), hE⟩
  · have h12' : (12 : Int) < (n : Int) := by omega
    have hbad : fewOk s = false := by rw [fewOk, Bool.and_eq_false_iff]; exact .inl (decide_eq_false (by have := Hn.out; omega))
    go_enter Tryz.func5, Tryz.ntmps5
    go_wp2
    go_ret
    exact ⟨by first | rfl | (rw [hbad]; rfl), Ext.refl _⟩
end Go.Proofs.YthadldnojdjlnaaGreatDoor

/-! LHelp -/
namespace Go.Proofs.YthadldnojdjlnaaGreatDoor
open Go Go.RowKit Go.Shelf Go.Proofs

theorem few_yes {v : Value} {s : List (List Ent)} (h : fewOk s = true) (w : World) (hv : RdK w v s) : Calls Tryz.prog 5 #[v] w fun e w' => e = .returned (.int .i64 1) ∧ Ext w w' := by
  have := Few_any v s w hv
  rwa [h] at this
theorem few_no {v : Value} {s : List (List Ent)} (h : fewOk s = false) (w : World) (hv : RdK w v s) : Calls Tryz.prog 5 #[v] w fun e w' => e = .returned (.int .i64 0) ∧ Ext w w' := by
  have := Few_any v s w hv
  rwa [h] at this
end Go.Proofs.YthadldnojdjlnaaGreatDoor

/-! RRight -/
namespace Go.Proofs.YthadldnojdjlnaaGreatDoor
open Go Go.RowKit Go.Shelf Go.Proofs

/-- Names, a slash ahead of each. -/
def slL (xs : List ByteArray) : List UInt8 := xs.flatMap fun x => 47 :: x.data.toList
theorem slL_snoc (xs : List ByteArray) (x : ByteArray) : slL (xs ++ [x]) = slL xs ++ 47 :: x.data.toList := by simp [slL]
theorem slL_path : ∀ {xs : List ByteArray}, xs ≠ [] → pathOf xs = B (slL xs)
  | [], h => absurd rfl h
  | x :: xs, _ => by
    rw [pathOf, if_neg (by simp), List.map_cons, Lib.join_cons]
    congr 1
    have : ∀ ys : List ByteArray, Lib.joinTail [47] (ys.map (·.data.toList)) = slL ys := fun ys => by
      induction ys with
      | nil => rfl
      | cons y ys ih =>
        rw [slL, List.flatMap_cons]
        simp only [Lib.joinTail, List.map_cons, List.flatten_cons] at ih ⊢
        rw [ih]
        rfl
    rw [this]
    rfl
theorem slL_len {xs : List ByteArray} (h : ∀ x ∈ xs, x.size ≤ 8) : (slL xs).length ≤ 9 * xs.length := by
  induction xs with
  | nil => simp [slL]
  | cons x xs ih =>
    have h1 := ih fun y hy => h y (by simp [hy])
    have h2 := h x (by simp)
    have h3 : x.data.toList.length = x.size := Array.length_toList
    rw [slL, List.flatMap_cons] at *
    simp only [List.length_append, List.length_cons] at *
    omega

theorem slL_put (l : List UInt8) (x : ByteArray) : B l ++ ⟨#[47]⟩ ++ x = B (l ++ 47 :: x.data.toList) := by
  apply ByteArray.ext
  simp [B]

def JnRel (xs : List ByteArray) (n : Nat) (w : World) (v3 i : Value) (wr : World) : Prop := ∃ k : Nat, i = .int .i64 k ∧ k ≤ n ∧ v3 = .string (B (slL (xs.take k))) ∧ Ext w wr

set_option maxHeartbeats 4000000 in
set_option maxRecDepth 20000 in
theorem RJoin_any (v : Value) (xs : List ByteArray) (w : World) (hv : RdS w v xs) (h8 : ∀ x ∈ xs, x.size ≤ 8) (h6 : xs.length ≤ 100) :
    Calls Tryz.prog 27 #[v] w fun e w' => e = .returned (.string (pathOf xs)) ∧ Ext w w' := by
  obtain ⟨n, hn⟩ : ∃ n, n = xs.length := ⟨_, rfl⟩
  have Hn := Lib.hid hn
  obtain ⟨A, c, rfl, hc1, hc2, Hcell⟩ := rdS_form hv hn
  have H8 := Lib.hid h8
  rw [← hn] at h6
  clear hn hv h8
  go_enter Tryz.func27, Tryz.ntmps27
  go_wp2
  go_loopw [3, 4] (fun v3 i wr => JnRel xs n w v3 i wr) (fun _ i _ => n - (intOf i).toNat)
  case atStart => exact ⟨0, rfl, Nat.zero_le _, rfl, Ext.refl _⟩
  case round =>
    obtain ⟨k, rfl, hkn, rfl, hE⟩ := hrel
    by_cases hlt : k < n
    · have hh : k < xs.length := by have := Hn.out; omega
      obtain ⟨b, o, rfl, hcell⟩ := Hcell.out (List.ne_nil_of_length_pos (by omega))
      obtain ⟨x, hx⟩ : ∃ x, xs[k]'hh = x := ⟨_, rfl⟩
      have q0 := hE.cell (hcell k hh)
      rw [hx] at q0
      have hx8 : x.size ≤ 8 := H8.out x (by rw [← hx]; exact List.getElem_mem hh)
      have hsl : (slL (xs.take k)).length ≤ 9 * k := by
        have := slL_len (xs := xs.take k) fun y hy => H8.out y (List.mem_of_mem_take hy)
        rwa [List.length_take, Nat.min_eq_left (by omega)] at this
      have hstep : B (slL (xs.take k)) ++ ⟨#[47]⟩ ++ x = B (slL (xs.take (k + 1))) := by rw [slL_put, ← List.take_append_getElem hh, slL_snoc, hx]
      obtain ⟨acc, hacc⟩ : ∃ acc, B (slL (xs.take k)) = acc := ⟨_, rfl⟩
      have hasz : acc.size ≤ 900 := by rw [← hacc, size_B]; omega
      rw [hacc] at hstep ⊢
      have Hstep := Lib.hid hstep
      have hs1 : (acc ++ (⟨#[47]⟩ : ByteArray)).size ≤ 1000 := by simp only [ByteArray.size_append]; show _ + 1 ≤ _; omega
      clear hcell hx hsl hstep hacc
      go_wp2
      exact ⟨⟨k + 1, by simp, by omega, by rw [Hstep.out], hE⟩, by simp [intOf]; omega⟩
    · have hkn' : k = n := by omega
      have hfull : xs.take k = xs := List.take_of_length_le (by have := Hn.out; omega)
      rw [hfull]
      by_cases h0 : xs = []
      · have hem : (B (slL xs)).toList.isEmpty = true := by rw [ByteArray.toList_eq, toList_B, h0]; rfl
        have hp : pathOf xs = ⟨#[47]⟩ := by rw [h0]; rfl
        have Hp := Lib.hid hp
        clear h0 hp
        go_wp2
        go_ret
        exact ⟨by rw [Hp.out]; rfl, hE⟩
      · have hem : (B (slL xs)).toList.isEmpty = false := by
          rw [ByteArray.toList_eq, toList_B]
          rcases xs with _ | ⟨x, xs⟩
          · exact absurd rfl h0
          · rfl
        have Hp := Lib.hid (slL_path h0)
        clear h0
        go_wp2
        go_ret
        exact ⟨by rw [Hp.out]; rfl, hE⟩

/-! ### Less -/

theorem lt_differ {a b : ByteArray} {k : Nat} {c d : UInt8} (h : a.data.toList.take k = b.data.toList.take k) (hc : a.data.toList[k]? = some c) (hd : b.data.toList[k]? = some d) (hne : c ≠ d) : lt a b = decide (c.toNat < d.toNat) := by
  have e1 : a.data.toList = a.data.toList.take k ++ c :: a.data.toList.drop (k + 1) := by
    obtain ⟨h1, h2⟩ := List.getElem?_eq_some_iff.1 hc
    rw [← h2, ← List.drop_eq_getElem_cons, List.take_append_drop]
  have e2 : b.data.toList = a.data.toList.take k ++ d :: b.data.toList.drop (k + 1) := by
    obtain ⟨h1, h2⟩ := List.getElem?_eq_some_iff.1 hd
    rw [h, ← h2, ← List.drop_eq_getElem_cons, List.take_append_drop]
  rw [Bool.eq_iff_iff, lt, decide_eq_true_eq, decide_eq_true_eq, e1, e2, lt_app, List.cons_lt_cons_iff, UInt8.lt_iff_toNat_lt]
  constructor
  · rintro (h | ⟨h, _⟩)
    · exact h
    · exact absurd h hne
  · exact .inl

theorem lt_ended {a b : ByteArray} {k : Nat} (h : a.data.toList.take k = b.data.toList.take k) (hk : k ≤ a.size) (hk2 : k ≤ b.size) (he : k = a.size ∨ k = b.size) : lt a b = decide (a.size < b.size) := by
  have la : a.data.toList.length = a.size := Array.length_toList
  have lb : b.data.toList.length = b.size := Array.length_toList
  have e1 : a.data.toList = a.data.toList.take k ++ a.data.toList.drop k := (List.take_append_drop _ _).symm
  have e2 : b.data.toList = a.data.toList.take k ++ b.data.toList.drop k := by rw [h, List.take_append_drop]
  rw [Bool.eq_iff_iff, lt, decide_eq_true_eq, decide_eq_true_eq, e1, e2, lt_app]
  rcases he with rfl | rfl
  · rw [List.drop_of_length_le (l := a.data.toList) (by omega)]
    rcases hb : b.data.toList.drop a.size with _ | ⟨d, r⟩
    · have := congrArg List.length hb
      rw [List.length_drop] at this
      simp at this ⊢
      omega
    · have := congrArg List.length hb
      rw [List.length_drop, List.length_cons] at this
      simp
      omega
  · rw [List.drop_of_length_le (l := b.data.toList) (by omega)]
    simp
    omega

def LsRel (a b : ByteArray) (w : World) (i : Value) (wr : World) : Prop := ∃ k : Nat, i = .int .i64 k ∧ k ≤ a.size ∧ k ≤ b.size ∧ Hid (a.data.toList.take k = b.data.toList.take k) ∧ Ext w wr

set_option maxHeartbeats 4000000 in
set_option maxRecDepth 20000 in
theorem RLess_any (a b : ByteArray) (w : World) (ha : a.size ≤ 140737488355328) (_hb : b.size ≤ 140737488355328) :
    Calls Tryz.prog 40 #[.string a, .string b] w fun e w' => e = .returned (.bool (lt a b)) ∧ Ext w w' := by
  go_enter Tryz.func40, Tryz.ntmps40
  go_wp2
  go_loopw [5] (fun i wr => LsRel a b w i wr) (fun i _ => a.size - (intOf i).toNat)
  case atStart => exact ⟨0, rfl, Nat.zero_le _, Nat.zero_le _, Lib.hid (by simp), Ext.refl _⟩
  case round =>
    obtain ⟨k, rfl, hka, hkb, htk, hE⟩ := hrel
    by_cases hla : k < a.size
    · have hla' : (k : Int) < (a.size : Int) := by omega
      by_cases hlb : k < b.size
      · have hlb' : (k : Int) < (b.size : Int) := by omega
        obtain ⟨c, hc⟩ : ∃ c, a[k]'hla = c := ⟨_, rfl⟩
        obtain ⟨d, hd⟩ : ∃ d, b[k]'hlb = d := ⟨_, rfl⟩
        have hca : a.data.toList[k]? = some c := by rw [Array.getElem?_toList, ← hc]; exact Array.getElem?_eq_getElem hla
        have hdb : b.data.toList[k]? = some d := by rw [Array.getElem?_toList, ← hd]; exact Array.getElem?_eq_getElem hlb
        by_cases hcd : c = d
        · have hne : ((c.toNat : Int) != (d.toNat : Int)) = false := by rw [hcd]; simp
          have hn : a.data.toList.take (k + 1) = b.data.toList.take (k + 1) := by
            obtain ⟨h1, h2⟩ := List.getElem?_eq_some_iff.1 hca
            obtain ⟨h3, h4⟩ := List.getElem?_eq_some_iff.1 hdb
            rw [← List.take_append_getElem h1, ← List.take_append_getElem h3, htk.out, h2, h4, hcd]
          have Hn := Lib.hid hn
          clear hca hdb hcd hn
          go_upto_region 4 with (fail)
          go_quiet (fail)
          go_wp2
          exact ⟨⟨k + 1, by simp, by omega, by omega, Hn, hE.drewN _⟩, by simp [intOf]; omega⟩
        · have hne : ((c.toNat : Int) != (d.toNat : Int)) = true := by
            rw [bne_iff_ne]
            intro e
            exact hcd (UInt8.toNat_inj.1 (by omega))
          have hl := lt_differ htk.out hca hdb hcd
          have Hl := Lib.hid hl
          clear hca hdb hcd hl
          go_upto_region 4 with (fail)
          go_quiet (fail)
          go_upto_region 5 with (fail)
          go_quiet (fail)
          go_wp2
          go_ret
          exact ⟨by rw [Hl.out]; simp, (hE.drewN _).drewN _⟩
      · have hlb' : ¬ (k : Int) < (b.size : Int) := by omega
        have Hl := Lib.hid (lt_ended htk.out hka hkb (.inr (by omega)))
        go_wp2
        go_ret
        exact ⟨by rw [Hl.out]; simp, hE⟩
    · have hla' : ¬ (k : Int) < (a.size : Int) := by omega
      have Hl := Lib.hid (lt_ended htk.out hka hkb (.inl (by omega)))
      go_wp2
      go_ret
      exact ⟨by rw [Hl.out]; simp, hE⟩

/-! ### Parent, Right of an entry -/

set_option maxHeartbeats 4000000 in
set_option maxRecDepth 20000 in
theorem RParent_any (p : ByteArray) (ys : List ByteArray) (z : ByteArray) (w : World) (hp : p.size ≤ 140737488355328) (hn : names p = some (ys ++ [z])) :
    Calls Tryz.prog 41 #[.string p] w fun e w' => e = .returned (.string (pathOf ys)) ∧ Ext w w' := by
  have hv := (ValN.of hn).1
  have hys := hv.left
  have HS : ∀ W, Calls Tryz.prog 24 #[.string p] W fun e w' => ∃ v, e = .returned (.tuple #[v, .bool true]) ∧ RdS w' v (ys ++ [z]) ∧ Ext W w' := fun W => (RSplit_any p hp W).mono fun e w' h => by
    rcases h with ⟨xs, v, h1, h2, h3, h4⟩ | ⟨h1, _⟩
    · rw [hn] at h1
      cases h1
      exact ⟨v, h2, h3, h4⟩
    · rw [hn] at h1
      cases h1
  have HJ := fun (v : Value) (W : World) (h : RdS W v ys) => RJoin_any v ys W h (fun x hx => nameB_size (List.all_eq_true.1 hys.1 x hx)) (by have := hys.2; omega)
  have HJh := Lib.hid HJ
  have hl6 := hys.2
  clear hv hys hn HJ
  go_enter Tryz.func41, Tryz.ntmps41
  go_upto_region 2 with (go_at_call 24; refine (HS _).mono ?_; rintro e W1 ⟨v1, rfl, hr1, hE1⟩)
  obtain ⟨m, hm⟩ : ∃ m, ys.length = m := ⟨_, rfl⟩
  obtain ⟨A, c, e, hc1, hc2, hc3, _⟩ := id hr1
  have hlen : (ys ++ [z]).length = m + 1 := by rw [List.length_append, List.length_singleton, hm]
  rw [hlen] at e hc1
  subst e
  have hleft := Rd.left hr1
  rw [hm] at hleft hl6
  have HL := Lib.hid hleft
  have hsub : IntKind.i64.wrap (((m + 1 : Nat) : Int) - 1) = (m : Int) := by
    have : (((m + 1 : Nat) : Int) - 1) = (m : Int) := by omega
    rw [this]
    exact IntWalk.i64_in _ ⟨by omega, by omega⟩
  have hmc : (m : Int) ≤ (c : Int) := by omega
  clear hr1 hleft hlen hm
  go_wp2_with (go_at_call 27; refine (HJh.out _ _ HL.out).mono ?_; rintro e W2 ⟨rfl, hE2⟩)
  go_ret
  exact ⟨rfl, hE1.trans hE2⟩

theorem data_empty (x : ByteArray) : x.toList.isEmpty = x.data.toList.isEmpty := by rw [toList_eq]

set_option maxHeartbeats 4000000 in
set_option maxRecDepth 20000 in
theorem REnt_any (x : Ent) (w : World) (hf : x.fits) :
    Calls Tryz.prog 39 #[.agg #[.string x.path, .int .i64 x.kind, .string x.data]] w fun e w' => e = .returned (.bool (entOk x)) ∧ Ext w w' := by
  have HS := fun W => RSplit_any x.path hf.1 W
  have hx := Blk.new w 54 #[.string x.path, .int .i64 x.kind, .string x.data]
  obtain ⟨⟨z0, _⟩, ⟨z1, _⟩, ⟨z2, _⟩⟩ := hx.three
  have Hx := Lib.hid hx
  have he : entOk x = (decide (1 ≤ deep x.path) && (if x.kind = 1 then decide (x.data.size ≤ 256) else (decide (2 ≤ x.kind) && decide (x.kind ≤ 4) && x.data.data.toList.isEmpty))) := rfl
  have hem := data_empty x.data
  rcases hn : names x.path with _ | xs
  · have hr : entOk x = false := by rw [he, deep, hn]; simp
    have HS2 : ∀ W, Calls Tryz.prog 24 #[.string x.path] W fun e w' => e = .returned (.tuple #[.slice none 0 0, .bool false]) ∧ Ext W w' := fun W => (HS W).mono fun e w' h => by
      rcases h with ⟨xs, v, h1, h2, h3, h4⟩ | ⟨_, h⟩
      · rw [hn] at h1; cases h1
      · exact h
    rw [hr]
    clear hr he hn HS hx
    go_enter Tryz.func39, Tryz.ntmps39
    go_wp2_with (go_at_call 24; refine (HS2 _).mono ?_; rintro e W1 ⟨rfl, hE1⟩)
    go_ret
    exact ⟨rfl, by exact (by repeat (first | exact Ext.refl _ | assumption | refine Ext.alloc ?_ _ | refine Ext.drew ?_ | refine Ext.drewN ?_ _ | refine Ext.setCell ?_ (by first | omega | (simp; done) | (simp; omega)) _ | refine Ext.trans ?_ (by assumption)))⟩
  · have HS2 : ∀ W, Calls Tryz.prog 24 #[.string x.path] W fun e w' => ∃ A c, e = .returned (.tuple #[.slice A xs.length c, .bool true]) ∧ Ext W w' := fun W => (HS W).mono fun e w' h => by
      rcases h with ⟨ys, v, h1, h2, h3, h4⟩ | ⟨h1, h⟩
      · rw [hn] at h1
        cases h1
        obtain ⟨A, c, rfl, _⟩ := h3
        exact ⟨A, c, h2, h4⟩
      · rw [hn] at h1; cases h1
    obtain ⟨n, hnl⟩ : ∃ n, xs.length = n := ⟨_, rfl⟩
    rw [hnl] at HS2
    have hd : deep x.path = n := by rw [deep, hn]; show ((xs.length : Nat) : Int) = _; rw [hnl]
    rw [hd] at he
    by_cases h0 : n = 0
    · have h0' : ((n : Int) == 0) = true := by rw [beq_iff_eq]; omega
      have hr : entOk x = false := by rw [he, decide_eq_false (by omega)]; rfl
      rw [hr]
      clear hr he hn HS hx hnl hd h0
      go_enter Tryz.func39, Tryz.ntmps39
      go_wp2_with (go_at_call 24; refine (HS2 _).mono ?_; rintro e W1 ⟨A, c, rfl, hE1⟩)
      go_ret
      exact ⟨rfl, by exact (by repeat (first | exact Ext.refl _ | assumption | refine Ext.alloc ?_ _ | refine Ext.drew ?_ | refine Ext.drewN ?_ _ | refine Ext.setCell ?_ (by first | omega | (simp; done) | (simp; omega)) _ | refine Ext.trans ?_ (by assumption)))⟩
    · have h0' : ((n : Int) == 0) = false := by rw [beq_eq_false_iff_ne]; omega
      rw [decide_eq_true (by omega), Bool.true_and] at he
      by_cases h1 : x.kind = 1
      · have h1' : (x.kind == 1) = true := by simpa using h1
        rw [if_pos h1] at he
        have He := Lib.hid he
        clear he hn HS hx hnl hd h0 h1
        go_enter Tryz.func39, Tryz.ntmps39
        go_wp2_with (go_at_call 24; refine (HS2 _).mono ?_; rintro e W1 ⟨A, c, rfl, hE1⟩; obtain ⟨⟨y0, _⟩, ⟨y1, _⟩, ⟨y2, _⟩⟩ := (Hx.out.ext hE1).three)
        go_ret
        exact ⟨by rw [He.out]; simp; omega, by exact (by repeat (first | exact Ext.refl _ | assumption | refine Ext.alloc ?_ _ | refine Ext.drew ?_ | refine Ext.drewN ?_ _ | refine Ext.setCell ?_ (by first | omega | (simp; done) | (simp; omega)) _ | refine Ext.trans ?_ (by assumption)))⟩
      · have h1' : (x.kind == 1) = false := by simpa using h1
        rw [if_neg h1] at he
        by_cases h2 : 2 ≤ x.kind
        · rw [decide_eq_true h2, Bool.true_and] at he
          by_cases h4 : x.kind ≤ 4
          · rw [decide_eq_true h4, Bool.true_and, ← hem] at he
            have He := Lib.hid he
            clear he hn HS hx hnl hd h0 h1 hem
            go_enter Tryz.func39, Tryz.ntmps39
            go_wp2_with (go_at_call 24; refine (HS2 _).mono ?_; rintro e W1 ⟨A, c, rfl, hE1⟩; obtain ⟨⟨y0, _⟩, ⟨y1, _⟩, ⟨y2, _⟩⟩ := (Hx.out.ext hE1).three)
            go_ret
            exact ⟨by rw [He.out]; rfl, by exact (by repeat (first | exact Ext.refl _ | assumption | refine Ext.alloc ?_ _ | refine Ext.drew ?_ | refine Ext.drewN ?_ _ | refine Ext.setCell ?_ (by first | omega | (simp; done) | (simp; omega)) _ | refine Ext.trans ?_ (by assumption)))⟩
          · rw [decide_eq_false h4, Bool.false_and] at he
            rw [he]
            clear he hn HS hx hnl hd h0 h1 hem
            go_enter Tryz.func39, Tryz.ntmps39
            go_wp2_with (go_at_call 24; refine (HS2 _).mono ?_; rintro e W1 ⟨A, c, rfl, hE1⟩; obtain ⟨⟨y0, _⟩, ⟨y1, _⟩, ⟨y2, _⟩⟩ := (Hx.out.ext hE1).three)
            go_ret
            exact ⟨rfl, by exact (by repeat (first | exact Ext.refl _ | assumption | refine Ext.alloc ?_ _ | refine Ext.drew ?_ | refine Ext.drewN ?_ _ | refine Ext.setCell ?_ (by first | omega | (simp; done) | (simp; omega)) _ | refine Ext.trans ?_ (by assumption)))⟩
        · rw [decide_eq_false h2, Bool.false_and, Bool.false_and] at he
          rw [he]
          clear he hn HS hx hnl hd h0 h1 hem
          go_enter Tryz.func39, Tryz.ntmps39
          go_wp2_with (go_at_call 24; refine (HS2 _).mono ?_; rintro e W1 ⟨A, c, rfl, hE1⟩; obtain ⟨⟨y0, _⟩, ⟨y1, _⟩, ⟨y2, _⟩⟩ := (Hx.out.ext hE1).three)
          go_ret
          exact ⟨rfl, by exact (by repeat (first | exact Ext.refl _ | assumption | refine Ext.alloc ?_ _ | refine Ext.drew ?_ | refine Ext.drewN ?_ _ | refine Ext.setCell ?_ (by first | omega | (simp; done) | (simp; omega)) _ | refine Ext.trans ?_ (by assumption)))⟩
end Go.Proofs.YthadldnojdjlnaaGreatDoor

/-! RLayer -/
namespace Go.Proofs.YthadldnojdjlnaaGreatDoor
open Go Go.RowKit Go.Shelf Go.Proofs

def RlRel (l : List Ent) (n : Nat) (w : World) (i : Value) (wr : World) : Prop :=
  ∃ k : Nat, i = .int .i64 k ∧ k ≤ n ∧ Hid (∀ (t : Nat) (h : t < l.length), t < k → okAt l t l[t] = true) ∧ Ext w wr
def RfRel (l : List Ent) (z : ByteArray) (i : Nat) (w : World) (v4 v5 : Value) (wr : World) : Prop :=
  ∃ (k : Nat) (b : Bool), v5 = .int .i64 k ∧ v4 = .bool b ∧ k ≤ i ∧ Hid (b = heldB l k z) ∧ Ext w wr

theorem rf_next {l : List Ent} {z : ByteArray} {i k : Nat} {w W : World} {b : Bool} (hlt : k < i) (h : b = heldB l (k + 1) z) (hE : Ext w W) :
    RfRel l z i w (.bool b) (.int .i64 ((k : Int) + 1)) W ∧ i - (intOf (.int .i64 ((k : Int) + 1))).toNat < i - (intOf (.int .i64 (k : Int))).toNat :=
  ⟨⟨k + 1, b, by simp, rfl, by omega, Lib.hid h, hE⟩, by simp [intOf]; omega⟩

theorem path_eqR (a p : ByteArray) : (a.toList == p.toList) = decide (a = p) := by
  rw [Bool.eq_iff_iff, beq_iff_eq, decide_eq_true_eq]
  exact ⟨fun h => data_inj (by rw [← toList_eq, h, toList_eq]), fun h => by rw [h]⟩

set_option maxHeartbeats 8000000 in
set_option maxRecDepth 20000 in
theorem RLayer_any (v : Value) (l : List Ent) (w : World) (hv : RdE w v l) :
    Calls Tryz.prog 23 #[v] w fun e w' => e = .returned (.bool (layerOk l)) ∧ Ext w w' := by
  obtain ⟨n, hn⟩ : ∃ n, n = l.length := ⟨_, rfl⟩
  have Hn := Lib.hid hn
  have hlen := Rd.len hv
  obtain ⟨A, c, rfl, hc1, hc2, Hcell⟩ := rdE_form hv hn
  rw [← hn] at hlen
  clear hn hv
  go_enter Tryz.func23, Tryz.ntmps23
  go_wp2
  go_loopw [3] (fun i wr => RlRel l n w i wr) (fun i _ => n - (intOf i).toNat)
  case atStart => exact ⟨0, rfl, Nat.zero_le _, Lib.hid (fun t _ ht => absurd ht (Nat.not_lt_zero t)), Ext.refl _⟩
  case round =>
    obtain ⟨k, rfl, hkn, hall, hE⟩ := hrel
    by_cases hlt : k < n
    · have hh : k < l.length := by have := Hn.out; omega
      obtain ⟨b, o, rfl, hcell⟩ := Hcell.out (List.ne_nil_of_length_pos (by omega))
      obtain ⟨q0, q1, q2, hf⟩ := hcell k hh
      obtain ⟨x, hx⟩ : ∃ x, l[k]'hh = x := ⟨_, rfl⟩
      rw [hx] at q0 q1 q2 hf
      have g0 := hE.cell q0
      have g1 := hE.cell q1
      have g2 := hE.cell q2
      have g0' := fun d os => cell_regrown g0 d os
      have g1' := fun d os => cell_regrown g1 d os
      have g2' := fun d os => cell_regrown g2 d os
      have Hx := Lib.hid hx
      have HR := fun W => REnt_any x W hf
      have Hbad : Hid (okAt l k x = false → layerOk l = false) := Lib.hid fun h => layerOk_not hh (by rw [hx]; exact h)
      have Hbad2 : Hid (headOk l k x = false → layerOk l = false) := Lib.hid fun h => Hbad.out (okAt_bad h)
      have hk63 : (k : Int) ≤ 140737488355328 := by omega
      clear q0 q1 q2 hx
      go_upto_region 4 with (fail)
      -- whether the entry is one, and stands behind the one ahead of it
      go_cut [36] (fun s36 wx => s36 = .bool (!headOk l k x) ∧ Ext wr wx)
      case first =>
        rcases hok : entOk x with _ | _
        · have hhd : headOk l k x = false := by unfold headOk; rw [hok]; simp
          rw [hok] at HR
          have Hh := Lib.hid hhd
          clear hok hhd
          (refine wp_region_quiet_below (by kernel_rfl) (by kernel_rfl) ?_; (repeat (go_big_quiet_step ((go_at_call 39; exact Calls.regrown_of (HR _))))); refine wpQuiet_nil ?_; intro _ hq; obtain ⟨⟨dq, osq⟩, hq2⟩ := hq; subst hq2)
          go_wp2
          go_meet
          exact ⟨by first | (rw [Hh.out]; done) | (rw [Hh.out]; rfl), below_regrown wr dq osq⟩
        · rw [hok] at HR
          rcases k with _ | j
          · have hhd : headOk l 0 x = true := by rw [headOk_zero, hok]
            simp only [Nat.zero_mul, Nat.add_zero] at g0' g1' g2'
            have Hh := Lib.hid hhd
            clear hok hhd
            (refine wp_region_quiet_below (by kernel_rfl) (by kernel_rfl) ?_; (repeat (go_big_quiet_step ((go_at_call 39; exact Calls.regrown_of (HR _))))); refine wpQuiet_nil ?_; intro _ hq; obtain ⟨⟨dq, osq⟩, hq2⟩ := hq; subst hq2)
            go_wp2
            go_meet
            exact ⟨by first | (rw [Hh.out]; done) | (rw [Hh.out]; rfl), below_regrown wr dq osq⟩
          · have hj : j < l.length := by omega
            have hhd : headOk l (j + 1) x = lt l[j].path x.path := by rw [headOk_succ hj, hok, Bool.true_and]
            obtain ⟨q0, q1, q2, hfj⟩ := hcell j hj
            obtain ⟨y, hy⟩ : ∃ y, l[j]'hj = y := ⟨_, rfl⟩
            rw [hy] at q0 q1 q2 hhd hfj
            have y0' := fun d os => cell_regrown (hE.cell q0) d os
            have HL := fun W => RLess_any y.path x.path W hfj.1 hf.1
            have Hh := Lib.hid hhd
            clear hok hhd q0 q1 q2 hy hfj
            have hsub : IntKind.i64.wrap ((↑(j + 1) : Int) - 1) = (j : Int) := by
              have : ((↑(j + 1) : Int) - 1) = (j : Int) := by omega
              rw [this]
              exact IntWalk.i64_in _ ⟨by omega, by omega⟩
            have hjn : j < n := by omega
            (refine wp_region_quiet_below (by kernel_rfl) (by kernel_rfl) ?_; (repeat (go_big_quiet_step ((first | (go_at_call 39; exact Calls.regrown_of (HR _)) | (go_at_call 40; exact Calls.regrown_of (HL _)))))); refine wpQuiet_nil ?_; intro _ hq; obtain ⟨⟨dq, osq⟩, hq2⟩ := hq; subst hq2)
            go_wp2
            go_meet
            exact ⟨by first | (rw [Hh.out]; done) | (rw [Hh.out]; rfl), below_regrown wr dq osq⟩
      case rest =>
        obtain ⟨rfl, hE2⟩ := hcut
        rcases hhd : headOk l k x with _ | _
        · have Hb := Lib.hid (Hbad2.out hhd)
          clear hhd hcell
          go_wp2
          all_goals (try contradiction)
          go_ret
          exact ⟨by rw [Hb.out]; rfl, hE.trans hE2⟩
        · have Hhd := Lib.hid hhd
          obtain ⟨ys, z, hnm, hdp⟩ := entOk_names (headOk_ent hhd)
          have HP := fun W => RParent_any x.path ys z W hf.1 hnm
          have hre := root_eq (pathOf ys)
          have Hdp := Lib.hid hdp
          have Hnm := Lib.hid hnm
          obtain ⟨q, hq⟩ : ∃ q, pathOf ys = q := ⟨_, rfl⟩
          rw [hq] at HP hre
          have Hq : Hid (dirOf x.path = q) := Lib.hid (hdp.trans hq)
          obtain ⟨b0, hb0⟩ : ∃ b0, decide (q = (⟨#[47]⟩ : ByteArray)) = b0 := ⟨_, rfl⟩
          rw [hb0] at hre
          have Hb0 := Lib.hid hb0
          have d0 := hE2.cell g0
          clear hhd hdp hnm hq hb0 g0' g1' g2' g0 g1 g2
          go_upto_region 8 with (go_at_call 41; (with_reducible refine (HP _).mono ?_); rintro e W3 ⟨rfl, hE3⟩)
          have hE23 : Ext w W3 := hE.trans (hE2.trans (by exact (by repeat (first | exact Ext.refl _ | assumption | refine Ext.alloc ?_ _ | refine Ext.drew ?_ | refine Ext.drewN ?_ _ | refine Ext.setCell ?_ (by first | omega | (simp; done) | (simp; omega)) _ | refine Ext.trans ?_ (by assumption)))))
          go_loopw [4, 5] (fun v4 v5 wr => RfRel l q k W3 v4 v5 wr) (fun _ v5 _ => k - (intOf v5).toNat)
          case atStart => exact ⟨0, b0, rfl, rfl, Nat.zero_le _, Lib.hid (by rw [heldB, Hb0.out]; simp), Ext.refl _⟩
          case round =>
            obtain ⟨j, bb, rfl, rfl, hjk, hbb, hE4⟩ := hrel
            by_cases hjlt : j < k
            · have hj : j < l.length := by omega
              have hjn : j < n := by omega
              obtain ⟨p0, p1, p2, hfj⟩ := hcell j hj
              obtain ⟨r0, r1, r2, _⟩ := hcell k hh
              rw [Hx.out] at r0 r1 r2
              obtain ⟨y, hy⟩ : ∃ y, l[j]'hj = y := ⟨_, rfl⟩
              rw [hy] at p0 p1 p2
              have y0' := fun d os => cell_regrown ((hE23.trans hE4).cell p0) d os
              have y1' := fun d os => cell_regrown ((hE23.trans hE4).cell p1) d os
              have x0' := fun d os => cell_regrown ((hE23.trans hE4).cell r0) d os
              have hsucc : heldB l (j + 1) q = (bb || (decide (y.path = q) && holds y)) := by rw [heldB_succ hj, ← hbb.out, hy]
              have hpe := path_eqR y.path q
              obtain ⟨e1, he1⟩ : ∃ e1, decide (y.path = q) = e1 := ⟨_, rfl⟩
              rw [he1] at hsucc hpe
              obtain ⟨k2, hk2⟩ : ∃ k2, (y.kind == 2) = k2 := ⟨_, rfl⟩
              obtain ⟨k4, hk4⟩ : ∃ k4, (y.kind == 4) = k4 := ⟨_, rfl⟩
              have hho : holds y = (k2 || k4) := by rw [holds, hk2, hk4]
              rw [hho] at hsucc
              have Hsucc := Lib.hid hsucc
              clear p0 p1 p2 r0 r1 r2 hy he1 hho hsucc hfj
              go_upto_region 10 with (fail)
              rcases bb with _ | _
              · rcases e1 with _ | _
                · (refine wp_region_quiet_below (by kernel_rfl) (by kernel_rfl) ?_; (repeat (go_big_quiet_step ((go_at_call 41; exact Calls.regrown_of (HP _))))); refine wpQuiet_nil ?_; intro _ hq; obtain ⟨⟨dq, osq⟩, hq2⟩ := hq; subst hq2)
                  have hE5 := below_regrown wr dq osq
                  go_wp2
                  exact rf_next hjlt (by rw [Hsucc.out]; rfl) (hE4.trans hE5)
                · rcases k2 with _ | _
                  · rcases k4 with _ | _
                    · (refine wp_region_quiet_below (by kernel_rfl) (by kernel_rfl) ?_; (repeat (go_big_quiet_step ((go_at_call 41; exact Calls.regrown_of (HP _))))); refine wpQuiet_nil ?_; intro _ hq; obtain ⟨⟨dq, osq⟩, hq2⟩ := hq; subst hq2)
                      have hE5 := below_regrown wr dq osq
                      go_wp2
                      exact rf_next hjlt (by rw [Hsucc.out]; rfl) (hE4.trans hE5)
                    · (refine wp_region_quiet_below (by kernel_rfl) (by kernel_rfl) ?_; (repeat (go_big_quiet_step ((go_at_call 41; exact Calls.regrown_of (HP _))))); refine wpQuiet_nil ?_; intro _ hq; obtain ⟨⟨dq, osq⟩, hq2⟩ := hq; subst hq2)
                      have hE5 := below_regrown wr dq osq
                      go_wp2
                      exact rf_next hjlt (by rw [Hsucc.out]; rfl) (hE4.trans hE5)
                  · (refine wp_region_quiet_below (by kernel_rfl) (by kernel_rfl) ?_; (repeat (go_big_quiet_step ((go_at_call 41; exact Calls.regrown_of (HP _))))); refine wpQuiet_nil ?_; intro _ hq; obtain ⟨⟨dq, osq⟩, hq2⟩ := hq; subst hq2)
                    have hE5 := below_regrown wr dq osq
                    go_wp2
                    exact rf_next hjlt (by rw [Hsucc.out]; rfl) (hE4.trans hE5)
              · (refine wp_region_quiet_below (by kernel_rfl) (by kernel_rfl) ?_; (repeat (go_big_quiet_step ((go_at_call 41; exact Calls.regrown_of (HP _))))); refine wpQuiet_nil ?_; intro _ hq; obtain ⟨⟨dq, osq⟩, hq2⟩ := hq; subst hq2)
                have hE5 := below_regrown wr dq osq
                go_wp2
                exact rf_next hjlt (by rw [Hsucc.out]; rfl) (hE4.trans hE5)
            · have hjk2 : j = k := by omega
              have hdk : bb = dirOk l k x := by rw [hbb.out, hjk2, ← Hq.out, heldB_dir]
              rcases bb with _ | _
              · have Hb := Lib.hid (Hbad.out (by rw [okAt, ← hdk, Bool.and_false]))
                clear hdk hbb hcell
                go_wp2
                go_ret
                exact ⟨by rw [Hb.out]; rfl, hE23.trans hE4⟩
              · have hok : okAt l k x = true := by rw [okAt, Hhd.out, ← hdk]; rfl
                have Hnx : Hid (RlRel l n w (.int .i64 ((k : Int) + 1)) wr ∧ n - (intOf (.int .i64 ((k : Int) + 1))).toNat < n - (intOf (.int .i64 (k : Int))).toNat) := Lib.hid (round_ok (hE23.trans hE4) hkn hlt Hx hok hall)
                clear hdk hbb hcell hok
                go_wp2
                exact Hnx.out
    · have hkn' : k = n := by omega
      have hall2 := hall.out
      by_cases h64 : n ≤ 64
      · have h64' : (n : Int) ≤ 64 := by omega
        have hok : layerOk l = true := layerOk_of (by have := Hn.out; omega) fun t ht => hall2 t ht (by have := Hn.out; omega)
        have Hok := Lib.hid hok
        clear hok hall2
        go_wp2
        go_ret
        exact ⟨by rw [Hok.out]; rfl, hE⟩
      · have h64' : ¬ (n : Int) ≤ 64 := by omega
        have hok : layerOk l = false := layerOk_long (by have := Hn.out; omega)
        have Hok := Lib.hid hok
        clear hok hall2
        go_wp2
        go_ret
        exact ⟨by rw [Hok.out]; rfl, hE⟩

set_option maxHeartbeats 4000000 in
set_option maxRecDepth 20000 in
theorem RStack_any (v : Value) (s : List (List Ent)) (w : World) (hv : RdK w v s) :
    Calls Tryz.prog 13 #[v] w fun e w' => e = .returned (.bool (stackOk s)) ∧ Ext w w' := by
  obtain ⟨n, hn⟩ : ∃ n, n = s.length := ⟨_, rfl⟩
  have Hn := Lib.hid hn
  have hlen := Rd.len hv
  obtain ⟨A, c, rfl, hc1, hc2, Hcell⟩ := RdK.form hv hn
  rw [← hn] at hlen
  clear hn hv
  go_enter Tryz.func13, Tryz.ntmps13
  go_wp2
  go_loopw [3] (fun i wr => ∃ k : Nat, i = .int .i64 k ∧ k ≤ n ∧ Hid (∀ (t : Nat) (h : t < s.length), t < k → layerOk s[t] = true) ∧ Ext w wr) (fun i _ => n - (intOf i).toNat)
  case atStart => exact ⟨0, rfl, by omega, Lib.hid (fun t _ ht => absurd ht (Nat.not_lt_zero t)), Ext.refl _⟩
  case round =>
    obtain ⟨k, rfl, hkn, hall, hE⟩ := hrel
    by_cases hlt : k < n
    · have hh : k < s.length := by have := Hn.out; omega
      obtain ⟨b, o, rfl, hcell⟩ := Hcell.out (List.ne_nil_of_length_pos (by omega))
      obtain ⟨u, q0, hu⟩ := hcell k hh
      have g0 := hE.cell q0
      have HR := RLayer_any u s[k] wr (hu.ext hE)
      clear q0 hu hcell
      rcases hl : layerOk s[k] with _ | _
      · have hbad : stackOk s = false := by
          rw [stackOk, Bool.and_eq_false_iff]
          exact .inr (List.all_eq_false.2 ⟨_, List.getElem_mem hh, by simp [hl]⟩)
        have Hbad := Lib.hid hbad
        rw [hl] at HR
        clear hl hbad
        go_wp2_with (go_at_call 23; refine HR.mono ?_; rintro e W2 ⟨rfl, hE2⟩)
        go_ret
        exact ⟨by rw [Hbad.out]; rfl, hE.trans hE2⟩
      · rw [hl] at HR
        go_wp2_with (go_at_call 23; refine HR.mono ?_; rintro e W2 ⟨rfl, hE2⟩)
        refine ⟨⟨k + 1, by simp, by omega, Lib.hid fun t ht htk => ?_, hE.trans hE2⟩, by simp [intOf]; omega⟩
        by_cases e : t = k
        · subst e
          exact hl
        · exact hall.out t ht (by omega)
    · have hkn' : k = n := by omega
      have hok : stackOk s = decide ((n : Int) ≤ 9) := by
        have h1 : s.all layerOk = true := List.all_eq_true.2 fun l hl => by
          obtain ⟨t, ht, rfl⟩ := List.getElem_of_mem hl
          exact hall.out t ht (by have := Hn.out; omega)
        rw [stackOk, h1, Bool.and_true, ← Hn.out, Bool.eq_iff_iff, decide_eq_true_eq, decide_eq_true_eq]
        omega
      have Hok := Lib.hid hok
      clear hok
      go_wp2
      go_ret
      exact ⟨by rw [Hok.out]; rfl, hE⟩
end Go.Proofs.YthadldnojdjlnaaGreatDoor

/-! EntW -/
namespace Go.Proofs.YthadldnojdjlnaaGreatDoor
open Go Go.RowKit Go.Shelf Go.Proofs Go.Sort

def Ent.cells (x : Ent) : List Value := [.string x.path, .int .i64 x.kind, .string x.data]
/-- The cells of entries. -/
def flatE (l : List Ent) : List Value := l.flatMap Ent.cells

theorem ents_cells (xs : List Ent) (j : Nat) (x : Ent) (hj : xs[j]? = some x) : ∀ (i : Nat) u, x.cells[i]? = some u → (flatE xs)[j * 3 + i]? = some u := by
  induction xs generalizing j with
  | nil => simp at hj
  | cons y ys ih =>
    intro i u hi
    rw [flatE, List.flatMap_cons]
    have hy : y.cells.length = 3 := rfl
    have hi3 : i < 3 := (List.getElem?_eq_some_iff.1 hi).1
    rcases j with _ | j
    · simp at hj
      subst hj
      rw [List.getElem?_append_left (by omega)]
      simpa using hi
    · rw [List.getElem?_append_right (by omega), hy, show (j + 1) * 3 + i - 3 = j * 3 + i by omega]
      exact ih j (by simpa using hj) i u hi
theorem ents_length (xs : List Ent) : (flatE xs).length = xs.length * 3 := by
  induction xs with
  | nil => rfl
  | cons x xs ih =>
    rw [flatE] at ih ⊢
    rw [List.flatMap_cons, List.length_append, ih, List.length_cons]
    show 3 + _ = _
    omega
theorem ents_one (xs : List Ent) : ∀ u ∈ flatE xs, u.oneCell' = true := by
  intro u hu
  obtain ⟨x, _, hx⟩ := List.mem_flatMap.1 hu
  simp [Ent.cells] at hx
  rcases hx with rfl | rfl | rfl <;> rfl
theorem ents_at (xs : List Ent) (k : Nat) (u : Value) (hk : (flatE xs)[k]? = some u) : ∃ j x i, xs[j]? = some x ∧ x.cells[i]? = some u ∧ k = j * 3 + i := by
  induction xs generalizing k with
  | nil => simp [flatE] at hk
  | cons y ys ih =>
    rw [flatE, List.flatMap_cons] at hk
    have hy : y.cells.length = 3 := rfl
    rcases Nat.lt_or_ge k 3 with h | h
    · rw [List.getElem?_append_left (by omega)] at hk
      exact ⟨0, y, k, rfl, hk, by omega⟩
    · rw [List.getElem?_append_right (by omega), hy] at hk
      obtain ⟨j, x, i, h1, h2, h3⟩ := ih (k - 3) hk
      exact ⟨j + 1, x, i, by simpa using h1, h2, by omega⟩

theorem info_ent : (Tryz.prog.info? 54).map (fun i => (i.zero, i.size, i.bytes)) = some (some (.agg #[.string ⟨#[]⟩, .int .i64 0, .string ⟨#[]⟩]), 3, 40) := by kernel_rfl

theorem RdE.of_own {w : World} {base e : Nat} {v : Value} {xs : List Ent} (h : w.ownsRow base e 3 v xs.length (flatE xs)) (hl : xs.length ≤ 1000000000) (hf : ∀ x ∈ xs, x.fits) : RdE w v xs :=
  Rd.of_own h (by omega) fun j x hj => ⟨x.cells, ⟨rfl, hf x (List.mem_of_getElem? hj)⟩, ents_cells xs j x hj⟩
theorem RdE.fits {w : World} {v : Value} {xs : List Ent} (h : RdE w v xs) : ∀ x ∈ xs, x.fits := by
  intro x hx
  obtain ⟨j, hj, rfl⟩ := List.getElem_of_mem hx
  obtain ⟨b, o, c, _, _, _, hc⟩ := RdE.open_ h (List.ne_nil_of_mem hx)
  exact (hc j hj).2.2.2

variable {xs : List Ent} {x : Ent}
theorem flatI_snoc : flatE (xs ++ [x]) = flatE xs ++ [.string x.path, .int .i64 x.kind, .string x.data] := by simp [flatE, Ent.cells]
end Go.Proofs.YthadldnojdjlnaaGreatDoor

/-! FoldW -/
namespace Go.Proofs.YthadldnojdjlnaaGreatDoor
open Go Go.RowKit Go.Shelf Go.Proofs

/-- What stays of a tree. -/
def stayT (l : List Ent) (e : Ent) : List Ent := l.filter fun x => !goesB e x

theorem rising_over {t : List Ent} (hr : Rising t) : ∀ l : List Ent, Rising (overT t l) := fun l => by
  induction l generalizing t with
  | nil => exact hr
  | cons e l ih => exact ih (rising_one_ t hr e)

theorem mem_fits {t : List Ent} (h : MemT t) : ∀ x ∈ t, x.fits := fun x hx => entOk_fits (h x hx).1

theorem path_size {e : Ent} (h : entOk e = true) : e.path.size ≤ 55 := by
  obtain ⟨ys, z, _, _, h3, h4, h5, h6⟩ := ent_names h
  rw [h6]
  exact pathOf_size (by rw [List.all_append, h3]; simpa using h4) (by rw [List.length_append, List.length_singleton]; omega)

def RdAns (l : List Ent) (w : World) (e : Ending) (w' : World) : Prop := ∃ v, e = .returned v ∧ RdE w' v l ∧ Ext w w'

end Go.Proofs.YthadldnojdjlnaaGreatDoor

/-! RFold -/
namespace Go.Proofs.YthadldnojdjlnaaGreatDoor
open Go Go.RowKit Go.Shelf Go.Proofs

theorem under_pre {p q : ByteArray} {xs ys : List ByteArray} (hp : names p = some xs) (hq : names q = some ys) (h0 : ys ≠ []) : underB p q = Lib.hasPrefix p.data.toList (q.data.toList ++ [47]) := by
  have hroot := names_ne_root hq h0
  rcases hpre : Lib.hasPrefix p.data.toList (q.data.toList ++ [47]) with _ | _
  · rw [under_is, hpre, decide_eq_false hroot]
    simp
  · obtain ⟨vx, ex⟩ := ValN.of hp
    obtain ⟨vy, ey⟩ := ValN.of hq
    have hpre2 := hpre
    rw [Lib.hasPrefix, List.isPrefixOf_iff_prefix] at hpre
    obtain ⟨r, hr⟩ := hpre
    have hx : xs ≠ [] := by
      rintro rfl
      rw [← ex, ← ey, data_pathOf h0] at hr
      have := congrArg List.length hr
      simp [pathOf] at this
    have hnx : ∀ x ∈ xs.map (·.data.toList), ∀ b ∈ x, b ≠ 47 := by
      intro x hx2
      obtain ⟨y, hy2, rfl⟩ := List.mem_map.1 hx2
      exact nameOk_no (List.all_eq_true.1 vx.1 y hy2)
    have hny : ∀ x ∈ ys.map (·.data.toList), ∀ b ∈ x, b ≠ 47 := by
      intro x hx2
      obtain ⟨y, hy2, rfl⟩ := List.mem_map.1 hx2
      exact nameOk_no (List.all_eq_true.1 vy.1 y hy2)
    have hr2 := hr
    rw [← ex, ← ey, data_pathOf hx, data_pathOf h0, List.append_assoc, List.cons_append, List.cons.injEq, List.singleton_append] at hr2
    have h3 := segs_join _ (by simpa using hx) hnx
    have h4 := segs_join _ (by simpa using h0) hny
    rw [← hr2.2, segs_append, h4] at h3
    have h5 := congrArg List.length h3
    rw [List.length_append, List.length_map, List.length_map] at h5
    have h6 := List.length_pos_iff.2 (segs_ne 47 r)
    rw [under_is, hpre2, deep, deep, hp, hq, decide_eq_true (by show (0 : Int) ≤ ((ys.length : Nat) : Int); omega), decide_eq_true (by show ((ys.length : Nat) : Int) < ((xs.length : Nat) : Int); omega)]
    simp

set_option maxHeartbeats 4000000 in
theorem RUnder_any (p q : ByteArray) (w : World) (_hp : p.size ≤ 140737488355328) (hq : q.size ≤ 70368744177664) :
    Calls Tryz.prog 56 #[.string p, .string q] w fun e w' => e = .returned (.bool (Lib.hasPrefix p.data.toList (q.data.toList ++ [47]))) ∧ w' = w := by
  have lp : p.data.toList.length = p.size := Array.length_toList
  have lq : q.data.toList.length = q.size := Array.length_toList
  by_cases hl : q.size < p.size
  · have hl' : (q.size : Int) < (p.size : Int) := by omega
    have hqs : (q ++ (⟨#[47]⟩ : ByteArray)).size = q.size + 1 := by simp [ByteArray.size_append]; rfl
    have hw1 : IntKind.i64.wrap ((q.size : Int) + 1) = (q.size : Int) + 1 := by rw [IntKind.wrap_i64]; omega
    have htn : ((q.size : Int) + 1).toNat = q.size + 1 := by omega
    have hb1 : (0 : Int) ≤ (q.size : Int) + 1 := by omega
    have hb2 : (q.size : Int) + 1 ≤ (p.size : Int) := by omega
    have heq : ((p.extract 0 (q.size + 1)).toList == (q ++ (⟨#[47]⟩ : ByteArray)).toList) = Lib.hasPrefix p.data.toList (q.data.toList ++ [47]) := by
      rw [Bool.eq_iff_iff, beq_iff_eq, toList_eq, toList_eq, Lib.extract_data, Lib.hasPrefix, List.isPrefixOf_iff_prefix, List.drop_zero, Nat.sub_zero]
      have e0 : (q ++ (⟨#[47]⟩ : ByteArray)).data.toList = q.data.toList ++ [47] := by simp
      rw [e0]
      constructor
      · intro h
        exact ⟨p.data.toList.drop (q.size + 1), by rw [← h, List.take_append_drop]⟩
      · rintro ⟨r, h⟩
        rw [← h, List.take_append_of_le_length (by simp), List.take_of_length_le (by simp)]
    obtain ⟨r, hr⟩ : ∃ r, Lib.hasPrefix p.data.toList (q.data.toList ++ [47]) = r := ⟨_, rfl⟩
    rw [hr] at heq ⊢
    clear hl hr lp lq
    go_enter Tryz.func56, Tryz.ntmps56
    go_wp2
    go_ret
    exact ⟨by first | rfl | simp, rfl⟩
  · have hl' : ¬ (q.size : Int) < (p.size : Int) := by omega
    have hr : Lib.hasPrefix p.data.toList (q.data.toList ++ [47]) = false := by
      rcases h : Lib.hasPrefix p.data.toList (q.data.toList ++ [47]) with _ | _
      · rfl
      · rw [Lib.hasPrefix, List.isPrefixOf_iff_prefix] at h
        obtain ⟨r, h⟩ := h
        have := congrArg List.length h
        simp at this
        omega
    rw [hr]
    clear hr lp lq hl
    go_enter Tryz.func56, Tryz.ntmps56
    go_wp2
    go_ret
    exact ⟨by first | rfl | simp, rfl⟩

/-! ### With -/

def doneW (l : List Ent) (p : ByteArray) (i : Nat) : Bool := (l.take i).any fun x => !lt x.path p
def rowW (l : List Ent) (e : Ent) (i : Nat) : List Ent := if doneW l e.path i = true then insT (l.take i) e else l.take i

theorem take_rising {l : List Ent} (h : Rising l) (i : Nat) : Rising (l.take i) := List.Pairwise.sublist (List.take_sublist i l) h

theorem notdone {l : List Ent} {p : ByteArray} {i : Nat} (h : doneW l p i = false) : ∀ x ∈ l.take i, lt x.path p = true := by
  intro x hx
  rw [doneW, List.any_eq_false] at h
  simpa using h x hx

theorem doneW_succ {l : List Ent} {p : ByteArray} {i : Nat} (hh : i < l.length) : doneW l p (i + 1) = (doneW l p i || !lt l[i].path p) := by
  rw [doneW, ← List.take_append_getElem hh, List.any_append, ← doneW]
  simp

theorem ins_low {t : List Ent} {e : Ent} (h : ∀ x ∈ t, lt x.path e.path = true) : insT t e = t ++ [e] := by
  rw [insT, List.filter_eq_self.2 h, List.filter_eq_nil_iff.2]
  intro x hx
  rw [lt_asymm (h x hx)]
  simp

theorem ins_snoc {t : List Ent} {e x : Ent} (h : lt e.path x.path = true) : insT (t ++ [x]) e = insT t e ++ [x] := by
  rw [insT, insT, List.filter_append, List.filter_append]
  simp [h, lt_asymm h]
theorem ins_same {t : List Ent} {e x : Ent} (h : x.path = e.path) : insT (t ++ [x]) e = insT t e := by
  rw [insT, insT, List.filter_append, List.filter_append]
  simp [h, lt_irrefl]

/-- One entry more. -/
theorem rowW_less {l : List Ent} {e : Ent} {i : Nat} (hh : i < l.length) (hd : doneW l e.path i = false) (h : lt l[i].path e.path = true) : doneW l e.path (i + 1) = false ∧ rowW l e (i + 1) = rowW l e i ++ [l[i]] := by
  have h1 : doneW l e.path (i + 1) = false := by rw [doneW_succ hh, hd, h]; rfl
  refine ⟨h1, ?_⟩
  rw [rowW, rowW, h1, hd, if_neg (by simp), if_neg (by simp), List.take_append_getElem hh]
theorem rowW_same {l : List Ent} {e : Ent} {i : Nat} (hh : i < l.length) (hd : doneW l e.path i = false) (h : l[i].path = e.path) : doneW l e.path (i + 1) = true ∧ rowW l e (i + 1) = rowW l e i ++ [e] := by
  have h1 : doneW l e.path (i + 1) = true := by rw [doneW_succ hh, hd, h, lt_irrefl]; rfl
  refine ⟨h1, ?_⟩
  rw [rowW, rowW, h1, hd, if_pos rfl, if_neg (by simp), ← List.take_append_getElem hh, ins_same h, ins_low (notdone hd)]
theorem rowW_more {l : List Ent} {e : Ent} {i : Nat} (hh : i < l.length) (hd : doneW l e.path i = false) (h : lt e.path l[i].path = true) : doneW l e.path (i + 1) = true ∧ rowW l e (i + 1) = rowW l e i ++ [e] ++ [l[i]] := by
  have h1 : doneW l e.path (i + 1) = true := by rw [doneW_succ hh, hd, lt_asymm h]; rfl
  refine ⟨h1, ?_⟩
  rw [rowW, rowW, h1, hd, if_pos rfl, if_neg (by simp), ← List.take_append_getElem hh, ins_snoc h, ins_low (notdone hd)]
theorem rowW_done {l : List Ent} {e : Ent} {i : Nat} (hr : Rising l) (hh : i < l.length) (hd : doneW l e.path i = true) : doneW l e.path (i + 1) = true ∧ rowW l e (i + 1) = rowW l e i ++ [l[i]] ∧ lt e.path l[i].path = true := by
  have h1 : doneW l e.path (i + 1) = true := by rw [doneW_succ hh, hd]; rfl
  have h2 : lt e.path l[i].path = true := by
    rw [doneW, List.any_eq_true] at hd
    obtain ⟨y, hy, h3⟩ := hd
    obtain ⟨j, hj, rfl⟩ := List.getElem_of_mem hy
    rw [List.length_take] at hj
    rw [List.getElem_take] at h3
    have h4 := hr.at_ (show j < i by omega) hh
    have h5 : lt l[j].path e.path = false := by simpa using h3
    rcases h6 : lt e.path l[i].path with _ | _
    · rcases h7 : lt e.path l[j].path with _ | _
      · rw [lt_total h5 h7] at h4
        rw [h4] at h6
        cases h6
      · rw [lt_trans h7 h4] at h6
        cases h6
    · rfl
  refine ⟨h1, ?_, h2⟩
  rw [rowW, rowW, h1, hd, if_pos rfl, if_pos rfl, ← List.take_append_getElem hh, ins_snoc h2]
theorem rowW_end {l : List Ent} {e : Ent} {i : Nat} (hi : l.length ≤ i) : (doneW l e.path i = true → rowW l e i = insT l e) ∧ (doneW l e.path i = false → rowW l e i ++ [e] = insT l e) := by
  have ht : l.take i = l := List.take_of_length_le hi
  constructor
  · intro h
    rw [rowW, if_pos h, ht]
  · intro h
    have h2 := notdone h
    rw [rowW, h, if_neg (by simp), ht]
    rw [ht] at h2
    exact (ins_low h2).symm
theorem rowW_len (l : List Ent) (e : Ent) (i : Nat) : (rowW l e i).length ≤ l.length + 1 := by
  rw [rowW]
  split
  · rw [insT_len]
    have := delT_len (l.take i) e.path
    rw [List.length_take] at this
    omega
  · rw [List.length_take]
    omega

def WtRel (l : List Ent) (e : Ent) (n : Nat) (w : World) (v5 v6 v7 : Value) (wr : World) : Prop :=
  ∃ (k : Nat) (d : Bool), v7 = .int .i64 k ∧ v6 = .bool d ∧ k ≤ n ∧ Hid (d = doneW l e.path k) ∧ wr.ownsRow w.heap.size 54 3 v5 (rowW l e k).length (flatE (rowW l e k)) ∧ Ext w wr

theorem wt_next {l : List Ent} {e : Ent} {n k : Nat} {w W : World} {v5 : Value} {d : Bool} {r : List Ent} (hlt : k < n) (hd : doneW l e.path (k + 1) = d) (hr : rowW l e (k + 1) = r) (hrow : W.ownsRow w.heap.size 54 3 v5 r.length (flatE r)) (hE : Ext w W) :
    WtRel l e n w v5 (.bool d) (.int .i64 ((k : Int) + 1)) W ∧ n - (intOf (.int .i64 ((k : Int) + 1))).toNat < n - (intOf (.int .i64 (k : Int))).toNat :=
  ⟨⟨k + 1, d, by simp, rfl, by omega, Lib.hid hd.symm, by rw [hr]; exact hrow, hE⟩, by simp [intOf]; omega⟩

theorem row_put {w : World} {base m : Nat} {v : Value} {r : List Ent} {x : Ent} (hm : r.length = m) (h : w.ownsRow base 54 3 v (m + 1) (flatE r ++ [.string x.path, .int .i64 x.kind, .string x.data])) : w.ownsRow base 54 3 v (r ++ [x]).length (flatE (r ++ [x])) := by
  rw [List.length_append, List.length_singleton, hm, flatI_snoc]
  exact h

set_option maxHeartbeats 8000000 in
set_option maxRecDepth 20000 in
theorem RWith_any (v : Value) (l : List Ent) (e : Ent) (w : World) (hv : RdE w v l) (hr : Rising l) (he : e.fits) (hl : l.length ≤ 100000) :
    Calls Tryz.prog 57 #[v, .agg #[.string e.path, .int .i64 e.kind, .string e.data]] w (RdAns (insT l e) w) := by
  have hfits := RdE.fits hv
  obtain ⟨i0, hi, hz0, hz1, hz2⟩ := info_parts info_ent
  obtain ⟨n, hn⟩ : ∃ n, n = l.length := ⟨_, rfl⟩
  have Hn := Lib.hid hn
  obtain ⟨A, c, rfl, hc1, hc2, Hcell⟩ := rdE_form hv hn
  rw [← hn] at hl
  have Hr := Lib.hid hr
  have Hf := Lib.hid hfits
  have He := Lib.hid he
  have hB := Blk.new w 54 #[.string e.path, .int .i64 e.kind, .string e.data]
  have hE0 : Ext w (w.alloc (.cells #[.string e.path, .int .i64 e.kind, .string e.data] 54)) := (Ext.refl w).alloc _
  clear hn hv hr hfits he
  go_enter Tryz.func57, Tryz.ntmps57
  go_upto_region 4 with (fail)
  obtain ⟨eb, heb⟩ : ∃ eb, w.heap.size = eb := ⟨_, rfl⟩
  have heb2 : w.heap.size ≤ eb := by omega
  rw [heb] at hB
  rw [heb]
  have Heb := Lib.hid heb
  clear heb
  generalize w.alloc (.cells #[.string e.path, .int .i64 e.kind, .string e.data] 54) = W1 at hB hE0 ⊢
  have hebl := hB.lt
  go_loopw [5, 6, 7] (fun v5 v6 v7 wr => WtRel l e n W1 v5 v6 v7 wr) (fun _ _ v7 _ => n - (intOf v7).toNat)
  case atStart => exact ⟨0, false, rfl, rfl, Nat.zero_le _, Lib.hid (by simp [doneW]), World.ownsRow_nil _ _ _ _, Ext.refl _⟩
  case round =>
    obtain ⟨k, d, rfl, rfl, hkn, hd, hrow, hE⟩ := hrel
    obtain ⟨⟨z0, _⟩, ⟨z1, _⟩, ⟨z2, _⟩⟩ := (hB.ext hE).three
    have hrl := rowW_len l e k
    obtain ⟨m, hm⟩ : ∃ m, (rowW l e k).length = m := ⟨_, rfl⟩
    rw [hm] at hrow hrl
    have hm2 : m ≤ 100002 := by have := Hn.out; omega
    have Hm := Lib.hid hm
    have Hrow := Lib.hid hrow
    obtain ⟨A5, c5, rfl⟩ := own_form hrow
    clear hrow hrl hm
    by_cases hlt : k < n
    · have hh : k < l.length := by have := Hn.out; omega
      obtain ⟨b, o, rfl, hcell⟩ := Hcell.out (List.ne_nil_of_length_pos (by omega))
      obtain ⟨q0, q1, q2, hfx⟩ := hcell k hh
      obtain ⟨x, hx⟩ : ∃ x, l[k]'hh = x := ⟨_, rfl⟩
      rw [hx] at q0 q1 q2 hfx
      have g0 := (hE0.trans hE).cell q0
      have g1 := (hE0.trans hE).cell q1
      have g2 := (hE0.trans hE).cell q2
      have g0' := fun d os => cell_regrown g0 d os
      have z0' := fun d os => cell_regrown z0 d os
      have HL := fun W => RLess_any x.path e.path W hfx.1 He.out.1
      have hpn : (x.path.toList == e.path.toList) = decide (x.path = e.path) := path_eqR _ _
      have hlt' : (k : Int) < (n : Int) := by omega
      have Hq := Lib.hid (And.intro q0 (And.intro q1 q2))
      clear q0 q1 q2 hcell hfx
      rcases d with _ | _
      · rcases hl1 : lt x.path e.path with _ | _
        · rw [hl1] at HL
          by_cases hxe : x.path = e.path
          · rw [decide_eq_true hxe] at hpn
            obtain ⟨hd2, hr2⟩ := rowW_same hh hd.out.symm (by rw [hx]; exact hxe)
            have Hn2 := Lib.hid (And.intro hd2 hr2)
            clear hl1 hxe hd2 hr2 hx
            go_upto_region 6 with (fail)
            (refine wp_region_quiet_below (by kernel_rfl) (by kernel_rfl) ?_; (repeat (go_big_quiet_step ((go_at_call 40; exact Calls.regrown_of (HL _))))); refine wpQuiet_nil ?_; intro _ hq; obtain ⟨⟨dq, osq⟩, hq2⟩ := hq; subst hq2)
            have hE6 := below_regrown wr dq osq
            obtain ⟨W6, hW6⟩ : ∃ W6, Sort.grow (redrawn wr dq) osq = W6 := ⟨_, rfl⟩
            rw [hW6] at hE6
            try rw [hW6]
            have hE6w : Ext wr W6 := hE6
            have hE6 : Ext W1 W6 := hE.trans hE6w
            have hrow6 := Lib.hid (own_ext Hrow.out hE6w)
            have hs6 := hE6.size
            clear hW6 g0 g1 g2 g0' z0' z0 z1 z2
            obtain ⟨⟨z0, _⟩, ⟨z1, _⟩, ⟨z2, _⟩⟩ := (hB.ext hE6).three
            have g0 := (hE0.trans hE6).cell Hq.out.1
            have g1 := (hE0.trans hE6).cell Hq.out.2.1
            have g2 := (hE0.trans hE6).cell Hq.out.2.2
            go_upto_region 9 with (at_builtin; refine wpList_append_own _ rfl _ _ 55 rfl W1.heap.size 54 i0 (.agg #[.string ⟨#[]⟩, .int .i64 0, .string ⟨#[]⟩]) 3 40 Tryz.underlying55 hi hz0 hz1 hz2 rfl (by decide) _ _ _ rfl (hrow6.out.alloc _) ⟨W6.heap.size, 0, none⟩ 1 1 [.string e.path, .int .i64 e.kind, .string e.data] rfl rfl (World.news_of_block (cs := #[.string e.path, .int .i64 e.kind, .string e.data]) (t := 54) (fr := (0, 0)) (Blk.new W6 _ _)) (by simp [Value.oneCell']) (by unfold maxLen; omega) (by omega) (by rw [World.size_alloc]; omega) ?_; intro v7 W7 hown7 hgrow7 hnil7)
            have hE7 : Ext W1 W7 := Ext.grown (hE6.alloc _) hgrow7 (fun j hj => (hrow6.out.lt j hj).1)
            have hs7 := hE7.size
            have Hown7 := Lib.hid (row_put Hm.out hown7)
            obtain ⟨A7, c7, rfl⟩ := own_form hown7
            clear hown7 hgrow7 hnil7 z0 z1 z2 g0 g1 g2
            obtain ⟨⟨z0, _⟩, ⟨z1, _⟩, ⟨z2, _⟩⟩ := (hB.ext hE7).three
            have g0 := (hE0.trans hE7).cell Hq.out.1
            have g1 := (hE0.trans hE7).cell Hq.out.2.1
            have g2 := (hE0.trans hE7).cell Hq.out.2.2
            go_quiet (fail)
            go_wp2
            exact wt_next hlt Hn2.out.1 Hn2.out.2 (own_ext Hown7.out ((Ext.refl _).drewN _)) (hE7.drewN _)
          · rw [decide_eq_false hxe] at hpn
            have hgt : lt e.path x.path = true := by
              rcases h : lt e.path x.path with _ | _
              · exact absurd (lt_total hl1 h) hxe
              · rfl
            obtain ⟨hd2, hr2⟩ := rowW_more hh hd.out.symm (by rw [hx]; exact hgt)
            rw [hx] at hr2
            have Hn2 := Lib.hid (And.intro hd2 hr2)
            clear hl1 hxe hd2 hr2 hx hgt
            go_upto_region 6 with (fail)
            (refine wp_region_quiet_below (by kernel_rfl) (by kernel_rfl) ?_; (repeat (go_big_quiet_step ((go_at_call 40; exact Calls.regrown_of (HL _))))); refine wpQuiet_nil ?_; intro _ hq; obtain ⟨⟨dq, osq⟩, hq2⟩ := hq; subst hq2)
            have hE6 := below_regrown wr dq osq
            obtain ⟨W6, hW6⟩ : ∃ W6, Sort.grow (redrawn wr dq) osq = W6 := ⟨_, rfl⟩
            rw [hW6] at hE6
            try rw [hW6]
            have hE6w : Ext wr W6 := hE6
            have hE6 : Ext W1 W6 := hE.trans hE6w
            have hrow6 := Lib.hid (own_ext Hrow.out hE6w)
            have hs6 := hE6.size
            clear hW6 g0 g1 g2 g0' z0' z0 z1 z2
            obtain ⟨⟨z0, _⟩, ⟨z1, _⟩, ⟨z2, _⟩⟩ := (hB.ext hE6).three
            have g0 := (hE0.trans hE6).cell Hq.out.1
            have g1 := (hE0.trans hE6).cell Hq.out.2.1
            have g2 := (hE0.trans hE6).cell Hq.out.2.2
            go_upto_region 9 with (at_builtin; refine wpList_append_own _ rfl _ _ 55 rfl W1.heap.size 54 i0 (.agg #[.string ⟨#[]⟩, .int .i64 0, .string ⟨#[]⟩]) 3 40 Tryz.underlying55 hi hz0 hz1 hz2 rfl (by decide) _ _ _ rfl (hrow6.out.alloc _) ⟨W6.heap.size, 0, none⟩ 1 1 [.string e.path, .int .i64 e.kind, .string e.data] rfl rfl (World.news_of_block (cs := #[.string e.path, .int .i64 e.kind, .string e.data]) (t := 54) (fr := (0, 0)) (Blk.new W6 _ _)) (by simp [Value.oneCell']) (by unfold maxLen; omega) (by omega) (by rw [World.size_alloc]; omega) ?_; intro v7 W7 hown7 hgrow7 hnil7)
            have hE7 : Ext W1 W7 := Ext.grown (hE6.alloc _) hgrow7 (fun j hj => (hrow6.out.lt j hj).1)
            have hs7 := hE7.size
            have Hown7 := Lib.hid (row_put Hm.out hown7)
            obtain ⟨A7, c7, rfl⟩ := own_form hown7
            clear hown7 hgrow7 hnil7 z0 z1 z2 g0 g1 g2
            obtain ⟨⟨z0, _⟩, ⟨z1, _⟩, ⟨z2, _⟩⟩ := (hB.ext hE7).three
            have g0 := (hE0.trans hE7).cell Hq.out.1
            have g1 := (hE0.trans hE7).cell Hq.out.2.1
            have g2 := (hE0.trans hE7).cell Hq.out.2.2
            go_quiet (fail)
            obtain ⟨W8, hW8⟩ : ∃ W8, W7.drewN nq = W8 := ⟨_, rfl⟩
            try rw [hW8]
            have hE8 : Ext W1 W8 := by rw [← hW8]; exact hE7.drewN _
            have hrow8 : Hid (W8.ownsRow W1.heap.size 54 3 (.slice A7 (m + 1) c7) (m + 1) (flatE (rowW l e k ++ [e]))) := Lib.hid (by have := own_ext Hown7.out ((Ext.refl W7).drewN nq); rw [List.length_append, List.length_singleton, Hm.out, hW8] at this; exact this)
            have hs8 := hE8.size
            clear hW8 z0 z1 z2 g0 g1 g2
            have g0 := (hE0.trans hE8).cell Hq.out.1
            have g1 := (hE0.trans hE8).cell Hq.out.2.1
            have g2 := (hE0.trans hE8).cell Hq.out.2.2
            go_wp2_with (at_builtin; refine wpList_append_own _ rfl _ _ 55 rfl W1.heap.size 54 i0 (.agg #[.string ⟨#[]⟩, .int .i64 0, .string ⟨#[]⟩]) 3 40 Tryz.underlying55 hi hz0 hz1 hz2 rfl (by decide) _ _ _ rfl (hrow8.out.alloc _) ⟨W8.heap.size, 0, none⟩ 1 1 [.string x.path, .int .i64 x.kind, .string x.data] rfl rfl (World.news_of_block (cs := #[.string x.path, .int .i64 x.kind, .string x.data]) (t := 54) (fr := (0, 0)) (Blk.new W8 _ _)) (by simp [Value.oneCell']) (by unfold maxLen; omega) (by omega) (by rw [World.size_alloc]; omega) ?_; intro v9 W9 hown9 hgrow9 hnil9)
            exact wt_next hlt Hn2.out.1 Hn2.out.2 (row_put (by rw [List.length_append, Hm.out]; rfl) hown9) (Ext.grown (hE8.alloc _) hgrow9 (fun j hj => (hrow8.out.lt j hj).1))
        · rw [hl1] at HL
          rw [decide_eq_false (lt_ne hl1)] at hpn
          obtain ⟨hd2, hr2⟩ := rowW_less hh hd.out.symm (by rw [hx]; exact hl1)
          rw [hx] at hr2
          have Hn2 := Lib.hid (And.intro hd2 hr2)
          clear hl1 hd2 hr2 hx
          go_upto_region 6 with (fail)
          (refine wp_region_quiet_below (by kernel_rfl) (by kernel_rfl) ?_; (repeat (go_big_quiet_step ((go_at_call 40; exact Calls.regrown_of (HL _))))); refine wpQuiet_nil ?_; intro _ hq; obtain ⟨⟨dq, osq⟩, hq2⟩ := hq; subst hq2)
          have hE6 := below_regrown wr dq osq
          obtain ⟨W6, hW6⟩ : ∃ W6, Sort.grow (redrawn wr dq) osq = W6 := ⟨_, rfl⟩
          rw [hW6] at hE6
          try rw [hW6]
          have hE6w : Ext wr W6 := hE6
          have hE6 : Ext W1 W6 := hE.trans hE6w
          have hrow6 := Lib.hid (own_ext Hrow.out hE6w)
          have hs6 := hE6.size
          clear hW6 g0 g1 g2 g0' z0' z0 z1 z2
          obtain ⟨⟨z0, _⟩, ⟨z1, _⟩, ⟨z2, _⟩⟩ := (hB.ext hE6).three
          have g0 := (hE0.trans hE6).cell Hq.out.1
          have g1 := (hE0.trans hE6).cell Hq.out.2.1
          have g2 := (hE0.trans hE6).cell Hq.out.2.2
          go_upto_region 9 with (fail)
          go_quiet (fail)
          obtain ⟨W8, hW8⟩ : ∃ W8, W6.drewN nq = W8 := ⟨_, rfl⟩
          try rw [hW8]
          have hE8 : Ext W1 W8 := by rw [← hW8]; exact hE6.drewN _
          have hrow8 : Hid (W8.ownsRow W1.heap.size 54 3 (.slice A5 m c5) m (flatE (rowW l e k))) := Lib.hid (by rw [← hW8]; exact own_ext hrow6.out ((Ext.refl W6).drewN nq))
          have hs8 := hE8.size
          clear hW8 z0 z1 z2 g0 g1 g2
          have g0 := (hE0.trans hE8).cell Hq.out.1
          have g1 := (hE0.trans hE8).cell Hq.out.2.1
          have g2 := (hE0.trans hE8).cell Hq.out.2.2
          go_wp2_with (at_builtin; refine wpList_append_own _ rfl _ _ 55 rfl W1.heap.size 54 i0 (.agg #[.string ⟨#[]⟩, .int .i64 0, .string ⟨#[]⟩]) 3 40 Tryz.underlying55 hi hz0 hz1 hz2 rfl (by decide) _ _ _ rfl (hrow8.out.alloc _) ⟨W8.heap.size, 0, none⟩ 1 1 [.string x.path, .int .i64 x.kind, .string x.data] rfl rfl (World.news_of_block (cs := #[.string x.path, .int .i64 x.kind, .string x.data]) (t := 54) (fr := (0, 0)) (Blk.new W8 _ _)) (by simp [Value.oneCell']) (by unfold maxLen; omega) (by omega) (by rw [World.size_alloc]; omega) ?_; intro v9 W9 hown9 hgrow9 hnil9)
          exact wt_next hlt Hn2.out.1 Hn2.out.2 (row_put Hm.out hown9) (Ext.grown (hE8.alloc _) hgrow9 (fun j hj => (hrow8.out.lt j hj).1))
      · obtain ⟨hd2, hr2, hgt⟩ := rowW_done Hr.out hh hd.out.symm
        rw [hx] at hr2 hgt
        rw [decide_eq_false (fun h => by rw [h, lt_irrefl] at hgt; cases hgt)] at hpn
        have Hn2 := Lib.hid (And.intro hd2 hr2)
        clear hd2 hr2 hx hgt
        go_upto_region 6 with (fail)
        (refine wp_region_quiet_below (by kernel_rfl) (by kernel_rfl) ?_; (repeat (go_big_quiet_step ((go_at_call 40; exact Calls.regrown_of (HL _))))); refine wpQuiet_nil ?_; intro _ hq; obtain ⟨⟨dq, osq⟩, hq2⟩ := hq; subst hq2)
        have hE6 := below_regrown wr dq osq
        obtain ⟨W6, hW6⟩ : ∃ W6, Sort.grow (redrawn wr dq) osq = W6 := ⟨_, rfl⟩
        rw [hW6] at hE6
        try rw [hW6]
        have hE6w : Ext wr W6 := hE6
        have hE6 : Ext W1 W6 := hE.trans hE6w
        have hrow6 := Lib.hid (own_ext Hrow.out hE6w)
        have hs6 := hE6.size
        clear hW6 g0 g1 g2 g0' z0' z0 z1 z2
        obtain ⟨⟨z0, _⟩, ⟨z1, _⟩, ⟨z2, _⟩⟩ := (hB.ext hE6).three
        have g0 := (hE0.trans hE6).cell Hq.out.1
        have g1 := (hE0.trans hE6).cell Hq.out.2.1
        have g2 := (hE0.trans hE6).cell Hq.out.2.2
        go_upto_region 9 with (fail)
        go_quiet (fail)
        obtain ⟨W8, hW8⟩ : ∃ W8, W6.drewN nq = W8 := ⟨_, rfl⟩
        try rw [hW8]
        have hE8 : Ext W1 W8 := by rw [← hW8]; exact hE6.drewN _
        have hrow8 : Hid (W8.ownsRow W1.heap.size 54 3 (.slice A5 m c5) m (flatE (rowW l e k))) := Lib.hid (by rw [← hW8]; exact own_ext hrow6.out ((Ext.refl W6).drewN nq))
        have hs8 := hE8.size
        clear hW8 z0 z1 z2 g0 g1 g2
        have g0 := (hE0.trans hE8).cell Hq.out.1
        have g1 := (hE0.trans hE8).cell Hq.out.2.1
        have g2 := (hE0.trans hE8).cell Hq.out.2.2
        go_wp2_with (at_builtin; refine wpList_append_own _ rfl _ _ 55 rfl W1.heap.size 54 i0 (.agg #[.string ⟨#[]⟩, .int .i64 0, .string ⟨#[]⟩]) 3 40 Tryz.underlying55 hi hz0 hz1 hz2 rfl (by decide) _ _ _ rfl (hrow8.out.alloc _) ⟨W8.heap.size, 0, none⟩ 1 1 [.string x.path, .int .i64 x.kind, .string x.data] rfl rfl (World.news_of_block (cs := #[.string x.path, .int .i64 x.kind, .string x.data]) (t := 54) (fr := (0, 0)) (Blk.new W8 _ _)) (by simp [Value.oneCell']) (by unfold maxLen; omega) (by omega) (by rw [World.size_alloc]; omega) ?_; intro v9 W9 hown9 hgrow9 hnil9)
        exact wt_next hlt Hn2.out.1 Hn2.out.2 (row_put Hm.out hown9) (Ext.grown (hE8.alloc _) hgrow9 (fun j hj => (hrow8.out.lt j hj).1))
    · have hkn' : k = n := by omega
      have hend := rowW_end (e := e) (show l.length ≤ k by have := Hn.out; omega)
      have hfit : ∀ y ∈ insT l e, y.fits := fun y hy => by
        rcases mem_insT.1 hy with rfl | ⟨h, _⟩
        · exact He.out
        · exact Hf.out y h
      have Hfit := Lib.hid hfit
      have hs := hE.size
      rcases d with _ | _
      · have Hend := Lib.hid (hend.2 hd.out.symm)
        clear hend hfit
        go_wp2_with (at_builtin; refine wpList_append_own _ rfl _ _ 55 rfl W1.heap.size 54 i0 (.agg #[.string ⟨#[]⟩, .int .i64 0, .string ⟨#[]⟩]) 3 40 Tryz.underlying55 hi hz0 hz1 hz2 rfl (by decide) _ _ _ rfl (Hrow.out.alloc _) ⟨wr.heap.size, 0, none⟩ 1 1 [.string e.path, .int .i64 e.kind, .string e.data] rfl rfl (World.news_of_block (cs := #[.string e.path, .int .i64 e.kind, .string e.data]) (t := 54) (fr := (0, 0)) (Blk.new wr _ _)) (by simp [Value.oneCell']) (by unfold maxLen; omega) (by omega) (by rw [World.size_alloc]; omega) ?_; intro v9 W9 hown9 hgrow9 hnil9)
        have hrow9 := row_put Hm.out hown9
        rw [Hend.out] at hrow9
        have hlen : (insT l e).length ≤ 1000000 := by
          have := congrArg List.length Hend.out
          rw [List.length_append, List.length_singleton, Hm.out] at this
          omega
        have Hrd := Lib.hid (RdE.of_own hrow9 (by omega) Hfit.out)
        clear hown9 hrow9 hlen
        go_ret
        exact ⟨_, rfl, Hrd.out, hE0.trans (Ext.grown (hE.alloc _) hgrow9 (fun j hj => (Hrow.out.lt j hj).1))⟩
      · have Hend := Lib.hid (hend.1 hd.out.symm)
        clear hend hfit
        have hrow9 := Hrow.out
        rw [← Hm.out, Hend.out] at hrow9
        have hlen : (insT l e).length = m := by rw [← Hend.out, Hm.out]
        have Hrd := Lib.hid (RdE.of_own (xs := insT l e) hrow9 (by omega) Hfit.out)
        rw [hlen] at Hrd
        clear hrow9 hlen
        go_wp2
        go_ret
        exact ⟨_, rfl, Hrd.out, hE0.trans hE⟩
end Go.Proofs.YthadldnojdjlnaaGreatDoor
