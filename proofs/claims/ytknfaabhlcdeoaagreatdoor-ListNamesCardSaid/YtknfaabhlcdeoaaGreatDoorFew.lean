/- shalelaw09.Size, shalelaw10.Few: whether a stack is of a size that is looked at. -/
import Derived.Test.YtknfaabhlcdeoaaGreatDoorLFind
import Derived.Test.YtknfaabhlcdeoaaGreatDoorErrCode
namespace Go.Proofs.YtknfaabhlcdeoaaGreatDoor
open Go Go.RowKit Go.Shelf Go.Proofs

def entSmall (x : Ent) : Bool := decide (x.path.size ≤ 100) && decide (x.data.size ≤ 600)
def sizeOk (l : List Ent) : Bool := decide (l.length ≤ 70) && l.all entSmall
def fewOk (s : List (List Ent)) : Bool := decide (s.length ≤ 12) && s.all sizeOk
def oneI (b : Bool) : Int := if b = true then 1 else 0

theorem sizeOk_at {l : List Ent} (h : sizeOk l = true) {x : Ent} (hx : x ∈ l) : x.path.size ≤ 100 ∧ x.data.size ≤ 600 := by
  rw [sizeOk, Bool.and_eq_true, List.all_eq_true] at h
  have := h.2 x hx
  rw [entSmall, Bool.and_eq_true, decide_eq_true_eq, decide_eq_true_eq] at this
  exact this
theorem sizeOk_len {l : List Ent} (h : sizeOk l = true) : l.length ≤ 70 := by
  rw [sizeOk, Bool.and_eq_true, decide_eq_true_eq] at h
  exact h.1
theorem fewOk_at {s : List (List Ent)} (h : fewOk s = true) {l : List Ent} (hl : l ∈ s) : sizeOk l = true := by
  rw [fewOk, Bool.and_eq_true, List.all_eq_true] at h
  exact h.2 l hl
theorem fewOk_len {s : List (List Ent)} (h : fewOk s = true) : s.length ≤ 12 := by
  rw [fewOk, Bool.and_eq_true, decide_eq_true_eq] at h
  exact h.1

theorem rdE_form {w : World} {v : Value} {l : List Ent} {n : Nat} (hv : RdE w v l) (hn : n = l.length) :
    ∃ A c, v = .slice A n c ∧ n ≤ c ∧ c ≤ 9223372036854775807 ∧ Hid (l ≠ [] → ∃ b o, A = some ⟨b, o, none⟩ ∧
      ∀ (j : Nat) (h : j < l.length), w.cell? ⟨b, o + j * 3, Option.none⟩ = some (.string l[j].path) ∧ w.cell? ⟨b, o + j * 3 + 1, Option.none⟩ = some (.int .i64 l[j].kind) ∧ w.cell? ⟨b, o + j * 3 + 2, Option.none⟩ = some (.string l[j].data) ∧ l[j].fits) := by
  by_cases h0 : l = []
  · obtain ⟨A, c, e, h1, h2, _⟩ := hv
    rw [← hn] at e h1
    exact ⟨A, c, e, h1, h2, Lib.hid fun h => absurd h0 h⟩
  · obtain ⟨b, o, c, e, h1, h2, h3⟩ := RdE.open_ hv h0
    rw [← hn] at e h1
    exact ⟨_, c, e, h1, h2, Lib.hid fun _ => ⟨b, o, rfl, h3⟩⟩

theorem size_next {l : List Ent} {n k : Nat} {w wr : World} (hlt : k < n) (hE : Ext w wr) (hall : Hid (∀ (t : Nat) (h : t < l.length), t < k → entSmall l[t] = true)) (hh : k < l.length) (hx : entSmall l[k] = true) :
    (∃ k' : Nat, Value.int IntKind.i64 ((k : Int) + 1) = .int .i64 k' ∧ k' ≤ n ∧ Hid (∀ (t : Nat) (h : t < l.length), t < k' → entSmall l[t] = true) ∧ Ext w wr) ∧ n - (intOf (.int .i64 ((k : Int) + 1))).toNat < n - (intOf (.int .i64 (k : Int))).toNat := by
  refine ⟨⟨k + 1, by simp, by omega, Lib.hid fun t ht h => ?_, hE⟩, by simp [intOf]; omega⟩
  by_cases e : t = k
  · subst e; exact hx
  · exact hall.out t ht (by omega)

set_option maxHeartbeats 2000000 in
theorem Size_any (v : Value) (l : List Ent) (w : World) (hv : RdE w v l) :
    Calls Tryz.prog 42 #[v] w fun e w' => e = .returned (.int .i64 (oneI (sizeOk l))) ∧ Ext w w' := by
  obtain ⟨n, hn⟩ : ∃ n, n = l.length := ⟨_, rfl⟩
  have Hn := Lib.hid hn
  have hlen := Rd.len hv
  obtain ⟨A, c, rfl, hc1, hc2, Hcell⟩ := rdE_form hv hn
  rw [← hn] at hlen
  clear hn hv
  by_cases h70 : n ≤ 70
  · have h70' : ¬ (70 : Int) < (n : Int) := by omega
    go_enter Tryz.func42, Tryz.ntmps42
    go_wp2
    go_loopw [3] (fun i wr => ∃ k : Nat, i = .int .i64 k ∧ k ≤ n ∧ Hid (∀ (t : Nat) (h : t < l.length), t < k → entSmall l[t] = true) ∧ Ext w wr) (fun i _ => n - (intOf i).toNat)
    case atStart => exact ⟨0, rfl, Nat.zero_le _, Lib.hid fun t _ h => absurd h (Nat.not_lt_zero t), Ext.refl _⟩
    case round =>
      obtain ⟨k, rfl, hkn, hall, hE⟩ := hrel
      by_cases hlt : k < n
      · have hh : k < l.length := by have := Hn.out; omega
        obtain ⟨b, o, rfl, hcell⟩ := Hcell.out (List.ne_nil_of_length_pos (by omega))
        obtain ⟨q0, q1, q2, hf⟩ := hcell k hh
        obtain ⟨x, hx⟩ : ∃ x, l[k]'hh = x := ⟨_, rfl⟩
        rw [hx] at q0 q1 q2 hf
        have g0 := hE.cell q0
        have g1 := hE.cell q1
        have g2 := hE.cell q2
        have hf1 := hf.1
        have hf2 := hf.2
        have Hx := Lib.hid hx
        clear q0 q1 q2 hx hf hcell
        by_cases hp : x.path.size ≤ 100
        · have hp' : ¬ (100 : Int) < (x.path.size : Int) := by omega
          by_cases hd : x.data.size ≤ 600
          · have hd' : ¬ (600 : Int) < (x.data.size : Int) := by omega
            have hok : entSmall (l[k]'hh) = true := by rw [Hx.out, entSmall, decide_eq_true hp, decide_eq_true hd]; rfl
            go_wp2
            exact size_next hlt hE hall hh hok
          · have hd' : (600 : Int) < (x.data.size : Int) := by omega
            have hbad : sizeOk l = false := by
              rw [sizeOk, Bool.and_eq_false_iff]
              exact .inr (List.all_eq_false.2 ⟨_, List.getElem_mem hh, by rw [Hx.out, entSmall, decide_eq_false hd]; simp⟩)
            go_wp2
            go_ret
            exact ⟨by first | rfl | (rw [hbad]; rfl), hE⟩
        · have hp' : (100 : Int) < (x.path.size : Int) := by omega
          have hbad : sizeOk l = false := by
            rw [sizeOk, Bool.and_eq_false_iff]
            exact .inr (List.all_eq_false.2 ⟨_, List.getElem_mem hh, by rw [Hx.out, entSmall, decide_eq_false hp]; simp⟩)
          go_wp2
          go_ret
          exact ⟨by first | rfl | (rw [hbad]; rfl), hE⟩
      · have hkn2 : k = n := by omega
        have hok : sizeOk l = true := by
          rw [sizeOk, Bool.and_eq_true, decide_eq_true_eq, List.all_eq_true]
          refine ⟨by have := Hn.out; omega, fun x hx => ?_⟩
          obtain ⟨t, ht, rfl⟩ := List.getElem_of_mem hx
          exact hall.out t ht (by have := Hn.out; omega)
        subst hkn2
        go_wp2
        go_ret
        exact ⟨by first | rfl | (rw [hok]; rfl), hE⟩
  · have h70' : (70 : Int) < (n : Int) := by omega
    have hbad : sizeOk l = false := by rw [sizeOk, Bool.and_eq_false_iff]; exact .inl (decide_eq_false (by have := Hn.out; omega))
    go_enter Tryz.func42, Tryz.ntmps42
    go_wp2
    go_ret
    exact ⟨by first | rfl | (rw [hbad]; rfl), Ext.refl _⟩

theorem few_next {s : List (List Ent)} {n k : Nat} {w wr : World} (hlt : k < n) (hE : Ext w wr) (hall : Hid (∀ (t : Nat) (h : t < s.length), t < k → sizeOk s[t] = true)) (hh : k < s.length) (hx : sizeOk s[k] = true) :
    (∃ k' : Nat, Value.int IntKind.i64 ((k : Int) + 1) = .int .i64 k' ∧ k' ≤ n ∧ Hid (∀ (t : Nat) (h : t < s.length), t < k' → sizeOk s[t] = true) ∧ Ext w wr) ∧ n - (intOf (.int .i64 ((k : Int) + 1))).toNat < n - (intOf (.int .i64 (k : Int))).toNat := by
  refine ⟨⟨k + 1, by simp, by omega, Lib.hid fun t ht h => ?_, hE⟩, by simp [intOf]; omega⟩
  by_cases e : t = k
  · subst e; exact hx
  · exact hall.out t ht (by omega)

set_option maxHeartbeats 2000000 in
theorem Few_any (v : Value) (s : List (List Ent)) (w : World) (hv : RdK w v s) :
    Calls Tryz.prog 15 #[v] w fun e w' => e = .returned (.int .i64 (oneI (fewOk s))) ∧ Ext w w' := by
  obtain ⟨n, hn⟩ : ∃ n, n = s.length := ⟨_, rfl⟩
  have Hn := Lib.hid hn
  have hlen := Rd.len hv
  obtain ⟨A, c, rfl, hc1, hc2, Hcell⟩ := RdK.form hv hn
  rw [← hn] at hlen
  clear hn hv
  by_cases h12 : n ≤ 12
  · have h12' : ¬ (12 : Int) < (n : Int) := by omega
    go_enter Tryz.func15, Tryz.ntmps15
    go_wp2
    go_loopw [3] (fun i wr => ∃ k : Nat, i = .int .i64 k ∧ k ≤ n ∧ Hid (∀ (t : Nat) (h : t < s.length), t < k → sizeOk s[t] = true) ∧ Ext w wr) (fun i _ => n - (intOf i).toNat)
    case atStart => exact ⟨0, rfl, Nat.zero_le _, Lib.hid fun t _ h => absurd h (Nat.not_lt_zero t), Ext.refl _⟩
    case round =>
      obtain ⟨k, rfl, hkn, hall, hE⟩ := hrel
      by_cases hlt : k < n
      · have hh : k < s.length := by have := Hn.out; omega
        obtain ⟨b, o, rfl, hcell⟩ := Hcell.out (List.ne_nil_of_length_pos (by omega))
        obtain ⟨u, q0, hu⟩ := hcell k hh
        have g0 := hE.cell q0
        have HS := Size_any u s[k] wr (hu.ext hE)
        clear q0 hcell hu
        rcases hok : sizeOk s[k] with _ | _
        · rw [hok] at HS
          have hbad : fewOk s = false := by
            rw [fewOk, Bool.and_eq_false_iff]
            exact .inr (List.all_eq_false.2 ⟨_, List.getElem_mem hh, by simp [hok]⟩)
          clear hok
          go_wp2_with (go_at_call 42; refine HS.mono ?_; rintro e W2 ⟨rfl, hE2⟩)
          go_ret
          exact ⟨by first | rfl | (rw [hbad]; rfl), hE.trans hE2⟩
        · rw [hok] at HS
          have Hok := Lib.hid hok
          clear hok
          go_wp2_with (go_at_call 42; refine HS.mono ?_; rintro e W2 ⟨rfl, hE2⟩)
          exact few_next hlt (hE.trans hE2) hall hh Hok.out
      · have hkn2 : k = n := by omega
        have hok : fewOk s = true := by
          rw [fewOk, Bool.and_eq_true, decide_eq_true_eq, List.all_eq_true]
          refine ⟨by have := Hn.out; omega, fun x hx => ?_⟩
          obtain ⟨t, ht, rfl⟩ := List.getElem_of_mem hx
          exact hall.out t ht (by have := Hn.out; omega)
        subst hkn2
        go_wp2
        go_ret
        exact ⟨by first | rfl | (rw [hok]; rfl), hE⟩
  · have h12' : (12 : Int) < (n : Int) := by omega
    have hbad : fewOk s = false := by rw [fewOk, Bool.and_eq_false_iff]; exact .inl (decide_eq_false (by have := Hn.out; omega))
    go_enter Tryz.func15, Tryz.ntmps15
    go_wp2
    go_ret
    exact ⟨by first | rfl | (rw [hbad]; rfl), Ext.refl _⟩
end Go.Proofs.YtknfaabhlcdeoaaGreatDoor
