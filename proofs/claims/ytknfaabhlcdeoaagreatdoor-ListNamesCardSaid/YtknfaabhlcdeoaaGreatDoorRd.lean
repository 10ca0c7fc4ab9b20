/- What lies in memory: slices that are read; no program. -/
import Derived.Test.YtknfaabhlcdeoaaGreatDoorBase
namespace Go.Proofs.YtknfaabhlcdeoaaGreatDoor
open Go.RowKit

/-- A slice that reads as xs: each element by sz cells. -/
def Rd {α : Type} (R : World → α → List Value → Prop) (sz : Nat) (w : World) (v : Value) (xs : List α) : Prop :=
  ∃ A c, v = .slice A xs.length c ∧ xs.length ≤ c ∧ c ≤ 9223372036854775807 ∧ xs.length ≤ 140737488355328 ∧
    (xs ≠ [] → ∃ b o, A = some ⟨b, o, none⟩ ∧ ∀ j x, xs[j]? = some x → ∃ cs, R w x cs ∧ ∀ i u, cs[i]? = some u → w.cell? ⟨b, o + j * sz + i, none⟩ = some u)

/-- What reads stays, where the world grows. -/
def Stays {α : Type} (R : World → α → List Value → Prop) : Prop := ∀ w w' x cs, Ext w w' → R w x cs → R w' x cs

theorem Rd.ext {α : Type} {R : World → α → List Value → Prop} {sz : Nat} {w w' : World} {v : Value} {xs : List α} (hR : Stays R) (h : Rd R sz w v xs) (he : Ext w w') : Rd R sz w' v xs := by
  obtain ⟨A, c, rfl, h1, h2, hl, h3⟩ := h
  refine ⟨A, c, rfl, h1, h2, hl, fun hne => ?_⟩
  obtain ⟨b, o, rfl, hc⟩ := h3 hne
  refine ⟨b, o, rfl, fun j x hj => ?_⟩
  obtain ⟨cs, hr, hu⟩ := hc j x hj
  exact ⟨cs, hR _ _ _ _ he hr, fun i u hi => he.cell (hu i u hi)⟩

theorem Rd.nil {α : Type} (R : World → α → List Value → Prop) (sz : Nat) (w : World) : Rd R sz w (.slice none 0 0) ([] : List α) :=
  ⟨Option.none, 0, rfl, Nat.le_refl _, by omega, by simp, fun h => absurd rfl h⟩

theorem Rd.none {α : Type} (R : World → α → List Value → Prop) (sz : Nat) (w : World) (A : Option Addr) (c : Nat) (hc : c ≤ 9223372036854775807) : Rd R sz w (.slice A 0 c) ([] : List α) :=
  ⟨A, c, rfl, Nat.zero_le _, hc, by simp, fun h => absurd rfl h⟩

theorem Rd.len {α : Type} {R : World → α → List Value → Prop} {sz : Nat} {w : World} {v : Value} {xs : List α} (h : Rd R sz w v xs) : xs.length ≤ 140737488355328 := by
  obtain ⟨_, _, _, _, _, h, _⟩ := h
  exact h

theorem Rd.open_ {α : Type} {R : World → α → List Value → Prop} {sz : Nat} {w : World} {v : Value} {xs : List α} (h : Rd R sz w v xs) (hne : xs ≠ []) :
    ∃ b o c, v = .slice (some ⟨b, o, Option.none⟩) xs.length c ∧ xs.length ≤ c ∧ c ≤ 9223372036854775807 ∧ ∀ (j : Nat) x, xs[j]? = some x → ∃ cs, R w x cs ∧ ∀ (i : Nat) u, cs[i]? = some u → w.cell? ⟨b, o + j * sz + i, Option.none⟩ = some u := by
  obtain ⟨A, c, rfl, h1, h2, _, h3⟩ := h
  obtain ⟨b, o, rfl, hc⟩ := h3 hne
  exact ⟨b, o, c, rfl, h1, h2, hc⟩

theorem Rd.left {α : Type} {R : World → α → List Value → Prop} {sz : Nat} {w : World} {A : Option Addr} {n c : Nat} {xs ys : List α} (h : Rd R sz w (.slice A n c) (xs ++ ys)) : Rd R sz w (.slice A xs.length c) xs := by
  obtain ⟨A', c', e, h1, h2, hl, h3⟩ := h
  cases e
  rw [List.length_append] at h1 hl
  refine ⟨A, c, rfl, by omega, h2, by omega, fun hne => ?_⟩
  obtain ⟨b, o, rfl, hc⟩ := h3 (by simp [hne])
  refine ⟨b, o, rfl, fun j x hj => hc j x ?_⟩
  rw [List.getElem?_append_left (List.getElem?_eq_some_iff.1 hj).1]
  exact hj

/-- What a call owns it can read. -/
theorem Rd.of_own {α : Type} {R : World → α → List Value → Prop} {sz : Nat} {w : World} {base e : Nat} {v : Value} {xs : List α} {cs : List Value} (h : w.ownsRow base e sz v xs.length cs) (hl : xs.length ≤ 140737488355328)
    (hr : ∀ (j : Nat) x, xs[j]? = some x → ∃ c, R w x c ∧ ∀ (i : Nat) u, c[i]? = some u → cs[j * sz + i]? = some u) : Rd R sz w v xs := by
  rcases h.2 with ⟨rfl, h0⟩ | ⟨g, cap, cur, rfl, hb, hh, h1, h2, h3, h4⟩
  · have : xs = [] := List.eq_nil_of_length_eq_zero h0
    subst this
    exact Rd.nil R sz w
  · refine ⟨_, cap, rfl, h1, by simpa [maxLen] using h2, hl, fun _ => ⟨g, 0, rfl, fun j x hj => ?_⟩⟩
    obtain ⟨c, hc, hu⟩ := hr j x hj
    refine ⟨c, hc, fun i u hi => ?_⟩
    have h5 := hu i u hi
    have h6 : j * sz + i < xs.length * sz := by
      have := (List.getElem?_eq_some_iff.1 h5).1
      have h7 : cs.length = xs.length * sz := h.1
      omega
    rw [Nat.zero_add, h.cellAt (j * sz + i) h6]
    exact h5

/-- A text. -/
def RS (_ : World) (x : ByteArray) (cs : List Value) : Prop := cs = [.string x]
theorem RS.stays : Stays RS := fun _ _ _ _ _ h => h
abbrev RdS := Rd RS 1
theorem RdS.ext {w w' : World} {v : Value} {xs : List ByteArray} (h : RdS w v xs) (he : Ext w w') : RdS w' v xs := Rd.ext RS.stays h he

theorem RdS.open_ {w : World} {v : Value} {xs : List ByteArray} (h : RdS w v xs) (hne : xs ≠ []) :
    ∃ b o c, v = .slice (some ⟨b, o, Option.none⟩) xs.length c ∧ xs.length ≤ c ∧ c ≤ 9223372036854775807 ∧ ∀ (j : Nat) x, xs[j]? = some x → w.cell? ⟨b, o + j, Option.none⟩ = some (.string x) := by
  obtain ⟨b, o, c, rfl, h1, h2, hc⟩ := Rd.open_ h hne
  refine ⟨b, o, c, rfl, h1, h2, fun j x hj => ?_⟩
  obtain ⟨cs, hr, hu⟩ := hc j x hj
  have := hu 0 (.string x) (by rw [show cs = _ from hr]; rfl)
  simpa using this

theorem RdS.of_own {w : World} {base e : Nat} {v : Value} {xs : List ByteArray} (h : w.ownsRow base e 1 v xs.length (xs.map Value.string)) (hl : xs.length ≤ 140737488355328) : RdS w v xs :=
  Rd.of_own h hl fun j x hj => ⟨[.string x], rfl, fun i u hi => by
    rcases i with _ | i
    · have : u = .string x := by simpa using hi.symm
      subst this
      simp [hj]
    · simp at hi⟩
end Go.Proofs.YtknfaabhlcdeoaaGreatDoor
