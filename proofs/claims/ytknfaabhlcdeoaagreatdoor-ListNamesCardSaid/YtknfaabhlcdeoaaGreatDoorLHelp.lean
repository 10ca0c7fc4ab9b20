/- What the laws over stacks share: errors' numbers, Few's answers. -/
import Derived.Test.YtknfaabhlcdeoaaGreatDoorLAwake
import Derived.Test.YtknfaabhlcdeoaaGreatDoorFew
namespace Go.Proofs.YtknfaabhlcdeoaaGreatDoor
open Go Go.RowKit Go.Shelf Go.Proofs

theorem lookN_code {s : List (List Ent)} {xs : List ByteArray} {i : Nat} {c : Int} (h : lookN s xs i = .error c) : c ≠ 0 := by
  induction i with
  | zero => rw [lookN] at h; cases h
  | succ i ih =>
    rw [lookN] at h
    split at h
    · rename_i c' hc
      cases h
      exact ih hc
    · split at h
      · cases h; decide
      · split at h
        · cases h
        · cases h; decide
theorem lookE_code {s : List (List Ent)} {p : ByteArray} {c : Int} (h : lookE s p = .error c) : c ≠ 0 := by
  rw [lookE] at h
  split at h
  · split at h
    · cases h; decide
    · exact lookN_code h
  · cases h; decide
theorem dirE_code {s : List (List Ent)} {p : ByteArray} {c : Int} (h : dirE s p = .error c) : c ≠ 0 := by
  rw [dirE] at h
  split at h
  · rename_i c' hc
    cases h
    exact lookE_code hc
  · split at h
    · cases h; decide
    · cases h

theorem few_yes {v : Value} {s : List (List Ent)} (h : fewOk s = true) (w : World) (hv : RdK w v s) : Calls Tryz.prog 15 #[v] w fun e w' => e = .returned (.int .i64 1) ∧ Ext w w' := by
  have := Few_any v s w hv
  rwa [h] at this
theorem few_no {v : Value} {s : List (List Ent)} (h : fewOk s = false) (w : World) (hv : RdK w v s) : Calls Tryz.prog 15 #[v] w fun e w' => e = .returned (.int .i64 0) ∧ Ext w w' := by
  have := Few_any v s w hv
  rwa [h] at this

theorem rdS_form {w : World} {v : Value} {l : List ByteArray} {n : Nat} (hv : RdS w v l) (hn : n = l.length) :
    ∃ A c, v = .slice A n c ∧ n ≤ c ∧ c ≤ 9223372036854775807 ∧ Hid (l ≠ [] → ∃ b o, A = some ⟨b, o, none⟩ ∧ ∀ (j : Nat) (h : j < l.length), w.cell? ⟨b, o + j, none⟩ = some (.string l[j])) := by
  by_cases h0 : l = []
  · obtain ⟨A, c, e, h1, h2, _⟩ := hv
    rw [← hn] at e h1
    exact ⟨A, c, e, h1, h2, Lib.hid fun h => absurd h0 h⟩
  · obtain ⟨b, o, c, e, h1, h2, h3⟩ := RdS.open_ hv h0
    rw [← hn] at e h1
    exact ⟨_, c, e, h1, h2, Lib.hid fun _ => ⟨b, o, rfl, fun j h => h3 j _ (List.getElem?_eq_getElem h)⟩⟩
end Go.Proofs.YtknfaabhlcdeoaaGreatDoor
