/- A table of values by numbers, as the kit's laws on maps read it; no program. -/
import Derived.Test.YtknfaabhlcdeoaaGreatDoorBase
import Derived.Maps.OwnSet
namespace Go.Proofs.YtknfaabhlcdeoaaGreatDoor
open Go Go.RowKit Go.Maps

/-- A table as the datum of a map. -/
def Tab (l : List (Int × Value)) : DataW Value := .map (l.map fun x => (Lit.int .i64 x.1, .held x.2))
/-- An element is held as it is. -/
def RH (v : Value) : Option (DataW Value × List MemPlace) := some (.held v, [])

theorem tab_size (l : List (Int × Value)) : Maps.size (Tab l) = l.length := by simp [Maps.size, Tab]

theorem same_int (a k : Int) : (Lit.int .i64 a).sameKey (.int .i64 k) = decide (a = k) := by simp [Lit.sameKey]

theorem tab_del (l : List (Int × Value)) (k : Int) : (Tab l).del (.int .i64 k) = Tab (l.filter fun x => !decide (x.1 = k)) := by
  simp only [Tab, DataW.del, List.filter_map]
  congr 1
  congr 1
  apply List.filter_congr
  intro x _
  simp [same_int]

theorem insert_last {x : Lit × DataW Value} : ∀ l : List (Lit × DataW Value), (∀ y ∈ l, x.1.before y.1 = false) → DataW.insert x l = l ++ [x]
  | [], _ => rfl
  | y :: r, h => by
    rw [DataW.insert, if_neg (by rw [h y (.head _)]; decide), insert_last r fun z hz => h z (.tail _ hz)]
    rfl

theorem tab_put (l : List (Int × Value)) (k : Int) (v : Value) (h : ∀ x ∈ l, x.1 < k) : (Tab l).put (.int .i64 k) (.held v) = Tab (l ++ [(k, v)]) := by
  simp only [Tab, DataW.put, List.map_append, List.map_cons, List.map_nil]
  congr 1
  rw [List.filter_eq_self.2, insert_last]
  · intro y hy
    obtain ⟨x, hx, rfl⟩ := List.mem_map.1 hy
    have := h x hx
    simp [Lit.before]
    omega
  · intro y hy
    obtain ⟨x, hx, rfl⟩ := List.mem_map.1 hy
    have := h x hx
    simp [same_int]
    omega

theorem tab_at (l : List (Int × Value)) (k : Int) (z : Value) : (Tab l).atKey (.int .i64 k) (.held z) = .held (match l.find? (fun x => decide (x.1 = k)) with | some x => x.2 | none => z) := by
  induction l with
  | nil => rfl
  | cons x l ih =>
    simp only [Tab, DataW.atKey, List.map_cons, List.find?_cons, same_int] at ih ⊢
    by_cases e : x.1 = k
    · simp [e]
    · simpa [e] using ih

theorem tab_has (l : List (Int × Value)) (k : Int) : Maps.has (Tab l) (.int .i64 k) = (l.find? (fun x => decide (x.1 = k))).isSome := by
  induction l with
  | nil => rfl
  | cons x l ih =>
    by_cases e : x.1 = k
    · simp [Maps.has, Tab, same_int, e]
    · simpa [Maps.has, Tab, same_int, e] using ih

end Go.Proofs.YtknfaabhlcdeoaaGreatDoor
