/- Entries of layers in memory, and the order of texts; no program. -/
import Derived.Test.YtknfaabhlcdeoaaGreatDoorRd
import Derived.Test.YtknfaabhlcdeoaaGreatDoorPathW
import Derived.Sort.Walk0
import Derived.Lib.Bytealg
namespace Go.Proofs.YtknfaabhlcdeoaaGreatDoor
open Go Go.RowKit

/-- An entry. -/
structure Ent where
  path : ByteArray
  kind : Int
  data : ByteArray

def Ent.val (x : Ent) : Value := .agg #[.string x.path, .int .i64 x.kind, .string x.data]
/-- Its texts are no greater than memory has room. -/
def Ent.fits (x : Ent) : Prop := x.path.size ≤ 140737488355328 ∧ x.data.size ≤ 140737488355328
def RE (_ : World) (x : Ent) (cs : List Value) : Prop := cs = [.string x.path, .int .i64 x.kind, .string x.data] ∧ x.fits
theorem RE.stays : Stays RE := fun _ _ _ _ _ h => h
abbrev RdE := Rd RE 3
theorem RdE.ext {w w' : World} {v : Value} {l : List Ent} (h : RdE w v l) (he : Ext w w') : RdE w' v l := Rd.ext RE.stays h he

theorem RdE.open_ {w : World} {v : Value} {l : List Ent} (h : RdE w v l) (hne : l ≠ []) :
    ∃ b o c, v = .slice (some ⟨b, o, Option.none⟩) l.length c ∧ l.length ≤ c ∧ c ≤ 9223372036854775807 ∧
      ∀ (j : Nat) (h : j < l.length), w.cell? ⟨b, o + j * 3, Option.none⟩ = some (.string l[j].path) ∧ w.cell? ⟨b, o + j * 3 + 1, Option.none⟩ = some (.int .i64 l[j].kind) ∧ w.cell? ⟨b, o + j * 3 + 2, Option.none⟩ = some (.string l[j].data) ∧ l[j].fits := by
  obtain ⟨b, o, c, rfl, h1, h2, hc⟩ := Rd.open_ h hne
  refine ⟨b, o, c, rfl, h1, h2, fun j hj => ?_⟩
  obtain ⟨cs, ⟨hr, hf⟩, hu⟩ := hc j l[j] (List.getElem?_eq_getElem hj)
  subst hr
  have e0 := hu 0 _ rfl
  have e1 := hu 1 _ rfl
  have e2 := hu 2 _ rfl
  exact ⟨e0, e1, e2, hf⟩

/-- Text by text, byte by byte. -/
def lt (a b : ByteArray) : Bool := decide (a.data.toList < b.data.toList)
theorem bytesLess_lt (a b : ByteArray) : Op.bytesLess a.toList b.toList = lt a b := by
  rw [toList_eq, toList_eq, bytesLess_eq]
  rfl

theorem compare_lt : ∀ (a b : List UInt8), (Lib.compareBytes a b < 0) ↔ a < b
  | [], [] => by simp [Lib.compareBytes]
  | [], _ :: _ => by simp [Lib.compareBytes]
  | _ :: _, [] => by simp [Lib.compareBytes]
  | a :: xs, b :: ys => by
    rw [Lib.compareBytes, List.cons_lt_cons_iff]
    split
    · rename_i h; simp [h]
    · rename_i h
      split
      · rename_i h2
        simp only [h, false_or]
        constructor
        · intro h3; omega
        · rintro ⟨rfl, _⟩; exact absurd h2 h
      · rename_i h2
        have e : a = b := UInt8.toNat_inj.1 (by rw [UInt8.lt_iff_toNat_lt] at h h2; omega)
        subst e
        rw [or_iff_right (UInt8.lt_irrefl _), and_iff_right rfl]
        exact compare_lt xs ys

theorem compare_eq : ∀ (a b : List UInt8), (Lib.compareBytes a b = 0) ↔ a = b
  | [], [] => by simp [Lib.compareBytes]
  | [], _ :: _ => by simp [Lib.compareBytes]
  | _ :: _, [] => by simp [Lib.compareBytes]
  | a :: xs, b :: ys => by
    rw [Lib.compareBytes]
    split
    · rename_i h
      simp only [List.cons.injEq]
      constructor
      · intro h3; omega
      · rintro ⟨rfl, _⟩; exact absurd h (UInt8.lt_irrefl _)
    · rename_i h
      split
      · rename_i h2
        simp only [List.cons.injEq]
        constructor
        · intro h3; omega
        · rintro ⟨rfl, _⟩; exact absurd h2 (UInt8.lt_irrefl _)
      · rename_i h2
        have e : a = b := UInt8.toNat_inj.1 (by rw [UInt8.lt_iff_toNat_lt] at h h2; omega)
        simp only [e, List.cons.injEq, true_and]
        exact compare_eq xs ys

theorem data_inj {a b : ByteArray} (h : a.data.toList = b.data.toList) : a = b := by rw [← B_toList a, h, B_toList]

theorem lt_irrefl (a : ByteArray) : lt a a = false := by simp [lt, List.lt_irrefl]
theorem lt_trans {a b c : ByteArray} (h : lt a b = true) (k : lt b c = true) : lt a c = true := by
  simp only [lt, decide_eq_true_eq] at *
  exact List.lt_trans h k
theorem lt_asymm {a b : ByteArray} (h : lt a b = true) : lt b a = false := by
  rcases hb : lt b a with _ | _
  · rfl
  · have := lt_trans h hb
    rw [lt_irrefl] at this
    cases this
theorem lt_ne {a b : ByteArray} (h : lt a b = true) : a ≠ b := fun e => by subst e; rw [lt_irrefl] at h; cases h
theorem lt_total {a b : ByteArray} (h : lt a b = false) (k : lt b a = false) : a = b := by
  simp only [lt, decide_eq_false_iff_not] at h k
  exact data_inj (List.le_antisymm (List.not_lt.1 k) (List.not_lt.1 h))

/-- Rising by paths. -/
def Rising (l : List Ent) : Prop := l.Pairwise fun a b => lt a.path b.path = true
theorem Rising.at_ {l : List Ent} (h : Rising l) {i j : Nat} (hij : i < j) (hj : j < l.length) : lt l[i].path l[j].path = true := List.pairwise_iff_getElem.1 h i j (by omega) hj hij

/-- Where an entry of a path stands, or would. -/
def AtIs (l : List Ent) (p : ByteArray) (k : Nat) (ok : Bool) : Prop :=
  k ≤ l.length ∧ (∀ (j : Nat) (h : j < l.length), j < k → lt l[j].path p = true) ∧ (∀ (j : Nat) (h : j < l.length), k ≤ j → lt l[j].path p = false) ∧ (ok = true ↔ ∃ h : k < l.length, l[k].path = p)
end Go.Proofs.YtknfaabhlcdeoaaGreatDoor
