/- Texts in pieces, names and paths, as lists of bytes; no program. -/
import Derived.Lib.IndexLaws
import Derived.Lib.Bytealg
namespace Go.Proofs.YtknfaabhlcdeoaaGreatDoor

/-- A text in pieces, at a byte. -/
def segs (b : UInt8) : List UInt8 → List (List UInt8)
  | [] => [[]]
  | c :: l => if c = b then [] :: segs b l else match segs b l with
    | [] => [[c]]
    | h :: t => (c :: h) :: t

theorem segs_ne (b : UInt8) : ∀ l, segs b l ≠ []
  | [] => by simp [segs]
  | c :: l => by
    unfold segs
    split
    · simp
    · split <;> simp

theorem segs_len (b : UInt8) : ∀ (l x : List UInt8), x ∈ segs b l → x.length ≤ l.length
  | [], x, h => by
    have : x = [] := by simpa [segs] using h
    simp [this]
  | c :: l, x, h => by
    unfold segs at h
    split at h
    · rcases List.mem_cons.1 h with rfl | h
      · simp
      · have := segs_len b l x h
        simp; omega
    · split at h
      · have : x = [c] := by simpa using h
        simp [this]
      · rename_i y ys e
        rcases List.mem_cons.1 h with rfl | h
        · have := segs_len b l y (by rw [e]; simp)
          simp; omega
        · have := segs_len b l x (by rw [e]; simp [h])
          simp; omega

theorem segs_none (b : UInt8) : ∀ l : List UInt8, (∀ k : Nat, l[k]? ≠ some b) → segs b l = [l]
  | [], _ => rfl
  | c :: l, h => by
    have hc : ¬ c = b := fun e => h 0 (by simp [e])
    have ih := segs_none b l (fun k => by have := h (k + 1); simpa using this)
    simp [segs, hc, ih]

theorem segs_some (b : UInt8) : ∀ (i : Nat) (l : List UInt8), l[i]? = some b → (∀ k : Nat, k < i → l[k]? ≠ some b) → segs b l = l.take i :: segs b (l.drop (i + 1))
  | 0, [], h, _ => by simp at h
  | 0, c :: l, h, _ => by
    have : c = b := by simpa using h
    simp [segs, this]
  | i + 1, [], h, _ => by simp at h
  | i + 1, c :: l, h, hk => by
    have hc : ¬ c = b := fun e => hk 0 (by omega) (by simp [e])
    have ih := segs_some b i l (by simpa using h) (fun k hk' => by have := hk (k + 1) (by omega); simpa using this)
    simp [segs, hc, ih]

theorem segs_index_none {b : UInt8} {l : List UInt8} (h : Lib.indexByte l b = -1) : segs b l = [l] := segs_none b l (Lib.indexByte_none h)
theorem segs_index_some {b : UInt8} {l : List UInt8} {i : Nat} (h : Lib.indexByte l b = (i : Int)) : i < l.length ∧ segs b l = l.take i :: segs b (l.drop (i + 1)) := by
  obtain ⟨h1, h2⟩ := Lib.indexByte_some h
  exact ⟨(List.getElem?_eq_some_iff.1 h1).1, segs_some b i l h1 h2⟩

/-- A text of these bytes. -/
def B (l : List UInt8) : ByteArray := ⟨l.toArray⟩
theorem B_toList (s : ByteArray) : B s.data.toList = s := rfl
theorem toList_B (l : List UInt8) : (B l).data.toList = l := by simp [B]
theorem B_inj {a b : List UInt8} (h : B a = B b) : a = b := by rw [← toList_B a, h, toList_B]
theorem size_B (l : List UInt8) : (B l).size = l.length := by simp [B, ByteArray.size]

/-- The signs of names. -/
def sign (b : UInt8) : Bool := (97 ≤ b && b ≤ 122) || (48 ≤ b && b ≤ 57) || b == 45 || b == 95
def signsL : List UInt8 := [97, 98, 99, 100, 101, 102, 103, 104, 105, 106, 107, 108, 109, 110, 111, 112, 113, 114, 115, 116, 117, 118, 119, 120, 121, 122, 48, 49, 50, 51, 52, 53, 54, 55, 56, 57, 45, 95]
def nameOk (l : List UInt8) : Bool := decide (1 ≤ l.length) && decide (l.length ≤ 8) && l.all sign

/-- A path's names. -/
def splitP (p : List UInt8) : Option (List (List UInt8)) :=
  if p = [47] then some [] else match p with
    | c :: r => if c = 47 ∧ (segs 47 r).all nameOk = true ∧ (segs 47 r).length ≤ 6 then some (segs 47 r) else none
    | [] => none

theorem mem_signs (b : UInt8) : signsL.contains b = sign b := by
  have h : ∀ n : Fin 256, signsL.contains (UInt8.ofNat n.val) = sign (UInt8.ofNat n.val) := by decide +kernel
  have := h ⟨b.toNat, b.toNat_lt⟩
  simpa using this
end Go.Proofs.YtknfaabhlcdeoaaGreatDoor
