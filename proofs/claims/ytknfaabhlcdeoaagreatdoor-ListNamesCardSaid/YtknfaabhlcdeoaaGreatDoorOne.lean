/- A stack of one layer of one file '/a'. -/
import Derived.Test.YtknfaabhlcdeoaaGreatDoorLAt
namespace Go.Proofs.YtknfaabhlcdeoaaGreatDoor
open Go Go.RowKit Go.Shelf Go.Proofs Go.Maps

def pa : ByteArray := ⟨#[47, 97]⟩
def oneE (d : ByteArray) : Ent := ⟨pa, 1, d⟩

theorem names_pa : names pa = some [⟨#[97]⟩] := by decide
theorem dir_pa : dirOf pa = ⟨#[47]⟩ := by
  rw [dirOf, names_pa]
  rfl
theorem one_ok {d : ByteArray} (h : d.size ≤ 256) : layerOk [oneE d] = true := by
  refine layerOk_of (by simp) fun t ht => ?_
  have : t = 0 := by simp at ht; omega
  subst this
  have h1 : headOk [oneE d] 0 (oneE d) = true := by
    rw [headOk_zero, entOk]
    simp [oneE, deep, names_pa, h]
  rw [List.getElem_cons_zero, okAt_dir h1, holds_of_dir dir_pa]
theorem one_find {d : ByteArray} (h : d.size ≤ 256) : findE [oneE d] pa = some (oneE d) := by
  rw [findE, if_pos (one_ok h)]
  simp [oneE]
theorem one_look {d : ByteArray} (h : d.size ≤ 256) : lookE [[oneE d]] pa = .ok (oneE d, 0) := by
  have hs : stackOk [[oneE d]] = true := by simp [stackOk, one_ok h]
  have ht : pathOf ((([⟨#[97]⟩] : List ByteArray)).take 1) = pa := by decide
  have ha : askE [[oneE d]] pa 0 = ((oneE d, 0), true) := by
    simp only [askE, List.length_cons, List.length_nil, askR]
    have hk : (oneE d).kind = 1 := rfl
    simp [one_find h, hk]
  rw [lookE, if_pos hs, names_pa]
  simp only [List.length_cons, List.length_nil, lookN, Nat.zero_add]
  rw [ht, ha]
  simp

theorem rd_one {w : World} {b : Nat} {t : TypeId} {x : Ent} (h : Blk w b t #[.string x.path, .int .i64 x.kind, .string x.data]) (hf : x.fits) : RdE w (.slice (some ⟨b, 0, none⟩) 1 1) [x] := by
  refine ⟨_, _, rfl, Nat.le_refl _, by omega, by simp, fun _ => ⟨b, 0, rfl, fun j y hj => ?_⟩⟩
  rcases j with _ | j
  · simp at hj
    subst hj
    refine ⟨_, ⟨rfl, hf⟩, fun i u hi => ?_⟩
    rcases i with _ | _ | _ | i
    · simp at hi; subst hi; exact h.cell 0 rfl
    · simp at hi; subst hi; exact h.cell 1 rfl
    · simp at hi; subst hi; exact h.cell 2 rfl
    · simp at hi
  · simp at hj
theorem rdK_one {w : World} {b b' : Nat} {t t' : TypeId} {x : Ent} (h : Blk w b t #[.string x.path, .int .i64 x.kind, .string x.data]) (hf : x.fits) (h' : Blk w b' t' #[.slice (some ⟨b, 0, none⟩) 1 1]) : RdK w (.slice (some ⟨b', 0, none⟩) 1 1) [[x]] := by
  refine ⟨_, _, rfl, Nat.le_refl _, by omega, by simp, fun _ => ⟨b', 0, rfl, fun j y hj => ?_⟩⟩
  rcases j with _ | j
  · simp at hj
    subst hj
    refine ⟨_, ⟨_, rfl, rd_one h hf⟩, fun i u hi => ?_⟩
    rcases i with _ | i
    · simp at hi; subst hi; exact h'.cell 0 rfl
    · simp at hi
  · simp at hj
end Go.Proofs.YtknfaabhlcdeoaaGreatDoor
