/- Tables that grow and shrink: plain facts. -/
import Derived.Test.YtknfaabhlcdeoaaGreatDoorAwake
namespace Go.Proofs.YtknfaabhlcdeoaaGreatDoor
open Go Go.RowKit Go.Shelf Go.Proofs Go.Maps

/-- A slice of bools in memory. -/
def BoolsIn (w : World) (v : Value) (xs : List Bool) : Prop := ∃ A c, v = .slice A xs.length c ∧ xs.length ≤ c ∧ c ≤ 9223372036854775807 ∧ (xs ≠ [] → ∃ b o, A = some ⟨b, o, none⟩ ∧ ∀ (j : Nat) (h : j < xs.length), w.cell? ⟨b, o + j, none⟩ = some (.bool xs[j]))

/-- The loop's relation: handles that are open, all numbered up to i. -/
def NumRel (w : World) (tb bm b b' nb : Nat) (n i : Value) (wr : World) : Prop :=
  ∃ (k : Nat) (l : LH), i = .int .i64 k ∧ n = .int .i64 l.length ∧ k ≤ nb ∧ Hid (∀ y ∈ l, y.1 < (k : Int) + 1) ∧ Hid (l.length ≤ k) ∧ PT wr tb bm k k l ∧ Ext w wr ∧
    Blk wr b 33 #[.string pa, .int .i64 1, .string ⟨#[]⟩] ∧ Blk wr b' 34 #[.slice (some ⟨b, 0, none⟩) 1 1]

theorem findH_snoc {l : LH} {k : Int} {d : ByteArray} {r : Value} (h : ∀ y ∈ l, y.1 < k) : findH (l ++ [(k, d, r)]) k = some (d, r) := by
  rw [findH, List.find?_append, List.find?_eq_none.2 (fun y hy => by have := h y hy; simp; omega)]
  simp
theorem findH_none {l : LH} {k : Int} (h : ∀ y ∈ l, y.1 < k) : findH l k = none := by
  rw [findH, List.find?_eq_none.2 (fun y hy => by have := h y hy; simp; omega)]
  rfl
theorem filter_snoc {l : LH} {k : Int} {d : ByteArray} {r : Value} (h : ∀ y ∈ l, y.1 < k) : (l ++ [(k, d, r)]).filter (fun x => !decide (x.1 = k)) = l := by
  rw [List.filter_append, List.filter_eq_self.2 (fun y hy => by have := h y hy; simp; omega)]
  simp

theorem num_round {w : World} {tb bm b b' nb k : Nat} {l : LH} {wr : World} (Hk : Hid (k + 1 ≤ nb ∧ l.length ≤ k)) (Hl : Hid (∀ y ∈ l, y.1 < (k : Int) + 1)) (Ht : PT wr tb bm (k + 1) ((k : Int) + 1) l) (hE : Ext w wr)
    (Hb : Blk wr b 33 #[.string pa, .int .i64 1, .string ⟨#[]⟩]) (Hb' : Blk wr b' 34 #[.slice (some ⟨b, 0, none⟩) 1 1]) :
    NumRel w tb bm b b' nb (.int .i64 l.length) (.int .i64 ((k : Int) + 1)) wr ∧ nb - (intOf (.int .i64 ((k : Int) + 1))).toNat < nb - (intOf (.int .i64 (k : Int))).toNat := by
  obtain ⟨h1, h2⟩ := Hk.out
  refine ⟨⟨k + 1, l, by simp, rfl, h1, Lib.hid fun y hy => ?_, Lib.hid (by omega), Ht, hE, Hb, Hb'⟩, ?_⟩
  · have := Hl.out y hy
    omega
  · simp [intOf]
    omega
theorem num_round' {w : World} {tb bm b b' nb k : Nat} {l : LH} {r : Value} {wr : World} (Hk : Hid (k + 1 ≤ nb ∧ l.length ≤ k)) (Hl : Hid (∀ y ∈ l, y.1 < (k : Int) + 1)) (Ht : PT wr tb bm (k + 1) ((k : Int) + 1) (l ++ [((k : Int) + 1, ⟨#[]⟩, r)])) (hE : Ext w wr)
    (Hb : Blk wr b 33 #[.string pa, .int .i64 1, .string ⟨#[]⟩]) (Hb' : Blk wr b' 34 #[.slice (some ⟨b, 0, none⟩) 1 1]) :
    NumRel w tb bm b b' nb (.int .i64 ((l.length : Int) + 1)) (.int .i64 ((k : Int) + 1)) wr ∧ nb - (intOf (.int .i64 ((k : Int) + 1))).toNat < nb - (intOf (.int .i64 (k : Int))).toNat := by
  obtain ⟨h1, h2⟩ := Hk.out
  refine ⟨⟨k + 1, _, by simp, by simp, h1, Lib.hid fun y hy => ?_, Lib.hid (by simp; omega), Ht, hE, Hb, Hb'⟩, ?_⟩
  · rcases List.mem_append.1 hy with hy | hy
    · have := Hl.out y hy; omega
    · simp at hy; subst hy; simp; omega
  · simp [intOf]
    omega
end Go.Proofs.YtknfaabhlcdeoaaGreatDoor
