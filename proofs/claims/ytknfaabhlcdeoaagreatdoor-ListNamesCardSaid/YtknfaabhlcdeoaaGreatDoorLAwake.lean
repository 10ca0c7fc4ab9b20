/- shalelaw13's awake: the document's example holds. -/
import Derived.Test.YtknfaabhlcdeoaaGreatDoorLNames
import Derived.Test.YtknfaabhlcdeoaaGreatDoorLaidT
import Derived.Test.YtknfaabhlcdeoaaGreatDoorOne
namespace Go.Proofs.YtknfaabhlcdeoaaGreatDoor
open Go Go.RowKit Go.Shelf Go.Proofs

def rootB : ByteArray := ⟨#[47]⟩
theorem look_root {s : List (List Ent)} (h : stackOk s = true) : lookE s rootB = .ok (⟨rootB, 2, ⟨#[]⟩⟩, 0) := by
  rw [lookE, if_pos h, rootB, names_root]
  rfl
theorem dir_root {s : List (List Ent)} (h : stackOk s = true) : dirE s rootB = .ok 0 := by
  rw [dirE, look_root h]
  rfl

theorem names_of_nil {p : ByteArray} {f : Nat} {l : List ByteArray} (h : NamesIs [] p f l) : l = [] := by
  rcases l with _ | ⟨x, l⟩
  · rfl
  · have := ((h.2 x).1 (by simp)).1
    simp [metP] at this

theorem names_of_one {d : ByteArray} (hd : d.size ≤ 256) {l : List ByteArray} (h : NamesIs [[oneE d]] rootB 0 l) : l = [⟨#[97]⟩] := by
  have hin : inP rootB (oneE d) = some ⟨#[97]⟩ := inP_iff.2 ⟨[], names_pa, rfl⟩
  have hmem : ∀ x, x ∈ l ↔ x = ⟨#[97]⟩ := fun x => by
    rw [h.2]
    have hm : metP [[oneE d]] rootB 0 = [⟨#[97]⟩] := by
      simp [metP, hin]
    rw [hm, List.mem_singleton]
    constructor
    · exact fun h => h.1
    · rintro rfl
      refine ⟨rfl, ?_⟩
      have hc : childP rootB ⟨#[97]⟩ = pa := by rw [childP, if_pos (show rootB = ⟨#[47]⟩ from rfl)]; rfl
      rw [hc, showsE, one_look hd]
  rcases l with _ | ⟨x, _ | ⟨y, l⟩⟩
  · have := (hmem ⟨#[97]⟩).2 rfl
    simp at this
  · rw [(hmem x).1 (by simp)]
  · have h1 := h.1
    rw [(hmem x).1 (by simp), (hmem y).1 (by simp), List.pairwise_cons] at h1
    have := h1.1 ⟨#[97]⟩ (by simp)
    rw [lt_irrefl] at this
    cases this

/-- The stack as the code lays it. -/
def w1e (w : World) (d : ByteArray) : World := (w.alloc (.cells #[.string ⟨#[47, 97]⟩, .int .i64 1, .string d] 33)).alloc (.cells #[.slice (some ⟨w.heap.size, 0, none⟩) 1 1] 34)
theorem w1e_ext (w : World) (d : ByteArray) : Ext w (w1e w d) := ((Ext.refl w).alloc _).alloc _
theorem w1e_rd (w : World) (d : ByteArray) (hd : d.size ≤ 256) : RdK (w1e w d) (.slice (some ⟨w.heap.size + 1, 0, none⟩) 1 1) [[oneE d]] := by
  have h1 : Blk (w1e w d) w.heap.size 33 #[.string pa, .int .i64 1, .string d] := (Blk.new w _ _).ext ((Ext.refl _).alloc _)
  have h2 : Blk (w1e w d) (w.heap.size + 1) 34 #[.slice (some ⟨w.heap.size, 0, none⟩) 1 1] := by
    have := Blk.new (w.alloc (.cells #[.string ⟨#[47, 97]⟩, .int .i64 1, .string d] 33)) 34 #[.slice (some ⟨w.heap.size, 0, none⟩) 1 1]
    rw [World.size_alloc] at this
    exact this
  exact rdK_one (x := oneE d) h1 ⟨by simp [oneE, pa, ByteArray.size], by show d.size ≤ _; omega⟩ h2

theorem names_root_ok (v : Value) (s : List (List Ent)) (w : World) (hv : RdK w v s) (hs : stackOk s = true) : Calls Tryz.prog 18 #[v, .string ⟨#[47]⟩] w (NamesOk s rootB 0 w) :=
  Names_ok v s rootB 0 w hv (by decide) (dir_root hs)

set_option maxHeartbeats 4000000 in
theorem LAwake_any (w : World) : Calls Tryz.prog 14 #[] w fun e w' => e = .returned (.bool true) ∧ Ext w w' := by
  have H0 := fun w => names_root_ok (.slice none 0 0) [] w (Rd.nil _ _ _) rfl
  have H1 := fun w' => names_root_ok _ _ _ (w1e_rd w' ⟨#[]⟩ (by decide)) (by simp [stackOk, one_ok (d := ⟨#[]⟩) (by decide)])
  go_enter Tryz.func14, Tryz.ntmps14
  go_wp2_with fail
  refine (H0 _).mono ?_
  rintro e W1 ⟨v1, l1, rfl, hl1, hr1, hE1⟩
  obtain rfl := names_of_nil hl1
  obtain ⟨A1, c1, rfl, _⟩ := hr1
  clear hl1
  go_wp2_with fail
  change Calls _ _ _ (w1e W1 ⟨#[]⟩) _
  have hE2 := hE1.trans (w1e_ext W1 ⟨#[]⟩)
  refine (H1 W1).mono ?_
  rintro e W3 ⟨v3, l3, rfl, hl3, hr3, hE3⟩
  obtain rfl := names_of_one (by decide) hl3
  obtain ⟨A3, c3, rfl, _⟩ := hr3
  have hE4 := hE2.trans hE3
  clear hl3 H0 H1 hE1 hE2 hE3
  go_wp2_with (go_at_call 19; ((with_reducible refine (Code_nil _).mono ?_)); rintro e W4 ⟨rfl, hE5⟩; have hE6 := hE4.trans hE5; clear hE4 hE5; have hE4 := hE6; clear hE6)
  go_ret
  exact ⟨rfl, hE4⟩
end Go.Proofs.YtknfaabhlcdeoaaGreatDoor
