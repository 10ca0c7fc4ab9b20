/- shalelaw22's awake: the document's example holds. -/
import Derived.Test.YtknfaabhlcdeoaaGreatDoorLaidT
import Derived.Test.YtknfaabhlcdeoaaGreatDoorOne
import Derived.Test.YtknfaabhlcdeoaaGreatDoorOpen
namespace Go.Proofs.YtknfaabhlcdeoaaGreatDoor
open Go Go.RowKit Go.Shelf Go.Proofs Go.Maps


theorem findH_last (d : ByteArray) (r : Value) (k : Int) : findH ([] ++ [(k, d, r)]) k = some (d, r) := by simp [findH]
theorem filter_last (d : ByteArray) (r : Value) (k : Int) : (([] ++ [(k, d, r)] : LH).filter fun x => !decide (x.1 = k)) = [] := by simp
theorem code_ok {w : World} {a : Nat} {c : Int} (h : ErrN w 1 (.iface 181 (.pointer (some ⟨a, 0, none⟩))) c) (hl : Laid w) :
    Calls Tryz.prog 19 #[.iface 181 (.pointer (some ⟨a, 0, none⟩))] w fun e w' => e = .returned (.int .i64 c) ∧ Ext w w' := Code_err 1 _ c w h hl

/-- A stack of one file is laid, and opened. -/
theorem open_one (tb bm n : Nat) (last : Int) (l : LH) (d : ByteArray) (b b' : Nat) (w : World) (hd : d.size ≤ 256) (ht : PT w tb bm n last l)
    (h : Blk w b 33 #[.string pa, .int .i64 1, .string d]) (h' : Blk w b' 34 #[.slice (some ⟨b, 0, none⟩) 1 1]) (r : Value) (xs : List Ref) (hr : RdR w r xs) (hro : Off (Two tb bm) r) (hxs : xs.length ≤ 5000000000000)
    (hlast : 0 ≤ last) (hlast' : last ≤ 4611686018427387904) (hn : n < 4611686018427387904) (hl : ∀ y ∈ l, y.1 < last + 1) :
    Calls Tryz.prog 24 #[.pointer (some ⟨tb, 0, none⟩), .slice (some ⟨b', 0, none⟩) 1 1, r, .string pa] w (OpenOk tb bm n last l d xs w) :=
  open_yes tb bm n last l _ r [[oneE d]] pa (oneE d, 0) xs w (rdK_one (x := oneE d) h ⟨by simp [oneE, pa, ByteArray.size], by show d.size ≤ _; omega⟩ h') (by simp [pa, ByteArray.size]) (one_look hd) (by simp [oneE]) ht hr hro hxs hlast hlast' hn hl

/-- The stack as the code lays it. -/
def w1s (w : World) (d : ByteArray) : World := (w.alloc (.cells #[.string ⟨#[47, 97]⟩, .int .i64 1, .string d] 33)).alloc (.cells #[.slice (some ⟨w.heap.size, 0, none⟩) 1 1] 34)
theorem w1s_ext (w : World) (d : ByteArray) : Ext w (w1s w d) := ((Ext.refl w).alloc _).alloc _
theorem w1s_b (w : World) (d : ByteArray) : Blk (w1s w d) w.heap.size 33 #[.string pa, .int .i64 1, .string d] := (Blk.new w _ _).ext ((Ext.refl _).alloc _)
theorem w1s_b' (w : World) (d : ByteArray) : Blk (w1s w d) (w.heap.size + 1) 34 #[.slice (some ⟨w.heap.size, 0, none⟩) 1 1] := by
  have := Blk.new (w.alloc (.cells #[.string ⟨#[47, 97]⟩, .int .i64 1, .string d] 33)) 34 #[.slice (some ⟨w.heap.size, 0, none⟩) 1 1]
  rw [World.size_alloc] at this
  exact this

set_option maxHeartbeats 8000000 in
theorem awake_any (w : World) (hL : Laid w) : Calls Tryz.prog 22 #[] w fun e w' => e = .returned (.bool true) ∧ Ext w w' := by
  go_enter Tryz.func22, Tryz.ntmps22
  go_upto_region 2 with (go_at_call 23; refine (New_any _).mono ?_; rintro e W1 ⟨tb, bm, rfl, ht1, htb, hbm, hE1⟩)
  have hBo : ∀ W W', Ext w W → But (Two tb bm) W W' → Ext w W' := fun W W' he hb => hb.old he (fun k hk => by rcases hk with rfl | rfl <;> assumption)
  go_wp2_with fail
  have hE2 := hE1.trans (w1s_ext W1 ⟨#[120, 121, 122]⟩)
  have ht2 := ht1.ext (w1s_ext W1 ⟨#[120, 121, 122]⟩)
  have hO := open_one tb bm 0 0 [] ⟨#[120, 121, 122]⟩ W1.heap.size (W1.heap.size + 1) _ (by decide) ht2 (w1s_b W1 _) (w1s_b' W1 _) (.slice none 0 0) [] (Rd.nil _ _ _) (Off.none _ _) (by decide) (by decide) (by decide) (by decide) (by simp)
  obtain ⟨yb, hyb⟩ : ∃ yb, W1.heap.size + 1 = yb := ⟨_, rfl⟩
  rw [hyb] at hO
  rw [hyb]
  change Calls _ _ _ (w1s W1 ⟨#[120, 121, 122]⟩) _
  clear hyb
  generalize w1s W1 ⟨#[120, 121, 122]⟩ = W2 at hE2 ht2 hO ⊢
  refine hO.mono ?_
  rintro e W3 ⟨A, c, rfl, ht3, _, _, _, _, hB3⟩
  have ht3 : PT W3 tb bm 1 1 [(1, ⟨#[120, 121, 122]⟩, .slice A 0 c)] := ht3
  have hE3 := hBo _ _ hE2 hB3
  have hw1 : (Lit.int .i64 1).wf = true := WalkArith.wf_i64 (by decide)
  have HR := fun w' (h : Ext W3 w') => read_yes tb bm 1 1 1 1 9 [(1, ⟨#[120, 121, 122]⟩, .slice A 0 c)] ⟨#[120, 121, 122]⟩ A 0 c w' (ht3.ext h) hw1 rfl
  have hpart : part ⟨#[120, 121, 122]⟩ 1 9 = ⟨#[121, 122]⟩ := by decide
  rw [hpart] at HR
  have HC := fun w' (h : Ext W3 w') => close_yes tb bm 1 1 1 [(1, ⟨#[120, 121, 122]⟩, .slice A 0 c)] ⟨#[120, 121, 122]⟩ A 0 c w' (ht3.ext h) hw1 rfl
  have Hl := Lib.hid hL
  clear ht1 ht2 ht3 hO hL
  go_upto_region 5 with (first | (go_at_call 27; refine (HR _ (Ext.refl _)).mono ?_; rintro e W4 ⟨rfl, hE4⟩) | (go_at_call 25; refine (HC _ hE4).mono ?_; rintro e W5 ⟨rfl, ht5, hB5⟩))
  have hE5 := hBo _ _ (hE3.trans hE4) hB5
  have hR2 := read_no tb bm 1 1 1 0 1 [] W5 ht5 hw1 rfl
  clear HR HC ht5
  go_upto_region 6 with (go_at_call 27; refine hR2.mono ?_; rintro e W6 ⟨a6, rfl, hEr6, hE6⟩)
  have hE6' := hE5.trans hE6
  have HK := fun w' h h' => code_ok (w := w') (a := a6) (c := 14) h h'
  go_wp2_with (go_at_call 19; first | ((with_reducible refine (Code_nil _).mono ?_); rintro e W7 ⟨rfl, hE7⟩; first | (have hE7a := hE6'.trans hE7; have hEr7 := hEr6.below hE7.below; clear hE6' hE7 hEr6) | (have hE7a' := hE7a.trans hE7; have hEr7' := hEr7.below hE7.below; clear hE7a hE7 hEr7; have hE7a := hE7a'; have hEr7 := hEr7'; clear hE7a' hEr7')) | ((with_reducible refine (HK _ hEr7 (Hl.out.ext hE7a)).mono ?_); rintro e W8 ⟨rfl, hE8⟩))
  go_ret
  exact ⟨rfl, hE7a.trans hE8⟩
end Go.Proofs.YtknfaabhlcdeoaaGreatDoor
