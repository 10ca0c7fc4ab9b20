/- shalelaw22.PinsNumbers is true. -/
import Derived.Test.YtiomljaengonoaaGreatDoorAwake
namespace Go.Proofs.YtiomljaengonoaaGreatDoor
open Go Go.RowKit Go.Shelf Go.Proofs Go.Maps

/-- A slice of bools in memory. -/
def BoolsIn (w : World) (v : Value) (xs : List Bool) : Prop := ∃ A c, v = .slice A xs.length c ∧ xs.length ≤ c ∧ c ≤ 9223372036854775807 ∧ (xs ≠ [] → ∃ b o, A = some ⟨b, o, none⟩ ∧ ∀ (j : Nat) (h : j < xs.length), w.cell? ⟨b, o + j, none⟩ = some (.bool xs[j]))

/-- The loop's relation: handles that are open, all numbered up to i. -/
def NumRel (w : World) (tb bm b b' nb : Nat) (n i : Value) (wr : World) : Prop :=
  ∃ (k : Nat) (l : LH), i = .int .i64 k ∧ n = .int .i64 l.length ∧ k ≤ nb ∧ Hid (∀ y ∈ l, y.1 < (k : Int) + 1) ∧ Hid (l.length ≤ k) ∧ PT wr tb bm k k l ∧ Ext w wr ∧
    Blk wr b 30 #[.string pa, .int .i64 1, .string ⟨#[]⟩] ∧ Blk wr b' 31 #[.slice (some ⟨b, 0, none⟩) 1 1]

theorem findH_snoc {l : LH} {k : Int} {d : ByteArray} {r : Value} (h : ∀ y ∈ l, y.1 < k) : findH (l ++ [(k, d, r)]) k = some (d, r) := by
  rw [findH, List.find?_append, List.find?_eq_none.2 (fun y hy => by have := h y hy; simp; omega)]
  simp
theorem findH_none {l : LH} {k : Int} (h : ∀ y ∈ l, y.1 < k) : findH l k = none := by
  rw [findH, List.find?_eq_none.2 (fun y hy => by have := h y hy; simp; omega)]
  rfl
theorem filter_snoc {l : LH} {k : Int} {d : ByteArray} {r : Value} (h : ∀ y ∈ l, y.1 < k) : (l ++ [(k, d, r)]).filter (fun x => !decide (x.1 = k)) = l := by
  rw [List.filter_append, List.filter_eq_self.2 (fun y hy => by have := h y hy; simp; omega)]
  simp

theorem num_round {w : World} {tb bm b b' nb k : Nat} {l : LH} {wr : World} (Hk : Hid (k + 1 ≤ nb ∧ l.length ≤ k)) (Hl : Hid (∀ y ∈ l, y.1 < (k : Int) + 1)) (Ht : PT wr tb bm (k + 1) ((k : Int) + 1) l) (hE : Ext w wr)
    (Hb : Blk wr b 30 #[.string pa, .int .i64 1, .string ⟨#[]⟩]) (Hb' : Blk wr b' 31 #[.slice (some ⟨b, 0, none⟩) 1 1]) :
    NumRel w tb bm b b' nb (.int .i64 l.length) (.int .i64 ((k : Int) + 1)) wr ∧ nb - (intOf (.int .i64 ((k : Int) + 1))).toNat < nb - (intOf (.int .i64 (k : Int))).toNat := by
  obtain ⟨h1, h2⟩ := Hk.out
  refine ⟨⟨k + 1, l, by simp, rfl, h1, Lib.hid fun y hy => ?_, Lib.hid (by omega), Ht, hE, Hb, Hb'⟩, ?_⟩
  · have := Hl.out y hy
    omega
  · simp [intOf]
    omega
theorem num_round' {w : World} {tb bm b b' nb k : Nat} {l : LH} {r : Value} {wr : World} (Hk : Hid (k + 1 ≤ nb ∧ l.length ≤ k)) (Hl : Hid (∀ y ∈ l, y.1 < (k : Int) + 1)) (Ht : PT wr tb bm (k + 1) ((k : Int) + 1) (l ++ [((k : Int) + 1, ⟨#[]⟩, r)])) (hE : Ext w wr)
    (Hb : Blk wr b 30 #[.string pa, .int .i64 1, .string ⟨#[]⟩]) (Hb' : Blk wr b' 31 #[.slice (some ⟨b, 0, none⟩) 1 1]) :
    NumRel w tb bm b b' nb (.int .i64 ((l.length : Int) + 1)) (.int .i64 ((k : Int) + 1)) wr ∧ nb - (intOf (.int .i64 ((k : Int) + 1))).toNat < nb - (intOf (.int .i64 (k : Int))).toNat := by
  obtain ⟨h1, h2⟩ := Hk.out
  refine ⟨⟨k + 1, _, by simp, by simp, h1, Lib.hid fun y hy => ?_, Lib.hid (by simp; omega), Ht, hE, Hb, Hb'⟩, ?_⟩
  · rcases List.mem_append.1 hy with hy | hy
    · have := Hl.out y hy; omega
    · simp at hy; subst hy; simp; omega
  · simp [intOf]
    omega

set_option maxHeartbeats 8000000 in
theorem Numbers_any (v : Value) (xs : List Bool) (w : World) (hL : Laid w) (hv : BoolsIn w v xs) :
    Calls Tryz.prog 4 #[v] w fun e w' => e = .returned (.bool true) ∧ Ext w w' := by
  have HA := fun w' h => awake_any w' (Laid.ext hL h)
  obtain ⟨nb, hnb⟩ : ∃ n, n = xs.length := ⟨_, rfl⟩
  have Hnb := Lib.hid hnb
  obtain ⟨A, c, rfl, hc1, hc2, hcell⟩ := hv
  have Hcell := Lib.hid hcell
  rw [← hnb] at hc1 ⊢
  have HL := Lib.hid hL
  clear hnb hcell hL
  by_cases h : nb ≤ 60
  · have h' : ¬ (60 : Int) < (nb : Int) := by omega
    have H60 := Lib.hid h
    clear h
    go_enter Tryz.func4, Tryz.ntmps4
    go_upto_region 3 with (go_at_call 13; refine (HA _ (Ext.refl _)).mono ?_; rintro e W0 ⟨rfl, hE0⟩)
    go_upto_region 4 with (go_at_call 14; refine (New_any _).mono ?_; rintro e W1 ⟨tb, bm, rfl, ht1, htb, hbm, hE1⟩)
    have hBo : ∀ W W', Ext W0 W → But (Two tb bm) W W' → Ext W0 W' := fun W W' he hb => hb.old he (fun k hk => by rcases hk with rfl | rfl <;> assumption)
    go_upto_region 5 with (fail)
    have hE2 := hE1.trans (w1s_ext W1 ⟨#[]⟩)
    have ht2 := ht1.ext (w1s_ext W1 ⟨#[]⟩)
    have hb := w1s_b W1 ⟨#[]⟩
    have hb' := w1s_b' W1 ⟨#[]⟩
    have hnt := ht1.box.lt
    have hnm := ht1.own.lt
    obtain ⟨b, hbe⟩ : ∃ b, W1.heap.size = b := ⟨_, rfl⟩
    obtain ⟨b', hbe'⟩ : ∃ b', b + 1 = b' := ⟨_, rfl⟩
    change Code.wp _ _ _ _ (w1s W1 ⟨#[]⟩)
    rw [hbe] at hb hb' hnt hnm ⊢
    rw [hbe'] at hb' ⊢
    have hn1 : ¬ Two tb bm b := by rintro (e | e) <;> omega
    have hn2 : ¬ Two tb bm b' := by rintro (e | e) <;> omega
    clear hbe hbe' hnt hnm ht1
    generalize w1s W1 ⟨#[]⟩ = W2 at hE2 ht2 hb hb' ⊢
    have HBo := Lib.hid hBo
    clear hBo
    go_wp2
    go_loopw [5, 6] (fun n i wr => NumRel W0 tb bm b b' nb n i wr) (fun _ i _ => nb - (intOf i).toNat)
    case atStart => exact ⟨0, [], rfl, rfl, by omega, Lib.hid (by simp), Lib.hid (by simp), ht2, hE2, hb, hb'⟩
    case round =>
      obtain ⟨k, l, rfl, rfl, hkn, Hl, Hlk, ht, hE, hb, hb'⟩ := hrel
      by_cases hlt : k < nb
      · have hlt' : (k : Int) < (nb : Int) := by omega
        have hh : k < xs.length := by have := Hnb.out; omega
        obtain ⟨ab, ao, rfl, hcell⟩ := Hcell.out (List.ne_nil_of_length_pos (by omega))
        have g0 := hE0.cell (hcell k hh)
        obtain ⟨x, hx⟩ : ∃ x, xs[k]'hh = x := ⟨_, rfl⟩
        rw [hx] at g0
        have hl60 : l.length ≤ 60 := by have := H60.out; have := Hlk.out; omega
        have hw1 : wrap64 ((k : Int) + 1) = (k : Int) + 1 := by have := H60.out; rw [wrap64]; omega
        have hw2 : wrap64 ((l.length : Int) + 1) = (l.length : Int) + 1 := by rw [wrap64]; omega
        have hw3 : wrap64 (l.length : Int) = (l.length : Int) := by rw [wrap64]; omega
        have hwf : (Lit.int .i64 ((k : Int) + 1)).wf = true := WalkArith.wf_i64 ⟨by omega, by have := H60.out; omega⟩
        have hO := open_one tb bm k k l ⟨#[]⟩ b b' wr (by decide) ht hb hb' (.slice none 0 0) [] (Rd.nil _ _ _) (Off.none _ _) (by decide) (by omega) (by have := H60.out; omega) (by have := H60.out; omega) Hl.out
        clear hcell hx hl60 ht
        go_upto_region 10 with (go_at_call 15; refine hO.mono ?_; rintro e W3 ⟨A3, c3, rfl, ht3, _, _, hB3⟩)
        have hE3 := HBo.out _ _ hE hB3
        have hb3 := hb.but hB3 hn1
        have hb3' := hb'.but hB3 hn2
        clear hO hb hb' hE hB3
        go_upto_region 12 with (go_at_call 17; ((with_reducible refine (Code_nil _).mono ?_)); rintro e W4 ⟨rfl, hE4⟩)
        have hE4' := hE3.trans hE4
        have ht4 := ht3.ext hE4
        have hb4 := hb3.ext hE4
        have hb4' := hb3'.ext hE4
        have g4 := hE4'.cell g0
        clear ht3 hb3 hb3' hE3 hE4 g0
        have Hl2 : Hid (∀ y ∈ l, y.1 < (k : Int) + 1) := Hl
        have Hk1 : Hid (k + 1 ≤ nb ∧ l.length ≤ k) := Lib.hid ⟨by omega, Hlk.out⟩
        rcases x with _ | _
        · have hC := Count_any tb bm (k + 1) ((k : Int) + 1) _ W4 ht4
          have hlen : (((l ++ [((k : Int) + 1, (⟨#[]⟩ : ByteArray), Value.slice A3 0 c3)]).length : Nat) : Int) = (l.length : Int) + 1 := by simp
          simp only [List.length_nil] at hC
          rw [hlen] at hC
          have Ht := Lib.hid ht4
          have Hb := Lib.hid hb4
          have Hb' := Lib.hid hb4'
          clear ht4 hb4 hb4' Hl Hlk
          go_wp2_with (go_at_call 19; ((with_reducible refine hC.mono ?_)); rintro e W8 ⟨rfl, rfl⟩)
          exact num_round' Hk1 Hl2 Ht.out hE4' Hb.out Hb'.out
        · have hCy := close_yes tb bm (k + 1) ((k : Int) + 1) ((k : Int) + 1) _ ⟨#[]⟩ A3 0 c3 W4 ht4 hwf (findH_snoc Hl2.out)
          rw [filter_snoc Hl2.out] at hCy
          clear ht4
          go_upto_region 15 with (go_at_call 18; ((with_reducible refine hCy.mono ?_)); rintro e W5 ⟨rfl, ht5, hB5⟩)
          have hE5 := HBo.out _ _ hE4' hB5
          have hb5 := hb4.but hB5 hn1
          have hb5' := hb4'.but hB5 hn2
          clear hCy hb4 hb4' hE4' hB5 g4
          go_upto_region 18 with (go_at_call 17; ((with_reducible refine (Code_nil _).mono ?_)); rintro e W6 ⟨rfl, hE6⟩)
          have ht6 := ht5.ext hE6
          have hCn := close_no tb bm (k + 1) ((k : Int) + 1) ((k : Int) + 1) l W6 ht6 hwf (findH_none Hl2.out)
          go_upto_region 19 with (go_at_call 18; ((with_reducible refine hCn.mono ?_)); rintro e W7 ⟨a7, rfl, hEr7, hE7⟩)
          have hE67 := hE6.trans hE7
          have hE7' := hE5.trans hE67
          have hK := code_ok hEr7 (HL.out.ext (hE0.trans hE7'))
          clear hCn ht6
          go_upto_region 21 with (go_at_call 17; ((with_reducible refine hK.mono ?_)); rintro e W8 ⟨rfl, hE8⟩)
          have hE58 := hE67.trans hE8
          have ht8 := ht5.ext hE58
          have hC := Count_any tb bm (k + 1) ((k : Int) + 1) _ W8 ht8
          have Ht := Lib.hid ht8
          have Hb := Lib.hid (hb5.ext hE58)
          have Hb' := Lib.hid (hb5'.ext hE58)
          have hE8' := hE5.trans hE58
          clear ht8 ht5 hb5 hb5' hK Hl Hlk
          go_wp2_with (go_at_call 19; ((with_reducible refine hC.mono ?_)); rintro e W9 ⟨rfl, rfl⟩)
          exact num_round Hk1 Hl2 Ht.out hE8' Hb.out Hb'.out
      · have hlt' : ¬ (k : Int) < (nb : Int) := by omega
        go_wp2
        go_ret
        exact ⟨rfl, hE0.trans hE⟩
  · have h' : (60 : Int) < (nb : Int) := by omega
    go_enter Tryz.func4, Tryz.ntmps4
    go_upto_region 2 with (go_at_call 13; refine (HA _ (Ext.refl _)).mono ?_; rintro e W0 ⟨rfl, hE0⟩)
    go_wp2_with (go_at_call 13; refine (HA _ hE0).mono ?_; rintro e W1 ⟨rfl, hE1⟩)
    go_ret
    exact ⟨rfl, hE0.trans hE1⟩
end Go.Proofs.YtiomljaengonoaaGreatDoor
