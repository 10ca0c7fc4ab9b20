/- shalelaw22.PinsParts is true. -/
import Derived.Test.YtiomljaengonoaaGreatDoorAwake
namespace Go.Proofs.YtiomljaengonoaaGreatDoor
open Go Go.RowKit Go.Shelf Go.Proofs Go.Maps

theorem part_size (d : ByteArray) (i k : Nat) : (part d i k).size ≤ k := by
  rw [part, size_B, List.length_take]; omega
theorem take_part (d : ByteArray) (i k : Nat) : B (d.data.toList.take i) ++ part d i k = B (d.data.toList.take (i + k)) := by
  apply data_inj
  rw [part, ByteArray.data_append, Array.toList_append]
  simp only [toList_B]
  rw [List.take_add]

def PartRel (N : Nat) (d : ByteArray) (W3 : World) (s at_ : Value) (wr : World) : Prop := ∃ i : Nat, s = .string (B (d.data.toList.take i)) ∧ at_ = .int .i64 i ∧ Hid (i ≤ N + 40) ∧ Ext W3 wr

set_option maxHeartbeats 8000000 in
theorem Parts_any (d : ByteArray) (n : Int) (w : World) (hL : Laid w) (hn0 : 0 ≤ n) (hn1 : n ≤ 255) :
    Calls Tryz.prog 3 #[.string d, .int .u8 n] w fun e w' => e = .returned (.bool true) ∧ Ext w w' := by
  have HA := fun w' h => awake_any w' (Laid.ext hL h)
  by_cases h : d.size ≤ 256
  · have h' : ¬ (256 : Int) < (d.size : Int) := by omega
    go_enter Tryz.func3, Tryz.ntmps3
    go_upto_region 3 with (go_at_call 13; refine (HA _ (Ext.refl _)).mono ?_; rintro e W0 ⟨rfl, hE0⟩)
    go_upto_region 4 with (go_at_call 14; refine (New_any _).mono ?_; rintro e W1 ⟨tb, bm, rfl, ht1, htb, hbm, hE1⟩)
    have hBo : ∀ W W', Ext W0 W → But (Two tb bm) W W' → Ext W0 W' := fun W W' he hb => hb.old he (fun k hk => by rcases hk with rfl | rfl <;> assumption)
    go_wp2_with fail
    have hE2 := hE1.trans (w1s_ext W1 d)
    have ht2 := ht1.ext (w1s_ext W1 d)
    have hO := open_one tb bm 0 0 [] d W1.heap.size (W1.heap.size + 1) _ h ht2 (w1s_b W1 _) (w1s_b' W1 _) (.slice none 0 0) [] (Rd.nil _ _ _) (Off.none _ _) (by decide) (by decide) (by decide) (by decide) (by simp)
    obtain ⟨yb, hyb⟩ : ∃ yb, W1.heap.size + 1 = yb := ⟨_, rfl⟩
    rw [hyb] at hO
    rw [hyb]
    change Calls _ _ _ (w1s W1 d) _
    clear hyb
    generalize w1s W1 d = W2 at hE2 ht2 hO ⊢
    refine hO.mono ?_
    rintro e W3 ⟨A, c, rfl, ht3, _, _, hB3⟩
    have ht3 : PT W3 tb bm 1 1 [(1, d, .slice A 0 c)] := ht3
    have hE3 := hBo _ _ hE2 hB3
    have hw1 : (Lit.int .i64 1).wf = true := WalkArith.wf_i64 (by decide)
    have HR := fun (i k : Nat) w' (h : Ext W3 w') => read_yes tb bm 1 1 1 i k [(1, d, .slice A 0 c)] d A 0 c w' (ht3.ext h) hw1 rfl
    clear ht1 ht2 ht3 hO hL hBo hB3
    go_upto_region 6 with (fail)
    obtain ⟨k, hk, hk1, hk2⟩ : ∃ k : Nat, 1 + n % 40 = (k : Int) ∧ 1 ≤ k ∧ k ≤ 40 := ⟨(1 + n % 40).toNat, by omega, by omega, by omega⟩
    rw [hk]
    clear hk
    obtain ⟨N, hN⟩ : ∃ N : Nat, N = 300 := ⟨_, rfl⟩
    have HN := Lib.hid hN
    clear hN
    go_wp2
    go_loopw [9, 10] (fun s at_ wr => PartRel N d W3 s at_ wr) (fun _ at_ _ => N - (intOf at_).toNat)
    case atStart => exact ⟨0, rfl, rfl, Lib.hid (by omega), Ext.refl _⟩
    case round =>
      obtain ⟨i, rfl, rfl, hi, hE⟩ := hrel
      by_cases hlt : i < N
      · have hlt' : (i : Int) < 300 := by have := HN.out; omega
        have hps := part_size d i k
        have htp := take_part d i k
        have Htp := Lib.hid htp
        clear htp
        have HRi := HR i k
        clear HR
        have hps' : ¬ (k : Int) < ((part d i k).size : Int) := by omega
        obtain ⟨x, hx⟩ : ∃ x, part d i k = x := ⟨_, rfl⟩
        rw [hx] at HRi hps'
        have Hx := Lib.hid hx
        have hxsz0 : x.size ≤ k := by rw [← hx]; exact hps
        clear hps hx
        obtain ⟨y, hy⟩ : ∃ y, B (d.data.toList.take i) = y := ⟨_, rfl⟩
        rw [hy]
        have Hy := Lib.hid hy
        have hysz : y.size ≤ 256 := by rw [← hy, size_B, List.length_take]; have : d.size = d.data.toList.length := rfl; omega
        have hxsz : x.size ≤ 40 := by omega
        clear hy
        go_upto_region 11 with (go_at_call 16; ((with_reducible refine (HRi _ hE).mono ?_)); rintro e W4 ⟨rfl, hE4⟩)
        have Hlt := Lib.hid hlt
        have hw64 : wrap64 ((i : Int) + (k : Int)) = (i : Int) + (k : Int) := by have := HN.out; rw [wrap64]; omega
        have Hw64 := Lib.hid hw64
        have hsum : ¬ 9223372036854775807 < y.size + x.size := by omega
        clear hlt hlt'
        go_wp2_with (go_at_call 17; ((with_reducible refine (Code_nil _).mono ?_)); rintro e W5 ⟨rfl, hE5⟩)
        try rw [Hw64.out]
        refine ⟨⟨i + k, ?_, by simp, Lib.hid (by have := Hlt.out; omega), (hE.trans hE4).trans hE5⟩, by simp [intOf]; have := Hlt.out; omega⟩
        rw [← Htp.out, Hx.out, Hy.out]
      · have hlt' : ¬ (i : Int) < 300 := by have := HN.out; omega
        have hall : B (d.data.toList.take i) = d := by rw [List.take_of_length_le (by have : d.size = d.data.toList.length := rfl; have := HN.out; omega), B_toList]
        rw [hall]
        clear hlt
        go_wp2_with (go_at_call 17; ((with_reducible refine (Code_nil _).mono ?_)); rintro e W5 ⟨rfl, hE5⟩)
        go_ret
        exact ⟨rfl, hE0.trans ((hE3.trans hE).trans hE5)⟩
  · have h' : (256 : Int) < (d.size : Int) := by omega
    go_enter Tryz.func3, Tryz.ntmps3
    go_upto_region 2 with (go_at_call 13; refine (HA _ (Ext.refl _)).mono ?_; rintro e W0 ⟨rfl, hE0⟩)
    go_wp2_with (go_at_call 13; refine (HA _ hE0).mono ?_; rintro e W1 ⟨rfl, hE1⟩)
    go_ret
    exact ⟨rfl, hE0.trans hE1⟩
end Go.Proofs.YtiomljaengonoaaGreatDoor
