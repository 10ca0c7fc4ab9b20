/- The document's Dec and Number. -/
import Derived.Test.YtiomljaengonoaaGreatDoorRefWord
import Derived.Laws.BytesArg
namespace Go.Proofs.YtiomljaengonoaaGreatDoor
open Go Go.RowKit Go.Shelf Go.Proofs Go.Maps

/-- How far a number is written: 'c' is left, 's' stands. -/
def DecSt (n c : Nat) (s : List UInt8) : Prop := (s = [] ∧ c = n) ∨ (s ≠ [] ∧ ((c = 0 ∧ s = Lib.decDigits n) ∨ (0 < c ∧ Lib.decDigits c ++ s = Lib.decDigits n)))

theorem dec_last (c : Nat) : Lib.decDigits c = (if c < 10 then [] else Lib.decDigits (c / 10)) ++ [UInt8.ofNat (48 + c % 10)] := by
  by_cases h : c < 10
  · rw [Lib.decDigits, dif_pos h, if_pos h, Nat.mod_eq_of_lt h]
    rfl
  · rw [if_neg h]
    conv => lhs; rw [Lib.decDigits, dif_neg h]

theorem dec_step {n c : Nat} {s : List UInt8} (h : DecSt n c s) (hc : 0 < c ∨ s = []) : DecSt n (c / 10) (UInt8.ofNat (48 + c % 10) :: s) := by
  have e : Lib.decDigits c ++ s = Lib.decDigits n := by
    rcases h with ⟨rfl, rfl⟩ | ⟨h1, ⟨h2, h3⟩ | ⟨h2, h3⟩⟩
    · simp
    · rcases hc with hc | hc
      · omega
      · exact absurd hc h1
    · exact h3
  rw [dec_last c] at e
  refine .inr ⟨by simp, ?_⟩
  by_cases h10 : c < 10
  · rw [if_pos h10] at e
    exact .inl ⟨by omega, by simpa using e⟩
  · rw [if_neg h10] at e
    exact .inr ⟨by omega, by simpa using e⟩

theorem dec_done {n : Nat} {s : List UInt8} (h : DecSt n 0 s) (hs : s ≠ []) : s = Lib.decDigits n := by
  rcases h with ⟨h1, _⟩ | ⟨_, ⟨_, h3⟩ | ⟨h2, _⟩⟩
  · exact absurd h1 hs
  · exact h3
  · omega

theorem dec_len {u : Nat} (h : u ≤ 9999) : (Lib.decDigits u).length ≤ 4 := by
  rw [← itoa_of_nat]
  exact (itoa_plain (v := (u : Int)) (by omega) (by omega)).2

theorem dec_short {n c : Nat} {s : List UInt8} (hn : n ≤ 9999) (h : DecSt n c s) : s.length ≤ 4 := by
  have h4 := dec_len hn
  rcases h with ⟨rfl, rfl⟩ | ⟨h1, ⟨h2, h3⟩ | ⟨h2, h3⟩⟩
  · simp
  · rw [h3]; omega
  · have := congrArg List.length h3
    rw [List.length_append] at this
    omega

theorem B_byte (d : Nat) (hd : d < 10) : strOfNums [(48 + d : Int)] = B [UInt8.ofNat (48 + d)] := by
  apply ByteArray.ext
  have : ((48 + (d : Int)).toNat) = 48 + d := by omega
  simp [strOfNums, B, this]

set_option maxRecDepth 20000 in
set_option maxHeartbeats 4000000 in
theorem Dec_ref (n : Nat) (hn : n ≤ 9999) (w : World) :
    Calls Tryz.prog 51 #[.int .i64 n] w fun e w' => e = .returned (.string (B (Lib.decDigits n))) ∧ Ext w w' := by
  go_enter Tryz.func51, Tryz.ntmps51
  go_wp2
  go_loopg [0, 3] (n + 2) (fun g i sv wr => ∃ (c : Nat) (s : List UInt8), i = .int .i64 c ∧ sv = .string (B s) ∧ c ≤ 9999 ∧ s.length ≤ 4 ∧ Hid (DecSt n c s) ∧ c ≤ g ∧ (s = [] → c + 1 ≤ g) ∧ Ext w wr)
  case atStart => exact ⟨n, [], rfl, rfl, hn, by simp, Lib.hid (.inl ⟨rfl, rfl⟩), by omega, fun _ => by omega, Ext.refl _⟩
  case round =>
    obtain ⟨c, s, rfl, rfl, hc, hsl, hst, hg, hg2, hE⟩ := hrel
    have hsz : (B s).size ≤ 4 := by rw [size_B]; exact hsl
    by_cases hgo : 0 < c ∨ s = []
    · have hnx := Lib.hid (dec_step hst.out hgo)
      obtain ⟨d, hd⟩ : ∃ d, c % 10 = d := ⟨_, rfl⟩
      obtain ⟨q, hq⟩ : ∃ q, c / 10 = q := ⟨_, rfl⟩
      have hd10 : d < 10 := by omega
      have hq1 : q ≤ c := by omega
      have hq2 : 0 < c → q < c := by omega
      have hr1 : (c : Int).tmod 10 = (d : Int) := by rw [← hd]; rfl
      have hr2 : (c : Int).tdiv 10 = (q : Int) := by rw [← hq]; rfl
      rw [hd, hq] at hnx
      obtain ⟨g, rfl⟩ : ∃ g, gk = g + 1 := ⟨gk - 1, by
        rcases hgo with h | h
        · omega
        · have := hg2 h; omega⟩
      have hfu : q ≤ g := by
        rcases hgo with h | h
        · have := hq2 h; omega
        · have := hg2 h; omega
      have hls := dec_short hn hnx.out
      have hE2 : Ext w (wr.alloc (.cells #[.int .u8 (48 + (d : Int))] 5)) := hE.alloc _
      have kc := run_convert_bytes_arg (P := Tryz.prog) (wr.alloc (.cells #[.int .u8 (48 + (d : Int))] 5)) 65 5 Tryz.underlying65 Tryz.underlying5 wr.heap.size 0 1 1 [48 + (d : Int)] rfl (fun i hi => by
        have : i = 0 := by omega
        subst this
        rw [World.cell?_alloc_new]
        rfl) 9 Tryz.underlying9
      rw [B_byte d hd10] at kc
      obtain ⟨x, hx⟩ : ∃ x, UInt8.ofNat (48 + d) = x := ⟨_, rfl⟩
      rw [hx] at kc hnx hls
      have hadd := Lib.hid (show B [x] ++ B s = B (x :: s) from B_add [x] s)
      have hsz1 : (B [x]).size ≤ 1 := by rw [size_B]; exact Nat.le_refl 1
      have hls2 : s.length + 1 ≤ 4 := hls
      clear hd hq hg hg2 hq2 hx
      have h48 : (48 : Int) + (d : Int) < 256 := by omega
      by_cases h0 : 0 < c
      · have h0' : (0 : Int) < (c : Int) := by omega
        clear hgo hst
        go_wp2
        go_roundg g
        case measure => omega
        case rel => exact ⟨q, _, rfl, congrArg Value.string hadd.out, by omega, hls, hnx, hfu, fun h => (List.cons_ne_nil _ _ h).elim, hE2⟩
      · have h0' : ¬ (0 : Int) < (c : Int) := by omega
        have hs0 : s = [] := by
          rcases hgo with h | h
          · omega
          · exact h
        subst hs0
        have hq0 := emp_eq (s := []) rfl
        clear hgo hst
        go_wp2
        go_roundg g
        case measure => omega
        case rel => exact ⟨q, _, rfl, congrArg Value.string hadd.out, by omega, hls, hnx, hfu, fun h => (List.cons_ne_nil _ _ h).elim, hE2⟩
    · have hc0 : c = 0 := by omega
      have hne : s ≠ [] := fun h => hgo (.inr h)
      have hst2 := hst.out
      rw [hc0] at hst2
      have hdn := Lib.hid (dec_done hst2 hne)
      have hq0 := emp_ne hne
      have h0' : ¬ (0 : Int) < (c : Int) := by omega
      clear hgo hst hst2 hne hg hg2 hc0
      go_wp2
      go_ret
      exact ⟨by rw [hdn.out]; rfl, hE⟩

/-- The number that digits write. -/
def digVal (l : List UInt8) : Nat := l.foldl (fun n b => 10 * n + (b.toNat - 48)) 0

theorem digVal_snoc (l : List UInt8) (b : UInt8) : digVal (l ++ [b]) = 10 * digVal l + (b.toNat - 48) := by
  rw [digVal, List.foldl_append]
  rfl

theorem digVal_dec (u : Nat) : digVal (Lib.decDigits u) = u := by
  induction u using Nat.strongRecOn with
  | _ u ih =>
    by_cases h : u < 10
    · rw [Lib.decDigits, dif_pos h]
      have := dig_ok ⟨u, h⟩
      simp only at this
      show 10 * 0 + ((UInt8.ofNat (48 + u)).toNat - 48) = u
      rw [this]
      omega
    · rw [Lib.decDigits, dif_neg h, digVal_snoc, ih (u / 10) (by omega)]
      have := dig_ok ⟨u % 10, by omega⟩
      simp only at this
      rw [this]
      omega

def digB (b : UInt8) : Bool := decide (48 ≤ b.toNat) && decide (b.toNat ≤ 57)

theorem numP_form {s : List UInt8} {u : Int} (h : numP s = some u) : 1 ≤ s.length ∧ s.length ≤ 4 ∧ s.all digB = true ∧ ∃ k : Nat, u = k ∧ k ≤ 9999 ∧ s = Lib.decDigits k := by
  obtain ⟨h0, h1, h2⟩ := numP_some h
  obtain ⟨k, rfl⟩ : ∃ k : Nat, u = k := ⟨u.toNat, by omega⟩
  rw [itoa_of_nat] at h2
  have hk : k ≤ 9999 := by omega
  have h4 := dec_len hk
  have h5 := decDigits_ne k
  rw [h2] at h4 h5
  refine ⟨Nat.pos_of_ne_zero fun e => h5 (List.length_eq_zero_iff.1 e), h4, List.all_eq_true.2 fun b hb => ?_, k, rfl, hk, h2.symm⟩
  rw [← h2] at hb
  have := decDigits_digits k b hb
  simp [digB]
  omega

theorem dig_fold : ∀ (l : List UInt8) (acc k : Nat), acc < 10 ^ k → l.all digB = true → l.foldl (fun n b => 10 * n + (b.toNat - 48)) acc < 10 ^ (k + l.length)
  | [], acc, k, h, _ => h
  | b :: l, acc, k, h, hd => by
    rw [List.all_cons, Bool.and_eq_true] at hd
    have h2 : 48 ≤ b.toNat ∧ b.toNat ≤ 57 := by simpa [digB] using hd.1
    have := dig_fold l (10 * acc + (b.toNat - 48)) (k + 1) (by rw [Nat.pow_succ]; omega) hd.2
    rw [List.foldl_cons, List.length_cons, show k + (l.length + 1) = k + 1 + l.length by omega]
    exact this

theorem digVal_lt (l : List UInt8) (h : l.all digB = true) : digVal l < 10 ^ l.length := by
  have := dig_fold l 0 0 (by decide) h
  rwa [Nat.zero_add] at this

theorem numP_digits {s : List UInt8} (h1 : 1 ≤ s.length) (h4 : s.length ≤ 4) (hd : s.all digB = true) : numP s = if Lib.decDigits (digVal s) = s then some (digVal s : Int) else none := by
  have hv : digVal s ≤ 9999 := by
    have h2 := digVal_lt s hd
    have h3 : 10 ^ s.length ≤ 10 ^ 4 := Nat.pow_le_pow_right (by decide) h4
    omega
  split
  · rename_i e
    have := numP_itoa (v := (digVal s : Int)) (by omega) (by omega)
    rw [itoa_of_nat, e] at this
    exact this
  · rename_i e
    cases hn : numP s with
    | none => rfl
    | some u =>
      obtain ⟨_, _, _, k, rfl, hk, rfl⟩ := numP_form hn
      rw [digVal_dec] at e
      exact absurd rfl e

theorem numP_none {s : List UInt8} (h : ¬ (1 ≤ s.length ∧ s.length ≤ 4 ∧ s.all digB = true)) : numP s = none := by
  cases hn : numP s with
  | none => rfl
  | some u =>
    obtain ⟨a, b, c, _⟩ := numP_form hn
    exact absurd ⟨a, b, c⟩ h

theorem digs_take (l : List UInt8) (k : Nat) (b : UInt8) (h : l[k]? = some b) : (l.take (k + 1)).all digB = ((l.take k).all digB && digB b) ∧ digVal (l.take (k + 1)) = 10 * digVal (l.take k) + (b.toNat - 48) := by
  rw [List.take_add_one, h]
  exact ⟨by simp, by rw [Option.toList_some, digVal_snoc]⟩

set_option maxRecDepth 20000 in
set_option maxHeartbeats 4000000 in
theorem Number_ref (s : ByteArray) (hs : s.size ≤ 140737488355328) (w : World) :
    Calls Tryz.prog 82 #[.string s] w (NumPost s w) := by
  have hsz : s.data.toList.length = s.size := Array.length_toList
  have HD := fun n hn w => Dec_ref n hn w
  by_cases h1 : 1 ≤ s.size
  · have h1' : ¬ (s.size : Int) < 1 := by omega
    by_cases h4 : s.size ≤ 4
    · have h4' : ¬ (4 : Int) < (s.size : Int) := by omega
      have Hz := Lib.hid hsz
      clear hsz
      go_enter Tryz.func82, Tryz.ntmps82
      go_wp2
      go_loop [4, 5] (fun n i => ∃ k v : Nat, i = .int .i64 k ∧ n = .int .i64 v ∧ k ≤ s.size ∧ v ≤ 9999 ∧ Hid (v = digVal (s.data.toList.take k)) ∧ Hid ((s.data.toList.take k).all digB = true)) (fun _ i => s.size - (intOf i).toNat)
      case atStart => exact ⟨0, 0, rfl, rfl, Nat.zero_le _, by omega, Lib.hid rfl, Lib.hid rfl⟩
      case round =>
        obtain ⟨k, v, rfl, rfl, hks, hv9, hv, hall⟩ := hrel
        by_cases hlt : k < s.size
        · have hlt' : (k : Int) < (s.size : Int) := by omega
          have hb : s.data.toList[k]? = some (s[k]'hlt) := by
            rw [Array.getElem?_toList]
            exact Array.getElem?_eq_getElem hlt
          obtain ⟨hn1, hn2⟩ := digs_take s.data.toList k _ hb
          have hmem := List.mem_of_getElem? hb
          obtain ⟨x, hx⟩ : ∃ x, s[k]'hlt = x := ⟨_, rfl⟩
          rw [hx] at hn1 hn2 hmem hb
          have Hx := Lib.hid hx
          by_cases hd : digB x = true
          · have hd2 : 48 ≤ x.toNat ∧ x.toNat ≤ 57 := by simpa [digB] using hd
            have g1 : ¬ (((s[k]'hlt).toNat : Nat) : Int) < 48 := by rw [hx]; omega
            have g2 : ¬ (57 : Int) < (((s[k]'hlt).toNat : Nat) : Int) := by rw [hx]; omega
            rw [hall.out, hd, Bool.and_true] at hn1
            rw [← hv.out] at hn2
            have hlen : (s.data.toList.take (k + 1)).length = k + 1 := by rw [List.length_take, Hz.out]; omega
            have hlt2 := digVal_lt _ hn1
            rw [hlen, hn2] at hlt2
            have hp : 10 ^ (k + 1) ≤ 10 ^ 4 := Nat.pow_le_pow_right (by decide) (by omega)
            have hv10 : 10 * v + (x.toNat - 48) ≤ 9999 := by omega
            have e1 : (10 : Int) * (v : Int) + (((s[k]'hlt).toNat : Nat) : Int) - 48 = ((10 * v + (x.toNat - 48) : Nat) : Int) := by rw [hx]; omega
            have hb1 : (((s[k]'hlt).toNat : Nat) : Int) ≤ 57 := by omega
            have Hn1 := Lib.hid hn1
            have Hn2 := Lib.hid hn2.symm
            have He1 := Lib.hid e1
            clear hn1 hn2 hmem hb hx hd hd2 e1 hlen hlt2 hp hv hall HD
            go_wp2
            exact ⟨⟨k + 1, 10 * v + (x.toNat - 48), by go_num, by rw [← He1.out], by omega, hv10, Hn2, Hn1⟩, by simp [intOf]; omega⟩
          · have hf : Hid (numP s.data.toList = none) := Lib.hid (numP_none fun h => hd (List.all_eq_true.1 h.2.2 _ hmem))
            have h12 : (((s[k]'hlt).toNat : Nat) : Int) < 48 ∨ (57 : Int) < (((s[k]'hlt).toNat : Nat) : Int) := by
              rw [hx]
              simp [digB] at hd
              omega
            clear hn1 hn2 hmem hb hx hd hv hall HD
            by_cases g1 : (((s[k]'hlt).toNat : Nat) : Int) < 48
            · clear h12
              go_wp2
              go_ret2
              exact ⟨0, false, rfl, hf.out, Ext.refl _⟩
            · have g2 : (57 : Int) < (((s[k]'hlt).toNat : Nat) : Int) := by omega
              clear h12
              go_wp2
              go_ret2
              exact ⟨0, false, rfl, hf.out, Ext.refl _⟩
        · have hlt' : ¬ (k : Int) < (s.size : Int) := by omega
          have hke : s.data.toList.take k = s.data.toList := List.take_of_length_le (by rw [Hz.out]; omega)
          have hv2 := hv.out
          have hall2 := hall.out
          rw [hke] at hv2 hall2
          have hnum := numP_digits (by rw [Hz.out]; exact h1) (by rw [Hz.out]; exact h4) hall2
          rw [← hv2] at hnum
          obtain ⟨ok, hok⟩ : ∃ ok, ((B (Lib.decDigits v)).toList == s.toList) = ok := ⟨_, rfl⟩
          have Hok : Hid (numP s.data.toList = if ok = true then some (v : Int) else none) := Lib.hid (by
            rw [hnum, ← hok, ByteArray.toList_eq, ByteArray.toList_eq, toList_B]
            by_cases hq : Lib.decDigits v = s.data.toList
            · rw [if_pos hq, if_pos (by simpa using hq)]
            · rw [if_neg hq, if_neg (by simpa using hq)])
          have HDv := HD v hv9 w
          clear hke hv2 hall2 hnum hv hall HD
          go_wp2_with (go_at_call 51; refine HDv.mono ?_; rintro e W1 ⟨rfl, hE1⟩)
          go_ret2
          exact ⟨v, ok, rfl, Hok.out, hE1⟩
    · have h4' : (4 : Int) < (s.size : Int) := by omega
      have hf : Hid (numP s.data.toList = none) := Lib.hid (numP_none fun h => by omega)
      clear hsz HD
      go_enter Tryz.func82, Tryz.ntmps82
      go_wp2
      go_ret2
      exact ⟨0, false, rfl, hf.out, Ext.refl _⟩
  · have h1' : (s.size : Int) < 1 := by omega
    have hf : Hid (numP s.data.toList = none) := Lib.hid (numP_none fun h => by omega)
    clear hsz HD
    go_enter Tryz.func82, Tryz.ntmps82
    go_wp2
    go_ret2
    exact ⟨0, false, rfl, hf.out, Ext.refl _⟩
end Go.Proofs.YtiomljaengonoaaGreatDoor
