/- The document's Name, Split, Join and Less. -/
import Derived.Test.YtknfaabhlcdeoaaGreatDoorShF
import Derived.Test.YtknfaabhlcdeoaaGreatDoorPath
import Derived.Deep.AppendLies
import Derived.Deep.QuietTactic
import Derived.BigQuiet
namespace Go.Proofs.YtknfaabhlcdeoaaGreatDoor
open Go Go.RowKit Go.Shelf Go.Proofs

theorem sign_iff (b : UInt8) : sign b = true ↔ (97 ≤ b.toNat ∧ b.toNat ≤ 122) ∨ (48 ≤ b.toNat ∧ b.toNat ≤ 57) ∨ b.toNat = 45 ∨ b.toNat = 95 := by
  have h : ∀ n : Fin 256, (sign (UInt8.ofNat n.val) = true ↔ (97 ≤ n.val ∧ n.val ≤ 122) ∨ (48 ≤ n.val ∧ n.val ≤ 57) ∨ n.val = 45 ∨ n.val = 95) := by decide +kernel
  have := h ⟨b.toNat, b.toNat_lt⟩
  simpa using this

theorem all_step (l : List UInt8) (k : Nat) (c : UInt8) (h : l[k]? = some c) : (l.take (k + 1)).all sign = ((l.take k).all sign && sign c) := by
  have hk := (List.getElem?_eq_some_iff.1 h).1
  rw [← List.take_append_getElem hk, List.all_append]
  have := (List.getElem?_eq_some_iff.1 h).2
  simp [this]

def NmRel (s : ByteArray) (i : Value) : Prop := ∃ k : Nat, i = .int .i64 k ∧ k ≤ s.size ∧ Hid ((s.data.toList.take k).all sign = true)

theorem nm_next {s : ByteArray} {k : Nat} (hlt : k < s.size) (h : Hid ((s.data.toList.take (k + 1)).all sign = true)) :
    NmRel s (.int .i64 ((k : Int) + 1)) ∧ s.size - (intOf (.int .i64 ((k : Int) + 1))).toNat < s.size - (intOf (.int .i64 (k : Int))).toNat :=
  ⟨⟨k + 1, by simp, by omega, h⟩, by simp [intOf]; omega⟩

set_option maxHeartbeats 8000000 in
set_option maxRecDepth 20000 in
theorem RName_any (s : ByteArray) (hs : s.size ≤ 140737488355328) (w : World) :
    Calls Tryz.prog 122 #[.string s] w fun e w' => e = .returned (.bool (nameB s)) ∧ w' = w := by
  have hlen : s.data.toList.length = s.size := Array.length_toList
  have hnb : nameB s = (decide (1 ≤ s.size) && decide (s.size ≤ 8) && s.data.toList.all sign) := by rw [nameB, nameOk, hlen]
  have HW := Lib.hid hnb
  have Hlen := Lib.hid hlen
  clear hnb hlen
  go_enter Tryz.func122, Tryz.ntmps122
  go_wp2
  go_loop [3] (fun i => NmRel s i) (fun i => s.size - (intOf i).toNat)
  case atStart => exact ⟨0, rfl, Nat.zero_le _, Lib.hid (by simp)⟩
  case round =>
    obtain ⟨k, rfl, hks, hall⟩ := hrel
    by_cases hlt : k < s.size
    · have hlt' : (k : Int) < (s.size : Int) := by omega
      have hb : s.data.toList[k]? = some (s[k]'hlt) := by
        rw [Array.getElem?_toList]
        exact Array.getElem?_eq_getElem hlt
      have hnext := all_step s.data.toList k _ hb
      rw [hall.out, Bool.true_and] at hnext
      have hmem := List.mem_of_getElem? hb
      have hsi := sign_iff (s[k]'hlt)
      have hbad : Hid (¬ sign (s[k]'hlt) = true → nameB s = false) := Lib.hid fun h => by
        rw [HW.out, List.all_eq_false.2 ⟨_, hmem, h⟩, Bool.and_false]
      have Hgood : Hid (sign (s[k]'hlt) = true → (s.data.toList.take (k + 1)).all sign = true) := Lib.hid fun h => hnext.trans h
      obtain ⟨c, hc⟩ : ∃ c : Nat, (s[k]'hlt).toNat = c := ⟨_, rfl⟩
      rw [hc] at hsi
      have Hsi := Lib.hid hsi
      have hcells : ((s[k]'hlt).toNat : Int) = (c : Int) := by rw [hc]
      clear hb hnext hmem hsi hc
      by_cases h1 : 97 ≤ c
      · have h1' : (97 : Int) ≤ (c : Int) := by omega
        by_cases h2 : c ≤ 122
        · have h2' : (c : Int) ≤ 122 := by omega
          have Hn := Lib.hid (Hgood.out (Hsi.out.2 (.inl ⟨h1, h2⟩)))
          clear h1 h2
          go_wp2
          exact nm_next hlt Hn
        · have h2' : ¬ (c : Int) ≤ 122 := by omega
          have h3' : (48 : Int) ≤ (c : Int) := by omega
          have h4' : ¬ (c : Int) ≤ 57 := by omega
          have h5' : ((c : Int) == 45) = false := by rw [beq_eq_false_iff_ne]; omega
          have h6' : ((c : Int) == 95) = false := by rw [beq_eq_false_iff_ne]; omega
          have Hf := Lib.hid (hbad.out fun h => by have := Hsi.out.1 h; omega)
          clear h1 h2
          go_wp2
          go_ret
          exact ⟨by rw [Hf.out]; rfl, rfl⟩
      · have h1' : ¬ (97 : Int) ≤ (c : Int) := by omega
        by_cases h3 : 48 ≤ c
        · have h3' : (48 : Int) ≤ (c : Int) := by omega
          by_cases h4 : c ≤ 57
          · have h4' : (c : Int) ≤ 57 := by omega
            have Hn := Lib.hid (Hgood.out (Hsi.out.2 (.inr (.inl ⟨h3, h4⟩))))
            clear h1 h3 h4
            go_wp2
            exact nm_next hlt Hn
          · have h4' : ¬ (c : Int) ≤ 57 := by omega
            have h5' : ((c : Int) == 45) = false := by rw [beq_eq_false_iff_ne]; omega
            by_cases h6 : c = 95
            · have h6' : ((c : Int) == 95) = true := by rw [beq_iff_eq]; omega
              have Hn := Lib.hid (Hgood.out (Hsi.out.2 (.inr (.inr (.inr h6)))))
              clear h1 h3 h4 h6
              go_wp2
              exact nm_next hlt Hn
            · have h6' : ((c : Int) == 95) = false := by rw [beq_eq_false_iff_ne]; omega
              have Hf := Lib.hid (hbad.out fun h => by have := Hsi.out.1 h; omega)
              clear h1 h3 h4 h6
              go_wp2
              go_ret
              exact ⟨by rw [Hf.out]; rfl, rfl⟩
        · have h3' : ¬ (48 : Int) ≤ (c : Int) := by omega
          by_cases h5 : c = 45
          · have h5' : ((c : Int) == 45) = true := by rw [beq_iff_eq]; omega
            have Hn := Lib.hid (Hgood.out (Hsi.out.2 (.inr (.inr (.inl h5)))))
            clear h1 h3 h5
            go_wp2
            exact nm_next hlt Hn
          · have h5' : ((c : Int) == 45) = false := by rw [beq_eq_false_iff_ne]; omega
            have h6' : ((c : Int) == 95) = false := by rw [beq_eq_false_iff_ne]; omega
            have Hf := Lib.hid (hbad.out fun h => by have := Hsi.out.1 h; omega)
            clear h1 h3 h5
            go_wp2
            go_ret
            exact ⟨by rw [Hf.out]; rfl, rfl⟩
    · have hlt' : ¬ (k : Int) < (s.size : Int) := by omega
      have hall2 : s.data.toList.all sign = true := by
        have h := hall.out
        rwa [List.take_of_length_le (by rw [Hlen.out]; omega)] at h
      have hw : Hid (nameB s = (decide (1 ≤ s.size) && decide (s.size ≤ 8))) := Lib.hid (by rw [HW.out, hall2, Bool.and_true])
      clear hall2
      by_cases h1 : 1 ≤ s.size
      · have h1' : (1 : Int) ≤ (s.size : Int) := by omega
        by_cases h2 : s.size ≤ 8
        · have h2' : (s.size : Int) ≤ 8 := by omega
          go_wp2
          go_ret
          exact ⟨by rw [hw.out]; simp [h1, h2], rfl⟩
        · have h2' : ¬ (s.size : Int) ≤ 8 := by omega
          go_wp2
          go_ret
          exact ⟨by rw [hw.out]; simp [h1, h2], rfl⟩
      · have h1' : ¬ (1 : Int) ≤ (s.size : Int) := by omega
        go_wp2
        go_ret
        exact ⟨by rw [hw.out]; simp [h1], rfl⟩

/-! ### Split -/

/-- A path's text. -/
theorem names_slash {p : ByteArray} {r : List UInt8} (h : p.data.toList = 47 :: r) (h0 : r ≠ []) : names p = if (segs 47 r).all nameOk = true ∧ (segs 47 r).length ≤ 6 then some (pieces 47 (B r)) else none := by
  rw [names, h, splitP, if_neg (by simpa using h0)]
  rw [pieces, toList_B]
  by_cases hc : (segs 47 r).all nameOk = true ∧ (segs 47 r).length ≤ 6
  · rw [if_pos hc, if_pos ⟨rfl, hc.1, hc.2⟩]
    rfl
  · rw [if_neg hc, if_neg (fun h => hc h.2)]
    rfl

theorem sp_bad {p : ByteArray} {r : List UInt8} (h : p.data.toList = 47 :: r) (h0 : r ≠ []) {done : List ByteArray} {piece : ByteArray} {rest : List (List UInt8)} (hs : segs 47 r = done.map (·.data.toList) ++ piece.data.toList :: rest) (hb : nameB piece = false ∨ done.length = 6) : names p = none := by
  rw [names_slash h h0, if_neg]
  rintro ⟨h1, h2⟩
  rw [hs] at h1 h2
  rw [List.all_append, Bool.and_eq_true, List.all_cons, Bool.and_eq_true] at h1
  rw [List.length_append, List.length_map, List.length_cons] at h2
  rcases hb with hb | hb
  · have h3 : nameB piece = true := h1.2.1
    rw [h3] at hb
    cases hb
  · omega
theorem sp_end {p : ByteArray} {r : List UInt8} (h : p.data.toList = 47 :: r) (h0 : r ≠ []) {done : List ByteArray} (hs : segs 47 r = done.map (·.data.toList)) (ha : done.all nameB = true) (hl : done.length ≤ 6) : names p = some done := by
  rw [names_slash h h0, if_pos, pieces, toList_B, hs, map_B_toList]
  rw [hs, List.length_map]
  refine ⟨?_, hl⟩
  rw [List.all_map]
  exact ha

def SplitRAns (p : ByteArray) (w : World) (e : Ending) (w' : World) : Prop :=
  (∃ xs v, names p = some xs ∧ e = .returned (.tuple #[v, .bool true]) ∧ RdS w' v xs ∧ Ext w w') ∨ (names p = none ∧ e = .returned (.tuple #[.slice none 0 0, .bool false]) ∧ Ext w w')

/-- What is known between the rounds. -/
def SpIs (L r : List UInt8) (from_ i : Nat) (done : List ByteArray) : Prop :=
  done.all nameB = true ∧ ((i ≤ L.length ∧ from_ ≤ i ∧ segs 47 r = done.map (·.data.toList) ++ segs 47 (L.drop from_) ∧ ∀ t, from_ ≤ t → t < i → L[t]? ≠ some 47) ∨ (i = L.length + 1 ∧ segs 47 r = done.map (·.data.toList)))

def SpRel (L r : List UInt8) (n : Nat) (w : World) (v4 v5 v6 : Value) (wr : World) : Prop :=
  ∃ (f i : Nat) (done : List ByteArray), v5 = .int .i64 f ∧ v6 = .int .i64 i ∧ f ≤ i ∧ i ≤ n + 1 ∧ done.length ≤ 6 ∧ Hid (SpIs L r f i done) ∧ wr.ownsRow w.heap.size 9 1 v4 done.length (done.map Value.string) ∧ Ext w wr

theorem sp_go {L r : List UInt8} {n f i : Nat} {done : List ByteArray} {w W : World} {v4 : Value} (hn : L.length = n) (hin : i < n) (hfi : f ≤ i) (hd : done.length ≤ 6) (h : SpIs L r f i done) (hc : L[i]? ≠ some 47) (hrow : W.ownsRow w.heap.size 9 1 v4 done.length (done.map Value.string)) (hE : Ext w W) :
    SpRel L r n w v4 (.int .i64 f) (.int .i64 ((i : Int) + 1)) W ∧ n + 1 - (intOf (.int .i64 ((i : Int) + 1))).toNat < n + 1 - (intOf (.int .i64 (i : Int))).toNat := by
  obtain ⟨h1, h2⟩ := h
  rcases h2 with ⟨h2, h3, h4, h5⟩ | ⟨h2, _⟩
  · refine ⟨⟨f, i + 1, done, rfl, by simp, by omega, by omega, hd, Lib.hid ⟨h1, .inl ⟨by omega, by omega, h4, fun t h6 h7 => ?_⟩⟩, hrow, hE⟩, by simp [intOf]; omega⟩
    by_cases e : t = i
    · rw [e]; exact hc
    · exact h5 t h6 (by omega)
  · omega

theorem sp_piece {L r : List UInt8} {n f i : Nat} {done : List ByteArray} (hn : L.length = n) (hin : i ≤ n) (h : SpIs L r f i done) (hc : i = n ∨ L[i]? = some 47) :
    ∃ rest, segs 47 r = done.map (·.data.toList) ++ ((L.drop f).take (i - f)) :: rest ∧ ((i = n ∧ rest = []) ∨ (i < n ∧ rest = segs 47 (L.drop (i + 1)))) := by
  obtain ⟨h1, h2⟩ := h
  rcases h2 with ⟨h2, h3, h4, h5⟩ | ⟨h2, _⟩
  · by_cases hi : i = n
    · refine ⟨[], ?_, .inl ⟨hi, rfl⟩⟩
      rw [h4, segs_none 47 (L.drop f) fun k hk => ?_, List.take_of_length_le (by rw [List.length_drop]; omega)]
      rw [List.getElem?_drop] at hk
      have hkl := (List.getElem?_eq_some_iff.1 hk).1
      exact h5 (f + k) (by omega) (by omega) hk
    · have h6 : L[i]? = some 47 := hc.resolve_left hi
      refine ⟨segs 47 (L.drop (i + 1)), ?_, .inr ⟨by omega, rfl⟩⟩
      rw [h4, segs_some 47 (i - f) (L.drop f) (by rw [List.getElem?_drop, show f + (i - f) = i by omega]; exact h6) (fun k hk hk2 => by
        rw [List.getElem?_drop] at hk2
        exact h5 (f + k) (by omega) (by omega) hk2), List.drop_drop, show f + (i - f + 1) = i + 1 by omega]
  · omega

theorem sp_next {L r : List UInt8} {n f i : Nat} {done : List ByteArray} {piece : ByteArray} {rest : List (List UInt8)} {w W : World} {v4 : Value} (hn : L.length = n) (hin : i ≤ n) (hd : done.length ≤ 6) (hd6 : done.length ≠ 6) (h : SpIs L r f i done) (hp : piece.data.toList = (L.drop f).take (i - f)) (hb : nameB piece = true)
    (hs : segs 47 r = done.map (·.data.toList) ++ ((L.drop f).take (i - f)) :: rest) (hrest : (i = n ∧ rest = []) ∨ (i < n ∧ rest = segs 47 (L.drop (i + 1)))) (hrow : W.ownsRow w.heap.size 9 1 v4 (done.length + 1) (done.map Value.string ++ [.string piece])) (hE : Ext w W) :
    SpRel L r n w v4 (.int .i64 ((i : Int) + 1)) (.int .i64 ((i : Int) + 1)) W ∧ n + 1 - (intOf (.int .i64 ((i : Int) + 1))).toNat < n + 1 - (intOf (.int .i64 (i : Int))).toNat := by
  refine ⟨⟨i + 1, i + 1, done ++ [piece], by simp, by simp, Nat.le_refl _, by omega, by rw [List.length_append, List.length_singleton]; omega, Lib.hid ⟨by rw [List.all_append, h.1]; simpa using hb, ?_⟩, by rw [List.length_append, List.length_singleton, List.map_append]; exact hrow, hE⟩, by simp [intOf]; omega⟩
  have e : (done ++ [piece]).map (·.data.toList) = done.map (·.data.toList) ++ [(L.drop f).take (i - f)] := by rw [List.map_append, List.map_singleton, hp]
  rw [e]
  rcases hrest with ⟨h1, h2⟩ | ⟨h1, h2⟩
  · exact .inr ⟨by omega, by rw [hs, h2]⟩
  · exact .inl ⟨by omega, Nat.le_refl _, by rw [hs, h2]; simp, fun t h3 h4 => by omega⟩

theorem info_strR : (Tryz.prog.info? 9).map (fun i => (i.zero, i.size, i.bytes)) = some (some (.string ⟨#[]⟩), 1, 16) := by kernel_rfl

theorem slash_eq (p : ByteArray) : (p.toList == [47]) = decide (p.data.toList = [47]) := by
  rw [toList_eq, Bool.eq_iff_iff, beq_iff_eq, decide_eq_true_eq]

set_option maxHeartbeats 8000000 in
set_option maxRecDepth 20000 in
theorem RSplit_any (p : ByteArray) (hp : p.size ≤ 140737488355328) (w : World) :
    Calls Tryz.prog 69 #[.string p] w (SplitRAns p w) := by
  have hlen : p.data.toList.length = p.size := Array.length_toList
  have hse := slash_eq p
  by_cases hroot : p.data.toList = [47]
  · rw [decide_eq_true hroot] at hse
    have hn : names p = some [] := by simp [names, splitP, hroot]
    have Hn := Lib.hid hn
    clear hroot hlen hn
    go_enter Tryz.func69, Tryz.ntmps69
    go_wp2
    go_ret2
    exact .inl ⟨[], _, Hn.out, rfl, Rd.nil _ _ _, Ext.refl _⟩
  · rw [decide_eq_false hroot] at hse
    by_cases h0 : p.size = 0
    · have h0' : ((p.size : Int) == 0) = true := by rw [beq_iff_eq]; omega
      have hn : names p = none := by
        have : p.data.toList = [] := List.eq_nil_of_length_eq_zero (by omega)
        simp [names, splitP, this]
      have Hn := Lib.hid hn
      clear hroot hlen hn h0
      go_enter Tryz.func69, Tryz.ntmps69
      go_wp2
      go_ret2
      exact .inr ⟨Hn.out, rfl, Ext.refl _⟩
    · have h0' : ((p.size : Int) == 0) = false := by rw [beq_eq_false_iff_ne]; omega
      have h0'' : (0 : Int) < (p.size : Int) := by omega
      have hpos : 0 < p.size := by omega
      obtain ⟨c, hc⟩ : ∃ c, p[0]'hpos = c := ⟨_, rfl⟩
      have hcl : p.data.toList[0]? = some c := by
        rw [Array.getElem?_toList, ← hc]
        exact Array.getElem?_eq_getElem hpos
      obtain ⟨L, hL⟩ : ∃ L, p.data.toList = L := ⟨_, rfl⟩
      by_cases h47 : c = 47
      · have h47' : ((c.toNat : Int) != 47) = false := by rw [h47]; rfl
        obtain ⟨r, hr⟩ : ∃ r, L = 47 :: r := by
          rw [hL] at hcl
          rcases L with _ | ⟨d, r⟩
          · simp at hcl
          · simp at hcl
            exact ⟨r, by rw [hcl, h47]⟩
        have hr0 : r ≠ [] := by
          rintro rfl
          exact hroot (hL.trans hr)
        have hLp : p.data.toList = 47 :: r := hL.trans hr
        obtain ⟨n, hn⟩ : ∃ n, p.size = n := ⟨_, rfl⟩
        have hLn : L.length = n := by rw [← hL, hlen, hn]
        have Hgood : Hid (∀ done : List ByteArray, segs 47 r = done.map (·.data.toList) → done.all nameB = true → done.length ≤ 6 → names p = some done) := Lib.hid fun done h1 h2 h3 => sp_end hLp hr0 h1 h2 h3
        have Hbad : Hid (∀ (done : List ByteArray) (piece : ByteArray) (rest : List (List UInt8)), segs 47 r = done.map (·.data.toList) ++ piece.data.toList :: rest → nameB piece = false ∨ done.length = 6 → names p = none) := Lib.hid fun done piece rest h1 h2 => sp_bad hLp hr0 h1 h2
        have hstart : SpIs L r 1 1 [] := ⟨rfl, .inl ⟨by rw [hr]; simp, Nat.le_refl _, by rw [hr]; rfl, fun t h1 h2 => by omega⟩⟩
        have Hstart := Lib.hid hstart
        have HLn := Lib.hid hLn
        have HpL := Lib.hid hL
        have HN := Lib.hid hn
        have hn2 : (p.size : Int) = (n : Int) := by rw [hn]
        have hn1 : 1 ≤ n := by omega
        obtain ⟨i0, hi, hz0, hz1, hz2⟩ := info_parts info_strR
        have hpn : n ≤ 140737488355328 := by omega
        clear hroot hlen h0 h47 hcl hr hr0 hLp hLn hstart hL hn
        go_enter Tryz.func69, Tryz.ntmps69
        go_upto_region 8 with (fail)
        have h0n : ((n : Int) == 0) = false := by rw [beq_eq_false_iff_ne]; omega
        simp only [h0n]
        go_loopw [4, 5, 6] (fun v4 v5 v6 wr => SpRel L r n w v4 v5 v6 wr) (fun _ _ v6 _ => n + 1 - (intOf v6).toNat)
        case atStart => exact ⟨1, 1, [], rfl, rfl, Nat.le_refl _, by omega, by simp, Hstart, World.ownsRow_nil _ _ _ _, Ext.refl _⟩
        case round =>
          obtain ⟨f, i, done, rfl, rfl, hfi, hin1, hd6, hsp, hrow, hE⟩ := hrel
          by_cases hlt : i ≤ n
          · have hlt' : (i : Int) ≤ (n : Int) := by omega
            by_cases hin : i = n
            · have hin' : ((i : Int) == (n : Int)) = true := by rw [beq_iff_eq]; omega
              have hsep : i = n ∨ L[i]? = some 47 := .inl hin
              have hfi' : (f : Int) ≤ (i : Int) := by omega
              clear hin
              have hpsz : (p.extract f i).size ≤ 140737488355328 := by
                simp only [ByteArray.size_extract]
                omega
              have HNm := fun W => RName_any (p.extract f i) hpsz W
              obtain ⟨rest, hrs, hrest⟩ := sp_piece HLn.out hlt hsp.out hsep
              have hpd : (p.extract f i).data.toList = (L.drop f).take (i - f) := by rw [Lib.extract_data, HpL.out]
              have hbadp := Hbad.out done (p.extract f i) rest (by rw [hpd]; exact hrs)
              obtain ⟨piece, hpc⟩ : ∃ piece, p.extract f i = piece := ⟨_, rfl⟩
              rw [hpc] at HNm hpd hbadp
              have Hrow := Lib.hid hrow
              have Hbp := Lib.hid hbadp
              have Hlt := Lib.hid hlt
              obtain ⟨A4, c4, rfl⟩ := own_form hrow
              obtain ⟨m, hm⟩ : ∃ m, done.length = m := ⟨_, rfl⟩
              rw [hm] at Hrow hd6
              rw [hm]
              have Hm := Lib.hid hm
              have Hsep := Lib.hid (And.intro hrs (And.intro hrest hpd))
              clear hrs hrest hpd hbadp hrow hsep hm
              rcases hnb : nameB piece with _ | _
              · rw [hnb] at HNm
                have Hnone := Lib.hid (Hbp.out (.inl hnb))
                clear hnb
                go_wp2_with (go_at_call 122; refine (HNm _).mono ?_; rintro e w2 ⟨rfl, rfl⟩)
                go_ret2
                exact .inr ⟨Hnone.out, rfl, hE⟩
              · rw [hnb] at HNm
                have Hnb := Lib.hid hnb
                clear hnb
                by_cases h6 : m = 6
                · have h6' : ((m : Int) == 6) = true := by rw [beq_iff_eq]; omega
                  have Hnone := Lib.hid (Hbp.out (.inr (by rw [Hm.out]; exact h6)))
                  clear h6
                  go_wp2_with (go_at_call 122; refine (HNm _).mono ?_; rintro e w2 ⟨rfl, rfl⟩)
                  go_ret2
                  exact .inr ⟨Hnone.out, rfl, hE⟩
                · have h6' : ((m : Int) == 6) = false := by rw [beq_eq_false_iff_ne]; omega
                  have H6 := Lib.hid h6
                  have hEs := hE.size
                  clear h6
                  go_wp2_with (first | (go_at_call 122; refine (HNm _).mono ?_; rintro e w2 ⟨rfl, rfl⟩) | (at_builtin; (refine wpList_append_own _ rfl _ _ 27 rfl w.heap.size 9 i0 (.string ⟨#[]⟩) 1 16 Tryz.underlying27 hi hz0 hz1 hz2 rfl (by decide) _ _ _ rfl (Hrow.out.alloc _) ⟨w2.heap.size, 0, none⟩ 1 1 [.string piece] rfl rfl (World.news_of_block (cs := #[.string piece]) (t := 9) (fr := (0, 0)) (Blk.new w2 _ _)) (by simp [Value.oneCell']) (by unfold maxLen; omega) (by omega) (by rw [World.size_alloc]; omega) ?_; intro v9 w9 hown9 hgrow9 hnil9)))
                  exact sp_next HLn.out Hlt.out (by rw [Hm.out]; exact hd6) (by rw [Hm.out]; exact H6.out) hsp.out Hsep.out.2.2 Hnb.out Hsep.out.1 Hsep.out.2.1 (by rw [Hm.out]; exact hown9) (Ext.grown (hE.alloc _) hgrow9 (fun j hj => (Hrow.out.lt j hj).1))
            · have hin' : ((i : Int) == (n : Int)) = false := by rw [beq_eq_false_iff_ne]; omega
              have hil : i < p.size := by have := HN.out; omega
              have hil2 : (i : Int) < (n : Int) := by omega
              obtain ⟨d, hd⟩ : ∃ d, p[i]'hil = d := ⟨_, rfl⟩
              have hdl : L[i]? = some d := by
                rw [← HpL.out, Array.getElem?_toList, ← hd]
                exact Array.getElem?_eq_getElem hil
              have hfi' : (f : Int) ≤ (i : Int) := by omega
              by_cases h47 : d = 47
              · have h47' : ((d.toNat : Int) == 47) = true := by rw [h47]; rfl
                have hsep : i = n ∨ L[i]? = some 47 := .inr (by rw [hdl, h47])
                clear hin hdl h47
                have hpsz : (p.extract f i).size ≤ 140737488355328 := by
                  simp only [ByteArray.size_extract]
                  omega
                have HNm := fun W => RName_any (p.extract f i) hpsz W
                obtain ⟨rest, hrs, hrest⟩ := sp_piece HLn.out hlt hsp.out hsep
                have hpd : (p.extract f i).data.toList = (L.drop f).take (i - f) := by rw [Lib.extract_data, HpL.out]
                have hbadp := Hbad.out done (p.extract f i) rest (by rw [hpd]; exact hrs)
                obtain ⟨piece, hpc⟩ : ∃ piece, p.extract f i = piece := ⟨_, rfl⟩
                rw [hpc] at HNm hpd hbadp
                have Hrow := Lib.hid hrow
                have Hbp := Lib.hid hbadp
                have Hlt := Lib.hid hlt
                obtain ⟨A4, c4, rfl⟩ := own_form hrow
                obtain ⟨m, hm⟩ : ∃ m, done.length = m := ⟨_, rfl⟩
                rw [hm] at Hrow hd6
                rw [hm]
                have Hm := Lib.hid hm
                have Hsep := Lib.hid (And.intro hrs (And.intro hrest hpd))
                clear hrs hrest hpd hbadp hrow hsep hm
                rcases hnb : nameB piece with _ | _
                · rw [hnb] at HNm
                  have Hnone := Lib.hid (Hbp.out (.inl hnb))
                  clear hnb
                  go_wp2_with (go_at_call 122; refine (HNm _).mono ?_; rintro e w2 ⟨rfl, rfl⟩)
                  go_ret2
                  exact .inr ⟨Hnone.out, rfl, hE⟩
                · rw [hnb] at HNm
                  have Hnb := Lib.hid hnb
                  clear hnb
                  by_cases h6 : m = 6
                  · have h6' : ((m : Int) == 6) = true := by rw [beq_iff_eq]; omega
                    have Hnone := Lib.hid (Hbp.out (.inr (by rw [Hm.out]; exact h6)))
                    clear h6
                    go_wp2_with (go_at_call 122; refine (HNm _).mono ?_; rintro e w2 ⟨rfl, rfl⟩)
                    go_ret2
                    exact .inr ⟨Hnone.out, rfl, hE⟩
                  · have h6' : ((m : Int) == 6) = false := by rw [beq_eq_false_iff_ne]; omega
                    have H6 := Lib.hid h6
                    have hEs := hE.size
                    clear h6
                    go_wp2_with (first | (go_at_call 122; refine (HNm _).mono ?_; rintro e w2 ⟨rfl, rfl⟩) | (at_builtin; (refine wpList_append_own _ rfl _ _ 27 rfl w.heap.size 9 i0 (.string ⟨#[]⟩) 1 16 Tryz.underlying27 hi hz0 hz1 hz2 rfl (by decide) _ _ _ rfl (Hrow.out.alloc _) ⟨w2.heap.size, 0, none⟩ 1 1 [.string piece] rfl rfl (World.news_of_block (cs := #[.string piece]) (t := 9) (fr := (0, 0)) (Blk.new w2 _ _)) (by simp [Value.oneCell']) (by unfold maxLen; omega) (by omega) (by rw [World.size_alloc]; omega) ?_; intro v9 w9 hown9 hgrow9 hnil9)))
                    exact sp_next HLn.out Hlt.out (by rw [Hm.out]; exact hd6) (by rw [Hm.out]; exact H6.out) hsp.out Hsep.out.2.2 Hnb.out Hsep.out.1 Hsep.out.2.1 (by rw [Hm.out]; exact hown9) (Ext.grown (hE.alloc _) hgrow9 (fun j hj => (Hrow.out.lt j hj).1))
              · have h47' : ((d.toNat : Int) == 47) = false := by
                  rw [beq_eq_false_iff_ne]
                  intro e
                  exact h47 (UInt8.toNat_inj.1 (by show d.toNat = 47; omega))
                have hne : L[i]? ≠ some 47 := fun e => by
                  rw [hdl] at e
                  exact h47 (Option.some.inj e)
                have Hgo := Lib.hid (sp_go (w := w) (W := wr) HLn.out (by omega : i < n) hfi hd6 hsp.out hne hrow hE)
                clear hin hdl h47 hne hrow
                go_wp2
                exact Hgo.out
          · have hin : i = n + 1 := by omega
            have hlt' : ¬ (i : Int) ≤ (n : Int) := by omega
            have hns : names p = some done := by
              obtain ⟨h1, h2⟩ := hsp.out
              have hl := HLn.out
              rcases h2 with ⟨h2, _⟩ | ⟨_, h2⟩
              · omega
              · exact Hgood.out done h2 h1 hd6
            have hrd : RdS wr u4 done := RdS.of_own hrow (by omega)
            have Hns := Lib.hid (And.intro hns hrd)
            clear hns hrd hrow hin
            go_wp2
            go_ret2
            exact .inl ⟨done, _, Hns.out.1, rfl, Hns.out.2, hE⟩
      · have h47' : ((c.toNat : Int) != 47) = true := by
          rw [bne_iff_ne]
          intro e
          exact h47 (UInt8.toNat_inj.1 (by show c.toNat = 47; omega))
        have hn : names p = none := by
          rw [hL] at hcl
          rcases L with _ | ⟨d, r⟩
          · simp [names, splitP, hL]
          · simp at hcl
            have hd : ¬ d = 47 := fun e => h47 (by rw [← hcl, e])
            simp [names, splitP, hL, hd]
        have Hn := Lib.hid hn
        clear hroot hlen hn h0 h47 hcl hL
        go_enter Tryz.func69, Tryz.ntmps69
        go_wp2
        go_ret2
        exact .inr ⟨Hn.out, rfl, Ext.refl _⟩
end Go.Proofs.YtknfaabhlcdeoaaGreatDoor
