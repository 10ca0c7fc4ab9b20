/- The document's Join, Less, Parent, and its Right of entries, layers and stacks. -/
import Derived.Test.YtknfaabhlcdeoaaGreatDoorRNames
import Derived.Test.YtknfaabhlcdeoaaGreatDoorUnder
import Derived.Test.YtknfaabhlcdeoaaGreatDoorLHelp
import Derived.Lib.QuietBelow
namespace Go.Proofs.YtknfaabhlcdeoaaGreatDoor
open Go Go.RowKit Go.Shelf Go.Proofs

/-- Names, a slash ahead of each. -/
def slL (xs : List ByteArray) : List UInt8 := xs.flatMap fun x => 47 :: x.data.toList
theorem slL_snoc (xs : List ByteArray) (x : ByteArray) : slL (xs ++ [x]) = slL xs ++ 47 :: x.data.toList := by simp [slL]
theorem slL_path : ∀ {xs : List ByteArray}, xs ≠ [] → pathOf xs = B (slL xs)
  | [], h => absurd rfl h
  | x :: xs, _ => by
    rw [pathOf, if_neg (by simp), List.map_cons, Lib.join_cons]
    congr 1
    have : ∀ ys : List ByteArray, Lib.joinTail [47] (ys.map (·.data.toList)) = slL ys := fun ys => by
      induction ys with
      | nil => rfl
      | cons y ys ih =>
        rw [slL, List.flatMap_cons]
        simp only [Lib.joinTail, List.map_cons, List.flatten_cons] at ih ⊢
        rw [ih]
        rfl
    rw [this]
    rfl
theorem slL_len {xs : List ByteArray} (h : ∀ x ∈ xs, x.size ≤ 8) : (slL xs).length ≤ 9 * xs.length := by
  induction xs with
  | nil => simp [slL]
  | cons x xs ih =>
    have h1 := ih fun y hy => h y (by simp [hy])
    have h2 := h x (by simp)
    have h3 : x.data.toList.length = x.size := Array.length_toList
    rw [slL, List.flatMap_cons] at *
    simp only [List.length_append, List.length_cons] at *
    omega

theorem slL_put (l : List UInt8) (x : ByteArray) : B l ++ ⟨#[47]⟩ ++ x = B (l ++ 47 :: x.data.toList) := by
  apply ByteArray.ext
  simp [B]

def JnRel (xs : List ByteArray) (n : Nat) (w : World) (v3 i : Value) (wr : World) : Prop := ∃ k : Nat, i = .int .i64 k ∧ k ≤ n ∧ v3 = .string (B (slL (xs.take k))) ∧ Ext w wr

set_option maxHeartbeats 4000000 in
set_option maxRecDepth 20000 in
theorem RJoin_any (v : Value) (xs : List ByteArray) (w : World) (hv : RdS w v xs) (h8 : ∀ x ∈ xs, x.size ≤ 8) (h6 : xs.length ≤ 100) :
    Calls Tryz.prog 71 #[v] w fun e w' => e = .returned (.string (pathOf xs)) ∧ Ext w w' := by
  obtain ⟨n, hn⟩ : ∃ n, n = xs.length := ⟨_, rfl⟩
  have Hn := Lib.hid hn
  obtain ⟨A, c, rfl, hc1, hc2, Hcell⟩ := rdS_form hv hn
  have H8 := Lib.hid h8
  rw [← hn] at h6
  clear hn hv h8
  go_enter Tryz.func71, Tryz.ntmps71
  go_wp2
  go_loopw [3, 4] (fun v3 i wr => JnRel xs n w v3 i wr) (fun _ i _ => n - (intOf i).toNat)
  case atStart => exact ⟨0, rfl, Nat.zero_le _, rfl, Ext.refl _⟩
  case round =>
    obtain ⟨k, rfl, hkn, rfl, hE⟩ := hrel
    by_cases hlt : k < n
    · have hh : k < xs.length := by have := Hn.out; omega
      obtain ⟨b, o, rfl, hcell⟩ := Hcell.out (List.ne_nil_of_length_pos (by omega))
      obtain ⟨x, hx⟩ : ∃ x, xs[k]'hh = x := ⟨_, rfl⟩
      have q0 := hE.cell (hcell k hh)
      rw [hx] at q0
      have hx8 : x.size ≤ 8 := H8.out x (by rw [← hx]; exact List.getElem_mem hh)
      have hsl : (slL (xs.take k)).length ≤ 9 * k := by
        have := slL_len (xs := xs.take k) fun y hy => H8.out y (List.mem_of_mem_take hy)
        rwa [List.length_take, Nat.min_eq_left (by omega)] at this
      have hstep : B (slL (xs.take k)) ++ ⟨#[47]⟩ ++ x = B (slL (xs.take (k + 1))) := by rw [slL_put, ← List.take_append_getElem hh, slL_snoc, hx]
      obtain ⟨acc, hacc⟩ : ∃ acc, B (slL (xs.take k)) = acc := ⟨_, rfl⟩
      have hasz : acc.size ≤ 900 := by rw [← hacc, size_B]; omega
      rw [hacc] at hstep ⊢
      have Hstep := Lib.hid hstep
      have hs1 : (acc ++ (⟨#[47]⟩ : ByteArray)).size ≤ 1000 := by simp only [ByteArray.size_append]; show _ + 1 ≤ _; omega
      clear hcell hx hsl hstep hacc
      go_wp2
      exact ⟨⟨k + 1, by simp, by omega, by rw [Hstep.out], hE⟩, by simp [intOf]; omega⟩
    · have hkn' : k = n := by omega
      have hfull : xs.take k = xs := List.take_of_length_le (by have := Hn.out; omega)
      rw [hfull]
      by_cases h0 : xs = []
      · have hem : (B (slL xs)).toList.isEmpty = true := by rw [ByteArray.toList_eq, toList_B, h0]; rfl
        have hp : pathOf xs = ⟨#[47]⟩ := by rw [h0]; rfl
        have Hp := Lib.hid hp
        clear h0 hp
        go_wp2
        go_ret
        exact ⟨by rw [Hp.out]; rfl, hE⟩
      · have hem : (B (slL xs)).toList.isEmpty = false := by
          rw [ByteArray.toList_eq, toList_B]
          rcases xs with _ | ⟨x, xs⟩
          · exact absurd rfl h0
          · rfl
        have Hp := Lib.hid (slL_path h0)
        clear h0
        go_wp2
        go_ret
        exact ⟨by rw [Hp.out]; rfl, hE⟩

/-! ### Less -/

theorem lt_differ {a b : ByteArray} {k : Nat} {c d : UInt8} (h : a.data.toList.take k = b.data.toList.take k) (hc : a.data.toList[k]? = some c) (hd : b.data.toList[k]? = some d) (hne : c ≠ d) : lt a b = decide (c.toNat < d.toNat) := by
  have e1 : a.data.toList = a.data.toList.take k ++ c :: a.data.toList.drop (k + 1) := by
    obtain ⟨h1, h2⟩ := List.getElem?_eq_some_iff.1 hc
    rw [← h2, ← List.drop_eq_getElem_cons, List.take_append_drop]
  have e2 : b.data.toList = a.data.toList.take k ++ d :: b.data.toList.drop (k + 1) := by
    obtain ⟨h1, h2⟩ := List.getElem?_eq_some_iff.1 hd
    rw [h, ← h2, ← List.drop_eq_getElem_cons, List.take_append_drop]
  rw [Bool.eq_iff_iff, lt, decide_eq_true_eq, decide_eq_true_eq, e1, e2, lt_app, List.cons_lt_cons_iff, UInt8.lt_iff_toNat_lt]
  constructor
  · rintro (h | ⟨h, _⟩)
    · exact h
    · exact absurd h hne
  · exact .inl

theorem lt_ended {a b : ByteArray} {k : Nat} (h : a.data.toList.take k = b.data.toList.take k) (hk : k ≤ a.size) (hk2 : k ≤ b.size) (he : k = a.size ∨ k = b.size) : lt a b = decide (a.size < b.size) := by
  have la : a.data.toList.length = a.size := Array.length_toList
  have lb : b.data.toList.length = b.size := Array.length_toList
  have e1 : a.data.toList = a.data.toList.take k ++ a.data.toList.drop k := (List.take_append_drop _ _).symm
  have e2 : b.data.toList = a.data.toList.take k ++ b.data.toList.drop k := by rw [h, List.take_append_drop]
  rw [Bool.eq_iff_iff, lt, decide_eq_true_eq, decide_eq_true_eq, e1, e2, lt_app]
  rcases he with rfl | rfl
  · rw [List.drop_of_length_le (l := a.data.toList) (by omega)]
    rcases hb : b.data.toList.drop a.size with _ | ⟨d, r⟩
    · have := congrArg List.length hb
      rw [List.length_drop] at this
      simp at this ⊢
      omega
    · have := congrArg List.length hb
      rw [List.length_drop, List.length_cons] at this
      simp
      omega
  · rw [List.drop_of_length_le (l := b.data.toList) (by omega)]
    simp
    omega

def LsRel (a b : ByteArray) (w : World) (i : Value) (wr : World) : Prop := ∃ k : Nat, i = .int .i64 k ∧ k ≤ a.size ∧ k ≤ b.size ∧ Hid (a.data.toList.take k = b.data.toList.take k) ∧ Ext w wr

set_option maxHeartbeats 4000000 in
set_option maxRecDepth 20000 in
theorem RLess_any (a b : ByteArray) (w : World) (ha : a.size ≤ 140737488355328) (_hb : b.size ≤ 140737488355328) :
    Calls Tryz.prog 107 #[.string a, .string b] w fun e w' => e = .returned (.bool (lt a b)) ∧ Ext w w' := by
  go_enter Tryz.func107, Tryz.ntmps107
  go_wp2
  go_loopw [5] (fun i wr => LsRel a b w i wr) (fun i _ => a.size - (intOf i).toNat)
  case atStart => exact ⟨0, rfl, Nat.zero_le _, Nat.zero_le _, Lib.hid (by simp), Ext.refl _⟩
  case round =>
    obtain ⟨k, rfl, hka, hkb, htk, hE⟩ := hrel
    by_cases hla : k < a.size
    · have hla' : (k : Int) < (a.size : Int) := by omega
      by_cases hlb : k < b.size
      · have hlb' : (k : Int) < (b.size : Int) := by omega
        obtain ⟨c, hc⟩ : ∃ c, a[k]'hla = c := ⟨_, rfl⟩
        obtain ⟨d, hd⟩ : ∃ d, b[k]'hlb = d := ⟨_, rfl⟩
        have hca : a.data.toList[k]? = some c := by rw [Array.getElem?_toList, ← hc]; exact Array.getElem?_eq_getElem hla
        have hdb : b.data.toList[k]? = some d := by rw [Array.getElem?_toList, ← hd]; exact Array.getElem?_eq_getElem hlb
        by_cases hcd : c = d
        · have hne : ((c.toNat : Int) != (d.toNat : Int)) = false := by rw [hcd]; simp
          have hn : a.data.toList.take (k + 1) = b.data.toList.take (k + 1) := by
            obtain ⟨h1, h2⟩ := List.getElem?_eq_some_iff.1 hca
            obtain ⟨h3, h4⟩ := List.getElem?_eq_some_iff.1 hdb
            rw [← List.take_append_getElem h1, ← List.take_append_getElem h3, htk.out, h2, h4, hcd]
          have Hn := Lib.hid hn
          clear hca hdb hcd hn
          go_upto_region 4 with (fail)
          go_quiet (fail)
          go_wp2
          exact ⟨⟨k + 1, by simp, by omega, by omega, Hn, hE.drewN _⟩, by simp [intOf]; omega⟩
        · have hne : ((c.toNat : Int) != (d.toNat : Int)) = true := by
            rw [bne_iff_ne]
            intro e
            exact hcd (UInt8.toNat_inj.1 (by omega))
          have hl := lt_differ htk.out hca hdb hcd
          have Hl := Lib.hid hl
          clear hca hdb hcd hl
          go_upto_region 4 with (fail)
          go_quiet (fail)
          go_upto_region 5 with (fail)
          go_quiet (fail)
          go_wp2
          go_ret
          exact ⟨by rw [Hl.out]; simp, (hE.drewN _).drewN _⟩
      · have hlb' : ¬ (k : Int) < (b.size : Int) := by omega
        have Hl := Lib.hid (lt_ended htk.out hka hkb (.inr (by omega)))
        go_wp2
        go_ret
        exact ⟨by rw [Hl.out]; simp, hE⟩
    · have hla' : ¬ (k : Int) < (a.size : Int) := by omega
      have Hl := Lib.hid (lt_ended htk.out hka hkb (.inl (by omega)))
      go_wp2
      go_ret
      exact ⟨by rw [Hl.out]; simp, hE⟩

/-! ### Parent, Right of an entry -/

set_option maxHeartbeats 4000000 in
set_option maxRecDepth 20000 in
theorem RParent_any (p : ByteArray) (ys : List ByteArray) (z : ByteArray) (w : World) (hp : p.size ≤ 140737488355328) (hn : names p = some (ys ++ [z])) :
    Calls Tryz.prog 108 #[.string p] w fun e w' => e = .returned (.string (pathOf ys)) ∧ Ext w w' := by
  have hv := (ValN.of hn).1
  have hys := hv.left
  have HS : ∀ W, Calls Tryz.prog 69 #[.string p] W fun e w' => ∃ v, e = .returned (.tuple #[v, .bool true]) ∧ RdS w' v (ys ++ [z]) ∧ Ext W w' := fun W => (RSplit_any p hp W).mono fun e w' h => by
    rcases h with ⟨xs, v, h1, h2, h3, h4⟩ | ⟨h1, _⟩
    · rw [hn] at h1
      cases h1
      exact ⟨v, h2, h3, h4⟩
    · rw [hn] at h1
      cases h1
  have HJ := fun (v : Value) (W : World) (h : RdS W v ys) => RJoin_any v ys W h (fun x hx => nameB_size (List.all_eq_true.1 hys.1 x hx)) (by have := hys.2; omega)
  have HJh := Lib.hid HJ
  have hl6 := hys.2
  clear hv hys hn HJ
  go_enter Tryz.func108, Tryz.ntmps108
  go_upto_region 2 with (go_at_call 69; refine (HS _).mono ?_; rintro e W1 ⟨v1, rfl, hr1, hE1⟩)
  obtain ⟨m, hm⟩ : ∃ m, ys.length = m := ⟨_, rfl⟩
  obtain ⟨A, c, e, hc1, hc2, hc3, _⟩ := id hr1
  have hlen : (ys ++ [z]).length = m + 1 := by rw [List.length_append, List.length_singleton, hm]
  rw [hlen] at e hc1
  subst e
  have hleft := Rd.left hr1
  rw [hm] at hleft hl6
  have HL := Lib.hid hleft
  have hsub : IntKind.i64.wrap (((m + 1 : Nat) : Int) - 1) = (m : Int) := by
    have : (((m + 1 : Nat) : Int) - 1) = (m : Int) := by omega
    rw [this]
    exact IntWalk.i64_in _ ⟨by omega, by omega⟩
  have hmc : (m : Int) ≤ (c : Int) := by omega
  clear hr1 hleft hlen hm
  go_wp2_with (go_at_call 71; refine (HJh.out _ _ HL.out).mono ?_; rintro e W2 ⟨rfl, hE2⟩)
  go_ret
  exact ⟨rfl, hE1.trans hE2⟩

theorem data_empty (x : ByteArray) : x.toList.isEmpty = x.data.toList.isEmpty := by rw [toList_eq]

set_option maxHeartbeats 4000000 in
set_option maxRecDepth 20000 in
theorem REnt_any (x : Ent) (w : World) (hf : x.fits) :
    Calls Tryz.prog 106 #[.agg #[.string x.path, .int .i64 x.kind, .string x.data]] w fun e w' => e = .returned (.bool (entOk x)) ∧ Ext w w' := by
  have HS := fun W => RSplit_any x.path hf.1 W
  have hx := Blk.new w 33 #[.string x.path, .int .i64 x.kind, .string x.data]
  obtain ⟨⟨z0, _⟩, ⟨z1, _⟩, ⟨z2, _⟩⟩ := hx.three
  have Hx := Lib.hid hx
  have he : entOk x = (decide (1 ≤ deep x.path) && (if x.kind = 1 then decide (x.data.size ≤ 256) else (decide (2 ≤ x.kind) && decide (x.kind ≤ 4) && x.data.data.toList.isEmpty))) := rfl
  have hem := data_empty x.data
  rcases hn : names x.path with _ | xs
  · have hr : entOk x = false := by rw [he, deep, hn]; simp
    have HS2 : ∀ W, Calls Tryz.prog 69 #[.string x.path] W fun e w' => e = .returned (.tuple #[.slice none 0 0, .bool false]) ∧ Ext W w' := fun W => (HS W).mono fun e w' h => by
      rcases h with ⟨xs, v, h1, h2, h3, h4⟩ | ⟨_, h⟩
      · rw [hn] at h1; cases h1
      · exact h
    rw [hr]
    clear hr he hn HS hx
    go_enter Tryz.func106, Tryz.ntmps106
    go_wp2_with (go_at_call 69; refine (HS2 _).mono ?_; rintro e W1 ⟨rfl, hE1⟩)
    go_ret
    exact ⟨rfl, by exact (by repeat (first | exact Ext.refl _ | assumption | refine Ext.alloc ?_ _ | refine Ext.drew ?_ | refine Ext.drewN ?_ _ | refine Ext.setCell ?_ (by first | omega | (simp; done) | (simp; omega)) _ | refine Ext.trans ?_ (by assumption)))⟩
  · have HS2 : ∀ W, Calls Tryz.prog 69 #[.string x.path] W fun e w' => ∃ A c, e = .returned (.tuple #[.slice A xs.length c, .bool true]) ∧ Ext W w' := fun W => (HS W).mono fun e w' h => by
      rcases h with ⟨ys, v, h1, h2, h3, h4⟩ | ⟨h1, h⟩
      · rw [hn] at h1
        cases h1
        obtain ⟨A, c, rfl, _⟩ := h3
        exact ⟨A, c, h2, h4⟩
      · rw [hn] at h1; cases h1
    obtain ⟨n, hnl⟩ : ∃ n, xs.length = n := ⟨_, rfl⟩
    rw [hnl] at HS2
    have hd : deep x.path = n := by rw [deep, hn]; show ((xs.length : Nat) : Int) = _; rw [hnl]
    rw [hd] at he
    by_cases h0 : n = 0
    · have h0' : ((n : Int) == 0) = true := by rw [beq_iff_eq]; omega
      have hr : entOk x = false := by rw [he, decide_eq_false (by omega)]; rfl
      rw [hr]
      clear hr he hn HS hx hnl hd h0
      go_enter Tryz.func106, Tryz.ntmps106
      go_wp2_with (go_at_call 69; refine (HS2 _).mono ?_; rintro e W1 ⟨A, c, rfl, hE1⟩)
      go_ret
      exact ⟨rfl, by exact (by repeat (first | exact Ext.refl _ | assumption | refine Ext.alloc ?_ _ | refine Ext.drew ?_ | refine Ext.drewN ?_ _ | refine Ext.setCell ?_ (by first | omega | (simp; done) | (simp; omega)) _ | refine Ext.trans ?_ (by assumption)))⟩
    · have h0' : ((n : Int) == 0) = false := by rw [beq_eq_false_iff_ne]; omega
      rw [decide_eq_true (by omega), Bool.true_and] at he
      by_cases h1 : x.kind = 1
      · have h1' : (x.kind == 1) = true := by simpa using h1
        rw [if_pos h1] at he
        have He := Lib.hid he
        clear he hn HS hx hnl hd h0 h1
        go_enter Tryz.func106, Tryz.ntmps106
        go_wp2_with (go_at_call 69; refine (HS2 _).mono ?_; rintro e W1 ⟨A, c, rfl, hE1⟩; obtain ⟨⟨y0, _⟩, ⟨y1, _⟩, ⟨y2, _⟩⟩ := (Hx.out.ext hE1).three)
        go_ret
        exact ⟨by rw [He.out]; simp; omega, by exact (by repeat (first | exact Ext.refl _ | assumption | refine Ext.alloc ?_ _ | refine Ext.drew ?_ | refine Ext.drewN ?_ _ | refine Ext.setCell ?_ (by first | omega | (simp; done) | (simp; omega)) _ | refine Ext.trans ?_ (by assumption)))⟩
      · have h1' : (x.kind == 1) = false := by simpa using h1
        rw [if_neg h1] at he
        by_cases h2 : 2 ≤ x.kind
        · rw [decide_eq_true h2, Bool.true_and] at he
          by_cases h4 : x.kind ≤ 4
          · rw [decide_eq_true h4, Bool.true_and, ← hem] at he
            have He := Lib.hid he
            clear he hn HS hx hnl hd h0 h1 hem
            go_enter Tryz.func106, Tryz.ntmps106
            go_wp2_with (go_at_call 69; refine (HS2 _).mono ?_; rintro e W1 ⟨A, c, rfl, hE1⟩; obtain ⟨⟨y0, _⟩, ⟨y1, _⟩, ⟨y2, _⟩⟩ := (Hx.out.ext hE1).three)
            go_ret
            exact ⟨by rw [He.out]; rfl, by exact (by repeat (first | exact Ext.refl _ | assumption | refine Ext.alloc ?_ _ | refine Ext.drew ?_ | refine Ext.drewN ?_ _ | refine Ext.setCell ?_ (by first | omega | (simp; done) | (simp; omega)) _ | refine Ext.trans ?_ (by assumption)))⟩
          · rw [decide_eq_false h4, Bool.false_and] at he
            rw [he]
            clear he hn HS hx hnl hd h0 h1 hem
            go_enter Tryz.func106, Tryz.ntmps106
            go_wp2_with (go_at_call 69; refine (HS2 _).mono ?_; rintro e W1 ⟨A, c, rfl, hE1⟩; obtain ⟨⟨y0, _⟩, ⟨y1, _⟩, ⟨y2, _⟩⟩ := (Hx.out.ext hE1).three)
            go_ret
            exact ⟨rfl, by exact (by repeat (first | exact Ext.refl _ | assumption | refine Ext.alloc ?_ _ | refine Ext.drew ?_ | refine Ext.drewN ?_ _ | refine Ext.setCell ?_ (by first | omega | (simp; done) | (simp; omega)) _ | refine Ext.trans ?_ (by assumption)))⟩
        · rw [decide_eq_false h2, Bool.false_and, Bool.false_and] at he
          rw [he]
          clear he hn HS hx hnl hd h0 h1 hem
          go_enter Tryz.func106, Tryz.ntmps106
          go_wp2_with (go_at_call 69; refine (HS2 _).mono ?_; rintro e W1 ⟨A, c, rfl, hE1⟩; obtain ⟨⟨y0, _⟩, ⟨y1, _⟩, ⟨y2, _⟩⟩ := (Hx.out.ext hE1).three)
          go_ret
          exact ⟨rfl, by exact (by repeat (first | exact Ext.refl _ | assumption | refine Ext.alloc ?_ _ | refine Ext.drew ?_ | refine Ext.drewN ?_ _ | refine Ext.setCell ?_ (by first | omega | (simp; done) | (simp; omega)) _ | refine Ext.trans ?_ (by assumption)))⟩
end Go.Proofs.YtknfaabhlcdeoaaGreatDoor
