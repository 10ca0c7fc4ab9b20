/- The document's Lay: right acts' text; the document's act of the program's. -/
import Derived.Test.YtiomljaengonoaaGreatDoorRefDec
import Derived.Test.YtiomljaengonoaaGreatDoorRefNeeds
import Derived.Test.YtiomljaengonoaaGreatDoorScrLaw
import Derived.Test.YtiomljaengonoaaGreatDoorScrBuild
namespace Go.Proofs.YtiomljaengonoaaGreatDoor
open Go Go.RowKit Go.Shelf Go.Proofs Go.Maps

theorem Dec_int {v : Int} (h0 : 0 ≤ v) (h1 : v ≤ 9999) (w : World) :
    Calls Tryz.prog 51 #[.int .i64 v] w fun e w' => e = .returned (.string (B (Lib.itoa v))) ∧ Ext w w' := by
  obtain ⟨k, rfl⟩ : ∃ k : Nat, v = k := ⟨v.toNat, by omega⟩
  rw [itoa_of_nat]
  exact Dec_ref k (by omega) w

def flatT (a : ActP) (w : List UInt8) : List UInt8 := w.flatMap fun c => 32 :: textP a c

theorem join_flat (a : ActP) : ∀ (w x : List UInt8), x ++ flatT a w = joinP 32 (x :: textsP a w)
  | [], x => by simp [flatT, textsP, joinP]
  | c :: w, x => by
    have ih := join_flat a w (textP a c)
    simp only [flatT, textsP, List.map_cons, List.flatMap_cons, joinP] at ih ⊢
    rw [← ih]
    simp

theorem parts_form {a : ActP} {ps : List (List UInt8)} (h : partsP a = some ps) : ∃ w, needsOf a.name = some w ∧ ps = a.name :: textsP a w ∧ (∀ c ∈ w, (textP a c).length ≤ 64) ∧ a.name.length ≤ 6 ∧ 0 ≤ a.n ∧ a.n ≤ 9999 ∧ 0 ≤ a.m ∧ a.m ≤ 9999 := by
  have hps := ofP_parts (partsP_of h)
  cases hn : needsOf a.name with
  | none =>
    simp only [partsP, hn] at h
    cases h
  | some w =>
    have hr := (right_iff hn).1 (by rw [h]; rfl)
    simp only [partsP, hn] at h
    split at h
    · cases h
      refine ⟨w, rfl, rfl, fun c hc => ?_, (needs_plain hn).1, ?_⟩
      · have := List.all_eq_true.1 hps.2.1 (textP a c) (.tail _ (List.mem_map.2 ⟨c, hc, rfl⟩))
        simp at this
        omega
      · obtain ⟨_, _, h3, h4⟩ := hr
        split at h3 <;> split at h4 <;> omega
    · cases h

theorem flat_take {a : ActP} {w : List UInt8} {j : Nat} {c : UInt8} (h : w[j]? = some c) : flatT a (w.take (j + 1)) = flatT a (w.take j) ++ 32 :: textP a c := by
  rw [List.take_add_one, h]
  simp [flatT]

theorem lay_parts {l : List ActP} {s : List UInt8} (h : layP l = some s) : ∀ a ∈ l, ∃ ps, partsP a = some ps := by
  induction l generalizing s with
  | nil => intro a ha; cases ha
  | cons b l ih =>
    simp only [layP] at h
    split at h
    · rename_i x y hx hy
      intro a ha
      rcases List.mem_cons.1 ha with rfl | ha
      · rw [lineP] at hx
        cases hp : partsP a with
        | none => rw [hp] at hx; cases hx
        | some ps => exact ⟨ps, rfl⟩
      · exact ih hy a ha
    · cases h

theorem lay_step (x p : List UInt8) : B x ++ (⟨#[32]⟩ : ByteArray) ++ B p = B (x ++ 32 :: p) := by
  rw [show (⟨#[32]⟩ : ByteArray) = B [32] from rfl, B_add, B_add]
  congr 1
  simp

set_option maxRecDepth 100000 in
set_option maxHeartbeats 8000000 in
theorem Lay_ref (v : Value) (l : List ActP) (s : List UInt8) (w : World) (hv : RdW w v l) (hl : l.length ≤ 60) (hs : layP l = some s) :
    Calls Tryz.prog 28 #[v] w fun e w' => e = .returned (.string (B s)) ∧ Ext w w' := by
  obtain ⟨n, hn⟩ : ∃ n, l.length = n := ⟨_, rfl⟩
  have Hn := Lib.hid hn
  have Hv := Lib.hid hv
  have Hs := Lib.hid hs
  obtain ⟨A, c, rfl, hc1, hc2, hlm, _⟩ := hv
  rw [hn] at hc1 hlm hl ⊢
  clear hn hs
  go_enter Tryz.func28, Tryz.ntmps28
  go_wp2
  go_loopw [3, 4] (fun sv i wr => ∃ (k : Nat) (t : List UInt8), sv = .string (B t) ∧ i = .int .i64 k ∧ k ≤ n ∧ Hid (layP (l.take k) = some t) ∧ Ext w wr) (fun _ i _ => n - (intOf i).toNat)
  case atStart => exact ⟨0, [], rfl, rfl, Nat.zero_le _, Lib.hid rfl, Ext.refl _⟩
  case round =>
    obtain ⟨k, t, rfl, rfl, hkn, ht, hE⟩ := hrel
    by_cases hlt : k < n
    · have hlt' : (k : Int) < (n : Int) := by omega
      have hkl : k < l.length := by have := Hn.out; omega
      obtain ⟨b, o, c', e2, _, _, hcell⟩ := RdW.at_ (RdW.ext Hv.out hE) (by intro e; rw [e] at hkl; simp at hkl)
      cases e2
      obtain ⟨d0, d1, d2, d3, d4, _⟩ := hcell k hkl
      obtain ⟨a, ha⟩ : ∃ a, l[k] = a := ⟨_, rfl⟩
      rw [ha] at d0 d1 d2 d3 d4
      obtain ⟨ps, hps⟩ := lay_parts Hs.out a (by rw [← ha]; exact List.getElem_mem hkl)
      obtain ⟨what, hw, hpe, htl, hnl, n0, n9, m0, m9⟩ := parts_form hps
      have hline : lineP l[k] = some (joinP 32 ps ++ [10]) := by rw [ha, lineP, hps]; rfl
      have hnext := lay_take hkl ht.out hline
      rw [hpe, ← join_flat] at hnext
      have htl2 : t.length ≤ 52200 := by
        have h1 := lay_len _ t ht.out
        rw [List.length_take] at h1
        omega
      have Hnext := Lib.hid hnext
      have Ht := Lib.hid htl
      have HN : ∀ w', Calls Tryz.prog 24 #[.string (B a.name)] w' fun e w'' => e = .returned (.tuple #[.string (B what), .bool true]) ∧ Ext w' w'' := fun w' => (Needs_ref a.name w').mono fun e w'' h => by
        rw [NeedsPost, needV, hw] at h
        exact h
      have HN1 := HN wr
      have hDn := fun w' => Dec_int n0 n9 w'
      have hDm := fun w' => Dec_int m0 m9 w'
      obtain ⟨hall, hl3⟩ := needs_all hw
      have hbt : (B t).size ≤ 60000 := by rw [size_B]; omega
      have hbn : (B a.name).size ≤ 6 := by rw [size_B]; exact hnl
      have hadd0 : B t ++ B a.name = B (t ++ a.name) := B_add _ _
      clear hcell ha hps hpe hline hnext htl HN hw ht n0 n9 m0 m9
      obtain ⟨S, hS⟩ : ∃ S, B what = S := ⟨_, rfl⟩
      have hSs : S.size = what.length := by rw [← hS, size_B]
      have HS := Lib.hid hS
      rw [hS] at HN1
      clear hS
      have hS3 : S.size ≤ 3 := by omega
      have HSs := Lib.hid hSs
      have Hadd0 := Lib.hid hadd0
      clear hSs hadd0
      go_upto_region 7 with (go_at_call 24; refine HN1.mono ?_; rintro e W2 ⟨rfl, hE2⟩; have d0 := hE2.cell d0; have d1 := hE2.cell d1; have d2 := hE2.cell d2; have d3 := hE2.cell d3; have d4 := hE2.cell d4)
      rw [Hadd0.out]
      go_wp2
      have hEw : Ext w W2 := hE.trans hE2
      have D0 := Lib.hid (⟨d0, d1, d2, d3, d4⟩ : W2.cell? ⟨b, o + k * 5, none⟩ = some (.string (B a.name)) ∧ W2.cell? ⟨b, o + k * 5 + 1, none⟩ = some (.string (B a.p)) ∧ W2.cell? ⟨b, o + k * 5 + 2, none⟩ = some (.string (B a.q)) ∧ W2.cell? ⟨b, o + k * 5 + 3, none⟩ = some (.int .i64 a.n) ∧ W2.cell? ⟨b, o + k * 5 + 4, none⟩ = some (.int .i64 a.m))
      clear d0 d1 d2 d3 d4 hE2 HN1 hE
      go_loopw [3, 7] (fun sv jv wi => ∃ (j : Nat) (X : List UInt8), sv = .string (B X) ∧ jv = .int .i64 j ∧ j ≤ S.size ∧ X.length ≤ 60000 + 65 * j ∧ Hid (X = t ++ a.name ++ flatT a (what.take j)) ∧ Ext W2 wi) (fun _ jv _ => S.size - (intOf jv).toNat)
      case atStart => exact ⟨0, t ++ a.name, rfl, rfl, Nat.zero_le _, by rw [List.length_append]; omega, Lib.hid (List.append_nil _).symm, Ext.refl _⟩
      case round =>
        obtain ⟨j, X, rfl, rfl, hjn, hul, hu, hE3⟩ := hrel
        by_cases hp : j < S.size
        · have hp' : (j : Int) < (S.size : Int) := by omega
          have hget : ∃ c, what[j]? = some c ∧ S[j]'hp = c := by
            have h2 : S.data.toList[j]? = some (S[j]'hp) := by
              rw [Array.getElem?_toList]
              exact Array.getElem?_eq_getElem hp
            have h3 : S.data.toList = what := by rw [← HS.out, toList_B]
            rw [h3] at h2
            exact ⟨_, h2, rfl⟩
          obtain ⟨x, hx, hsx⟩ := hget
          have hxl := Ht.out x (List.mem_of_getElem? hx)
          have hcb := needB_cases (List.all_eq_true.1 hall x (List.mem_of_getElem? hx))
          have Hut : Hid (X ++ 32 :: textP a x = t ++ a.name ++ flatT a (what.take (j + 1))) := Lib.hid (by rw [hu.out, flat_take hx]; simp)
          have hadd := lay_step X (textP a x)
          have hbl : (B X).size ≤ 70000 := by
            rw [size_B]
            omega
          have hbx : (B (textP a x)).size ≤ 64 := by rw [size_B]; exact hxl
          have hnl : (X ++ 32 :: textP a x).length ≤ 60000 + 65 * (j + 1) := by simp; omega
          have hcs : ∀ d : UInt8, ((((S[j]'hp).toNat : Nat) : Int) == ((d.toNat : Nat) : Int)) = decide (x = d) := fun d => by
            rw [hsx, Bool.eq_iff_iff]
            simp only [beq_iff_eq, decide_eq_true_eq]
            constructor
            · intro e; exact UInt8.toNat_inj.1 (by omega)
            · intro e; rw [e]
          have c110 : ((((S[j]'hp).toNat : Nat) : Int) == 110) = decide (x = 110) := hcs 110
          have c109 : ((((S[j]'hp).toNat : Nat) : Int) == 109) = decide (x = 109) := hcs 109
          have c113 : ((((S[j]'hp).toNat : Nat) : Int) == 113) = decide (x = 113) := hcs 113
          obtain ⟨d0, d1, d2, d3, d4⟩ := D0.out
          have d1 := hE3.cell d1
          have d2 := hE3.cell d2
          have d3 := hE3.cell d3
          have d4 := hE3.cell d4
          have hDn1 := hDn wr
          have hDm1 := hDm wr
          clear d0 hx hsx hcs hu hxl hul hDn hDm
          rcases hcb with rfl | rfl | rfl | rfl
          · have c110 : ((((S[j]'hp).toNat : Nat) : Int) == 110) = false := c110
            have c109 : ((((S[j]'hp).toNat : Nat) : Int) == 109) = false := c109
            have c113 : ((((S[j]'hp).toNat : Nat) : Int) == 113) = false := c113
            rw [show textP a 112 = a.p from rfl] at hadd Hut hbx hnl
            have Hadd := Lib.hid hadd
            clear hadd
            go_wp2
            exact ⟨⟨j + 1, _, congrArg Value.string Hadd.out, by go_num, by omega, hnl, Hut, hE3⟩, by simp [intOf]; omega⟩
          · have c110 : ((((S[j]'hp).toNat : Nat) : Int) == 110) = false := c110
            have c109 : ((((S[j]'hp).toNat : Nat) : Int) == 109) = false := c109
            have c113 : ((((S[j]'hp).toNat : Nat) : Int) == 113) = true := c113
            rw [show textP a 113 = a.q from rfl] at hadd Hut hbx hnl
            have Hadd := Lib.hid hadd
            clear hadd
            go_wp2
            exact ⟨⟨j + 1, _, congrArg Value.string Hadd.out, by go_num, by omega, hnl, Hut, hE3⟩, by simp [intOf]; omega⟩
          · have c110 : ((((S[j]'hp).toNat : Nat) : Int) == 110) = true := c110
            have c109 : ((((S[j]'hp).toNat : Nat) : Int) == 109) = false := c109
            have c113 : ((((S[j]'hp).toNat : Nat) : Int) == 113) = false := c113
            rw [show textP a 110 = Lib.itoa a.n from rfl] at hadd Hut hbx hnl
            have Hadd := Lib.hid hadd
            clear hadd
            go_wp2_with (go_at_call 51; refine hDn1.mono ?_; rintro e W4 ⟨rfl, hE4⟩)
            exact ⟨⟨j + 1, _, congrArg Value.string Hadd.out, by go_num, by omega, hnl, Hut, hE3.trans hE4⟩, by simp [intOf]; omega⟩
          · have c110 : ((((S[j]'hp).toNat : Nat) : Int) == 110) = false := c110
            have c109 : ((((S[j]'hp).toNat : Nat) : Int) == 109) = true := c109
            have c113 : ((((S[j]'hp).toNat : Nat) : Int) == 113) = false := c113
            rw [show textP a 109 = Lib.itoa a.m from rfl] at hadd Hut hbx hnl
            have Hadd := Lib.hid hadd
            clear hadd
            go_wp2_with (go_at_call 51; refine hDm1.mono ?_; rintro e W4 ⟨rfl, hE4⟩)
            exact ⟨⟨j + 1, _, congrArg Value.string Hadd.out, by go_num, by omega, hnl, Hut, hE3.trans hE4⟩, by simp [intOf]; omega⟩
        · have hp' : ¬ (j : Int) < (S.size : Int) := by omega
          have huw : X = t ++ a.name ++ flatT a what := by
            have h := hu.out
            rwa [List.take_of_length_le (by have := HSs.out; omega)] at h
          have hbl : (B X).size ≤ 70000 := by
            rw [size_B]
            omega
          have hadd : B X ++ (⟨#[10]⟩ : ByteArray) = B (t ++ (a.name ++ flatT a what ++ [10])) := by
            rw [show (⟨#[10]⟩ : ByteArray) = B [10] from rfl, B_add, huw]
            congr 1
            simp
          have Hadd := Lib.hid hadd
          clear hadd huw hu D0 hDn hDm
          go_wp2
          exact ⟨⟨k + 1, _, congrArg Value.string Hadd.out, by go_num, by omega, Hnext, hEw.trans hE3⟩, by simp [intOf]; omega⟩
    · have hlt' : ¬ (k : Int) < (n : Int) := by omega
      have hte : Hid (t = s) := Lib.hid (by
        have h := ht.out
        rw [List.take_of_length_le (by have := Hn.out; omega), Hs.out] at h
        cases h
        rfl)
      clear ht
      go_wp2
      go_ret
      exact ⟨by rw [hte.out]; rfl, hE⟩

set_option maxHeartbeats 4000000 in
theorem Plain_any (a : ActP) (w : World) :
    Calls Tryz.prog 30 #[a.val] w fun e w' => e = .returned a.val ∧ Ext w w' := by
  rw [show a.val = .agg #[.string (B a.name), .string (B a.p), .string (B a.q), .int .i64 a.n, .int .i64 a.m] from rfl]
  go_enter Tryz.func30, Tryz.ntmps30
  go_wp2
  have hY := Blk.new (w.alloc (.cells #[.string (B a.name), .string (B a.p), .string (B a.q), .int .i64 a.n, .int .i64 a.m] 48)) 44 #[.string (B a.name), .string (B a.p), .string (B a.q), .int .i64 a.n, .int .i64 a.m]
  rw [World.size_alloc] at hY
  obtain ⟨⟨y0, _⟩, ⟨y1, _⟩, ⟨y2, _⟩, ⟨y3, _⟩, ⟨y4, _⟩⟩ := hY.five
  refine bodyPost_ret (v := .agg #[.string (B a.name), .string (B a.p), .string (B a.q), .int .i64 a.n, .int .i64 a.m]) (by simp [results, Tryz.f30, go_sem, y0, y1, y2, y3, y4]) rfl ?_
  exact ⟨rfl, (by repeat (first | exact Ext.refl _ | assumption | refine Ext.alloc ?_ _ | refine Ext.drew ?_ | refine Ext.drewN ?_ _ | refine Ext.setCell ?_ (by first | omega | (simp; done) | (simp; omega)) _ | refine Ext.trans ?_ (by assumption)))⟩
end Go.Proofs.YtiomljaengonoaaGreatDoor
