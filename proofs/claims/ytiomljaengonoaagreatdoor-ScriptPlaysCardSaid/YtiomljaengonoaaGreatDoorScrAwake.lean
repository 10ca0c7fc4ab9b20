/- shalelaw25's awake, few, Of: the document's example is read; lists that are few; an act handed over. -/
import Derived.Test.YtiomljaengonoaaGreatDoorScrRead
namespace Go.Proofs.YtiomljaengonoaaGreatDoor
open Go Go.RowKit Go.Shelf Go.Proofs Go.Maps

def awL : List UInt8 := [119, 114, 105, 116, 101, 32, 47, 97, 32, 51, 32, 120, 121, 122, 10]
def awA : ActP := ⟨[119, 114, 105, 116, 101], [47, 97], [120, 121, 122], 3, 0⟩
theorem numP_three : numP [51] = some 3 := by
  have h := numP_itoa (v := 3) (by decide) (by decide)
  have e : Lib.itoa 3 = [51] := by
    rw [show (3 : Int) = ((3 : Nat) : Int) from rfl, itoa_of_nat, Lib.decDigits_one (by decide)]
    rfl
  rw [e] at h
  exact h
theorem awake_read : actsGo 0 (linesP awL) = .ok [awA] := by
  have e1 : linesP awL = [awL] := by decide +kernel
  have e2 : actP awL = some awA := by
    have h1 : awL.getLast? = some 10 := by decide +kernel
    have h2 : segs 32 awL.dropLast = [[119, 114, 105, 116, 101], [47, 97], [51], [120, 121, 122]] := by decide +kernel
    have h3 : needsOf [119, 114, 105, 116, 101] = some [112, 110, 113] := by decide +kernel
    have h4 : wordP [47, 97] = true := by decide +kernel
    have h5 : wordP [120, 121, 122] = true := by decide +kernel
    rw [actP, if_pos h1, h2]
    simp only [ofP, h3]
    rw [if_pos (by decide)]
    simp [ofGo, h4, h5, numP_three, awA]
  rw [e1]
  simp only [actsGo, e2]
  rfl

theorem code_scr {w : World} {a : Nat} {c : Int} (h : ErrN w 1 (.iface 131 (.pointer (some ⟨a, 0, none⟩))) c) (hV : ScrVars w) :
    Calls Tryz.prog 17 #[.iface 131 (.pointer (some ⟨a, 0, none⟩))] w fun e w' => e = .returned (.int .i64 c) ∧ Ext w w' := Code_err 1 _ c w h hV.laid

/-- The cells of an act that is read. -/
theorem RdA.at_ {w : World} {v : Value} {l : List ActP} (h : RdA w v l) (hne : l ≠ []) :
    ∃ b o c, v = .slice (some ⟨b, o, Option.none⟩) l.length c ∧ l.length ≤ c ∧ c ≤ 9223372036854775807 ∧
      ∀ (j : Nat) (h : j < l.length), w.cell? ⟨b, o + j * 5, Option.none⟩ = some (.string (B l[j].name)) ∧ w.cell? ⟨b, o + j * 5 + 1, Option.none⟩ = some (.string (B l[j].p)) ∧ w.cell? ⟨b, o + j * 5 + 2, Option.none⟩ = some (.string (B l[j].q)) ∧
        w.cell? ⟨b, o + j * 5 + 3, Option.none⟩ = some (.int .i64 l[j].n) ∧ w.cell? ⟨b, o + j * 5 + 4, Option.none⟩ = some (.int .i64 l[j].m) ∧ l[j].fits := by
  obtain ⟨b, o, c, rfl, h1, h2, hc⟩ := Rd.open_ h hne
  refine ⟨b, o, c, rfl, h1, h2, fun j hj => ?_⟩
  obtain ⟨cs, ⟨hr, hf⟩, hu⟩ := hc j l[j] (List.getElem?_eq_getElem hj)
  subst hr
  exact ⟨hu 0 _ rfl, hu 1 _ rfl, hu 2 _ rfl, hu 3 _ rfl, hu 4 _ rfl, hf⟩

set_option maxHeartbeats 4000000 in
theorem awakeS_any (w : World) (hV : ScrVars w) :
    Calls Tryz.prog 20 #[] w fun e w' => e = .returned (.bool true) ∧ Ext w w' := by
  have HR : ∀ w', Ext w w' → Calls Tryz.prog 25 #[.string ⟨#[119, 114, 105, 116, 101, 32, 47, 97, 32, 51, 32, 120, 121, 122, 10]⟩] w' fun e w'' => ∃ v, e = .returned (.tuple #[v, .int .i64 0, .nilIface]) ∧ RdA w'' v [awA] ∧ Ext w' w'' :=
    fun w' h => (Read_any (B awL) (by decide) w' (hV.ext h)).mono fun e w'' h => by
      rw [ReadAns, toList_B, awake_read] at h
      exact h
  go_enter Tryz.func20, Tryz.ntmps20
  go_upto_region 2 with (go_at_call 25; refine (HR _ (Ext.refl _)).mono ?_; rintro e W1 ⟨v, rfl, hR1, hE1⟩)
  obtain ⟨b, o, c, rfl, hc1, hc2, hcell⟩ := RdA.at_ hR1 (by simp)
  obtain ⟨d0, d1, d2, d3, d4, _⟩ := hcell 0 (by simp)
  simp only [Nat.zero_mul, Nat.add_zero, List.getElem_cons_zero, awA] at d2 d3
  simp only [List.length_singleton] at hc1 ⊢
  clear hcell d0 d1 d4 hR1
  have hq : ((B [120, 121, 122]).toList == [120, 121, 122]) = true := by decide +kernel
  go_wp2_with (go_at_call 17; refine (Code_nil _).mono ?_; rintro e W2 ⟨rfl, hE2⟩; have g2 := hE2.cell d2; have g3 := hE2.cell d3)
  go_ret
  exact ⟨rfl, hE1.trans hE2⟩

/-- Acts that came in: numbers are an int's. -/
structure ActP.ints (a : ActP) : Prop where
  n0 : -9223372036854775808 ≤ a.n
  n1 : a.n ≤ 9223372036854775807
  m0 : -9223372036854775808 ≤ a.m
  m1 : a.m ≤ 9223372036854775807
def RW (_ : World) (a : ActP) (cs : List Value) : Prop := cs = a.cells ∧ a.ints
abbrev RdW := Rd RW 5
theorem RdW.ext {w w' : World} {v : Value} {l : List ActP} (h : RdW w v l) (he : Ext w w') : RdW w' v l := Rd.ext (fun _ _ _ _ _ h => h) h he
theorem RdW.at_ {w : World} {v : Value} {l : List ActP} (h : RdW w v l) (hne : l ≠ []) :
    ∃ b o c, v = .slice (some ⟨b, o, Option.none⟩) l.length c ∧ l.length ≤ c ∧ c ≤ 9223372036854775807 ∧
      ∀ (j : Nat) (h : j < l.length), w.cell? ⟨b, o + j * 5, Option.none⟩ = some (.string (B l[j].name)) ∧ w.cell? ⟨b, o + j * 5 + 1, Option.none⟩ = some (.string (B l[j].p)) ∧ w.cell? ⟨b, o + j * 5 + 2, Option.none⟩ = some (.string (B l[j].q)) ∧
        w.cell? ⟨b, o + j * 5 + 3, Option.none⟩ = some (.int .i64 l[j].n) ∧ w.cell? ⟨b, o + j * 5 + 4, Option.none⟩ = some (.int .i64 l[j].m) ∧ l[j].ints := by
  obtain ⟨b, o, c, rfl, h1, h2, hc⟩ := Rd.open_ h hne
  refine ⟨b, o, c, rfl, h1, h2, fun j hj => ?_⟩
  obtain ⟨cs, ⟨hr, hf⟩, hu⟩ := hc j l[j] (List.getElem?_eq_getElem hj)
  subst hr
  exact ⟨hu 0 _ rfl, hu 1 _ rfl, hu 2 _ rfl, hu 3 _ rfl, hu 4 _ rfl, hf⟩

/-- An act whose texts are short. -/
def smallA (a : ActP) : Bool := decide (a.name.length ≤ 100) && (decide (a.p.length ≤ 100) && decide (a.q.length ≤ 100))
def fewP (l : List ActP) : Bool := decide (l.length ≤ 60) && l.all smallA

theorem all_take (l : List ActP) (k : Nat) (h : k < l.length) : (l.take (k + 1)).all smallA = ((l.take k).all smallA && smallA l[k]) := by
  rw [List.take_add_one, List.getElem?_eq_getElem h]
  simp only [Option.toList_some, List.all_append, List.all_cons, List.all_nil, Bool.and_true]

set_option maxHeartbeats 4000000 in
theorem few_any (v : Value) (l : List ActP) (w : World) (hv : RdW w v l) :
    Calls Tryz.prog 21 #[v] w fun e w' => e = .returned (.bool (fewP l)) ∧ w' = w := by
  obtain ⟨n, hn⟩ : ∃ n, l.length = n := ⟨_, rfl⟩
  have Hn := Lib.hid hn
  have Hv := Lib.hid hv
  obtain ⟨A, c, rfl, hc1, hc2, hlm, _⟩ := hv
  rw [hn] at hc1 hlm ⊢
  clear hn
  go_enter Tryz.func21, Tryz.ntmps21
  go_wp2
  go_loop [3] (fun i => ∃ k : Nat, i = .int .i64 k ∧ k ≤ n ∧ k ≤ 61 ∧ Hid ((l.take k).all smallA = true)) (fun i => n - (intOf i).toNat)
  case atStart => exact ⟨0, rfl, Nat.zero_le _, by omega, Lib.hid (by simp)⟩
  case round =>
    obtain ⟨k, rfl, hkn, hk61, hall⟩ := hrel
    by_cases hlt : k < n
    · have hlt' : (k : Int) < (n : Int) := by omega
      have hkl : k < l.length := by have := Hn.out; omega
      by_cases h60 : k ≤ 60
      · have h60' : (k : Int) ≤ 60 := by omega
        obtain ⟨b, o, c', e2, _, _, hcell⟩ := RdW.at_ Hv.out (by intro e; rw [e] at hkl; simp at hkl)
        cases e2
        obtain ⟨d0, d1, d2, d3, d4, hf⟩ := hcell k hkl
        have hs0 := size_B l[k].name
        have hs1 := size_B l[k].p
        have hs2 := size_B l[k].q
        have hsm : smallA l[k] = (decide (l[k].name.length ≤ 100) && (decide (l[k].p.length ≤ 100) && decide (l[k].q.length ≤ 100))) := rfl
        have htk := all_take l k hkl
        generalize l[k] = x at *
        obtain ⟨s0, hs0e⟩ : ∃ s, B x.name = s := ⟨_, rfl⟩
        obtain ⟨s1, hs1e⟩ : ∃ s, B x.p = s := ⟨_, rfl⟩
        obtain ⟨s2, hs2e⟩ : ∃ s, B x.q = s := ⟨_, rfl⟩
        rw [hs0e] at d0 hs0
        rw [hs1e] at d1 hs1
        rw [hs2e] at d2 hs2
        have HT := Lib.hid htk
        have HM := Lib.hid hsm
        have H0 := Lib.hid hs0
        have H1 := Lib.hid hs1
        have H2 := Lib.hid hs2
        clear hcell hf hs0e hs1e hs2e htk hsm d3 d4 hs0 hs1 hs2 hkl
        have bad : smallA x = false → Hid (fewP l = false) := fun h => Lib.hid (by
          rw [fewP, Bool.and_eq_false_iff]
          refine .inr ?_
          by_cases hb : l.all smallA = true
          · exfalso
            have h1 : (l.take (k + 1)).all smallA = true := List.all_eq_true.2 fun y hy => List.all_eq_true.1 hb y (List.take_subset _ _ hy)
            rw [HT.out, h] at h1
            simp at h1
          · simpa using hb)
        by_cases g0 : s0.size ≤ 100
        · have g0' : ¬ (100 : Int) < (s0.size : Int) := by omega
          by_cases g1 : s1.size ≤ 100
          · have g1' : ¬ (100 : Int) < (s1.size : Int) := by omega
            by_cases g2 : s2.size ≤ 100
            · have g2' : ¬ (100 : Int) < (s2.size : Int) := by omega
              have hgood : Hid ((l.take (k + 1)).all smallA = true) := Lib.hid (by
                have := H0.out
                have := H1.out
                have := H2.out
                rw [HT.out, hall.out, HM.out]
                simp
                omega)
              clear bad
              go_wp2
              exact ⟨⟨k + 1, by go_num, by omega, by omega, hgood⟩, by simp [intOf]; omega⟩
            · have g2' : (100 : Int) < (s2.size : Int) := by omega
              have hb := bad (by have := H2.out; rw [HM.out]; simp; omega)
              clear bad
              go_wp2
              go_ret
              exact ⟨by rw [hb.out]; rfl, rfl⟩
          · have g1' : (100 : Int) < (s1.size : Int) := by omega
            have hb := bad (by have := H1.out; rw [HM.out]; simp; omega)
            clear bad
            go_wp2
            go_ret
            exact ⟨by rw [hb.out]; rfl, rfl⟩
        · have g0' : (100 : Int) < (s0.size : Int) := by omega
          have hb := bad (by have := H0.out; rw [HM.out]; simp; omega)
          clear bad
          go_wp2
          go_ret
          exact ⟨by rw [hb.out]; rfl, rfl⟩
      · have h60' : ¬ (k : Int) ≤ 60 := by omega
        have hle : ¬ (n : Int) ≤ 60 := by omega
        have hr : Hid (fewP l = false) := Lib.hid (by rw [fewP, Hn.out]; simp; omega)
        go_wp2
        go_ret
        exact ⟨by rw [hr.out]; rfl, rfl⟩
    · have hlt' : ¬ (k : Int) < (n : Int) := by omega
      have hr : Hid (fewP l = decide (n ≤ 60)) := Lib.hid (by
        have h1 := hall.out
        rw [List.take_of_length_le (by have := Hn.out; omega)] at h1
        rw [fewP, Hn.out, h1, Bool.and_true])
      by_cases h60 : n ≤ 60
      · have h60' : (n : Int) ≤ 60 := by omega
        go_wp2
        go_ret
        exact ⟨by rw [hr.out]; simp [h60], rfl⟩
      · have h60' : ¬ (n : Int) ≤ 60 := by omega
        go_wp2
        go_ret
        exact ⟨by rw [hr.out]; simp [h60], rfl⟩

set_option maxHeartbeats 4000000 in
theorem Of_any (a : ActP) (w : World) :
    Calls Tryz.prog 23 #[a.val] w fun e w' => e = .returned a.val ∧ Ext w w' := by
  rw [show a.val = .agg #[.string (B a.name), .string (B a.p), .string (B a.q), .int .i64 a.n, .int .i64 a.m] from rfl]
  go_enter Tryz.func23, Tryz.ntmps23
  go_wp2
  have hY := Blk.new (w.alloc (.cells #[.string (B a.name), .string (B a.p), .string (B a.q), .int .i64 a.n, .int .i64 a.m] 44)) 48 #[.string (B a.name), .string (B a.p), .string (B a.q), .int .i64 a.n, .int .i64 a.m]
  rw [World.size_alloc] at hY
  obtain ⟨⟨y0, _⟩, ⟨y1, _⟩, ⟨y2, _⟩, ⟨y3, _⟩, ⟨y4, _⟩⟩ := hY.five
  refine bodyPost_ret (v := .agg #[.string (B a.name), .string (B a.p), .string (B a.q), .int .i64 a.n, .int .i64 a.m]) (by simp [results, Tryz.f23, go_sem, y0, y1, y2, y3, y4]) rfl ?_
  exact ⟨rfl, (by repeat (first | exact Ext.refl _ | assumption | refine Ext.alloc ?_ _ | refine Ext.drew ?_ | refine Ext.drewN ?_ _ | refine Ext.setCell ?_ (by first | omega | (simp; done) | (simp; omega)) _ | refine Ext.trans ?_ (by assumption)))⟩

theorem small_fits {a : ActP} (h : smallA a = true) (hi : a.ints) : a.fits := by
  simp only [smallA, Bool.and_eq_true, decide_eq_true_eq] at h
  exact ⟨by omega, by omega, by omega, hi.n0, hi.n1, hi.m0, hi.m1⟩
end Go.Proofs.YtiomljaengonoaaGreatDoor
