/- script.Read: the acts of a text. -/
import Derived.Test.YtiomljaengonoaaGreatDoorActLine
import Derived.Test.YtiomljaengonoaaGreatDoorColl
import Derived.Test.YtiomljaengonoaaGreatDoorErrCode
import Derived.Test.YtiomljaengonoaaGreatDoorLaidT
import Derived.Lib.Split
import Derived.Lib.IndexBytes
import Derived.Deep.AppendLies
namespace Go.Proofs.YtiomljaengonoaaGreatDoor
open Go Go.RowKit Go.Shelf Go.Proofs Go.Maps

/-! ### A line in pieces -/

theorem splitK_segs (b : UInt8) (n : Nat) : ∀ (l : List UInt8), l.length ≤ n → Lib.splitK [b] 0 (Lib.count l [b]) l = segs b l := by
  induction n with
  | zero =>
    intro l h
    have : l = [] := List.eq_nil_of_length_eq_zero (by omega)
    subst this
    rw [Lib.count_miss (by rw [Lib.index_one]; rfl)]
    rfl
  | succ n ih =>
    intro l h
    obtain ⟨ix, hix⟩ : ∃ ix, Lib.indexByte l b = ix := ⟨_, rfl⟩
    have h1 : Lib.index l [b] = ix := by rw [Lib.index_one, hix]
    by_cases hneg : ix < 0
    · have hm : ix = -1 := by have := Lib.indexByte_ge l b; omega
      subst hm
      rw [Lib.count_miss h1, segs_index_none hix]
      rfl
    · obtain ⟨i, rfl⟩ := Int.eq_ofNat_of_zero_le (show 0 ≤ ix by omega)
      obtain ⟨h2, h3⟩ := segs_index_some hix
      have h4 : ¬ (Lib.index l [b] == -1) = true := fun e => by have := beq_iff_eq.1 e; omega
      rw [Lib.count_hit (by simp) h1, Nat.add_comm, Lib.splitK, if_neg h4, h1, h3]
      rw [show ((i : Int)).toNat = i from rfl, Nat.add_zero, List.length_singleton, ih (l.drop (i + 1)) (by rw [List.length_drop]; omega)]

/-- The variables that reading looks at. -/
structure ScrVars (w : World) : Prop where
  num : NumVars w
  max : ∃ m, w.cell? ⟨1, 0, none⟩ = some (.int .i64 m)
  laid : Laid w
theorem ScrVars.ext {w w' : World} (h : ScrVars w) (he : Ext w w') : ScrVars w' := by
  obtain ⟨h1, ⟨m, h2⟩, h3⟩ := h
  exact ⟨h1.ext he, ⟨m, he.cell h2⟩, Laid.ext h3 he⟩

def SplPost (x : List UInt8) (w : World) (e : Ending) (w' : World) : Prop := ∃ v, e = .returned v ∧ RdS w' v ((segs 32 x).map B) ∧ Ext w w'
theorem split_any (x : List UInt8) (hx : x.length ≤ 1000000) (w : World) (hV : ScrVars w) :
    Calls Tryz.prog 47 #[.string (B x), .string ⟨#[32]⟩] w (SplPost x w) := by
  obtain ⟨m, hm⟩ := hV.max
  refine (Tryz.strings_Split (B x) ⟨#[32]⟩ m w (by rw [size_B]; omega) hm (by decide)).mono ?_
  rintro e w' ⟨rfl, rfl⟩
  have hmap : (Lib.splitB ⟨#[32]⟩ 0 (Lib.countB (B x) ⟨#[32]⟩) (B x)).map (fun s : ByteArray => s.data.toList) = segs 32 x := by
    rw [Lib.splitB_data, Lib.countB, toList_B]
    exact splitK_segs 32 _ x (Nat.le_refl _)
  have hB : Lib.splitB ⟨#[32]⟩ 0 (Lib.countB (B x) ⟨#[32]⟩) (B x) = (segs 32 x).map B := by
    rw [← hmap, List.map_map]
    conv => lhs; rw [← List.map_id (Lib.splitB ⟨#[32]⟩ 0 (Lib.countB (B x) ⟨#[32]⟩) (B x))]
    exact List.map_congr_left fun s _ => (B_toList s).symm
  have hlen : Lib.countB (B x) ⟨#[32]⟩ + 1 = ((segs 32 x).map B).length := by
    have h1 := Lib.splitB_all ⟨#[32]⟩ (by decide) 0 _ (B x) rfl
    rw [← hB, h1]
  have hle : ((segs 32 x).map B).length ≤ 140737488355328 := by
    have := segs_count 32 x
    rw [List.length_map]
    omega
  rw [hB, hlen]
  refine ⟨_, rfl, RdS.of_own (base := w.heap.size) (e := 9) ?_ hle, (Ext.refl w).alloc _⟩
  exact ⟨by simp, .inr ⟨w.heap.size, _, _, rfl, Nat.le_refl _, heap_alloc_new w _, Nat.le_refl _, by unfold maxLen; omega, by simp, by rw [Nat.mul_one]; simp; exact List.take_of_length_le (by simp)⟩⟩

def CutPost (x : List UInt8) (w : World) (e : Ending) (w' : World) : Prop := e = .returned (.tuple #[.string (B (if x.getLast? = some 10 then x.dropLast else x)), .bool (decide (x.getLast? = some 10))]) ∧ w' = w
theorem cut_any (x : List UInt8) (hx : x.length ≤ 1000000) (w : World) :
    Calls Tryz.prog 45 #[.string (B x), .string ⟨#[10]⟩] w (CutPost x w) := by
  refine (Tryz.strings_CutSuffix (B x) ⟨#[10]⟩ w (by rw [size_B]; omega)).mono ?_
  rintro e w' ⟨rfl, rfl⟩
  refine ⟨?_, rfl⟩
  have e1 : (⟨#[10]⟩ : ByteArray).data.toList = [10] := rfl
  have e2 : Lib.hasSuffix x [10] = decide (x.getLast? = some 10) := by
    rw [Lib.hasSuffix, Bool.eq_iff_iff, List.isSuffixOf_iff_suffix, decide_eq_true_eq]
    constructor
    · rintro ⟨t, rfl⟩
      simp
    · intro h
      exact ⟨x.dropLast, (getLast_split h).symm⟩
  rw [e1, toList_B, Lib.trimSuffix, e2]
  by_cases h : x.getLast? = some 10
  · simp only [h, decide_true, if_true, List.length_singleton]
    rw [← List.dropLast_eq_take]
    rfl
  · simp only [h, decide_false, if_false, Bool.false_eq_true]
    rfl

/-! ### What is read is small -/

theorem ofGo_small : ∀ (w : List UInt8) (ps : List (List UInt8)) (a b : ActP), ofGo w ps a = some b → a.fits → a.name.length ≤ 64 → b.fits ∧ b.name = a.name
  | [], _, a, b, h, hf, _ => by
    simp only [ofGo, Option.some.injEq] at h
    subst h
    exact ⟨hf, rfl⟩
  | c :: cs, [], a, b, h, _, _ => by simp [ofGo] at h
  | c :: cs, s :: ss, a, b, h, hf, hn => by
    have word : wordP s = true → s.length ≤ 35184372088831 := fun hv => by
      simp only [wordP, Bool.and_eq_true, decide_eq_true_eq] at hv
      omega
    simp only [ofGo] at h
    split at h
    · split at h
      · rename_i hw
        exact ofGo_small cs ss { a with p := s } b h ⟨hf.nm, word hw, hf.q, hf.n0, hf.n1, hf.m0, hf.m1⟩ hn
      · cases h
    · split at h
      · split at h
        · rename_i hw
          exact ofGo_small cs ss { a with q := s } b h ⟨hf.nm, hf.p, word hw, hf.n0, hf.n1, hf.m0, hf.m1⟩ hn
        · cases h
      · split at h
        · cases h
        · rename_i v hv
          obtain ⟨h0, h1, _⟩ := numP_some hv
          split at h
          · exact ofGo_small cs ss { a with n := v } b h ⟨hf.nm, hf.p, hf.q, by show _ ≤ v; omega, by show v ≤ _; omega, hf.m0, hf.m1⟩ hn
          · exact ofGo_small cs ss { a with m := v } b h ⟨hf.nm, hf.p, hf.q, hf.n0, hf.n1, by show _ ≤ v; omega, by show v ≤ _; omega⟩ hn

theorem ofP_fits {ps : List (List UInt8)} {a : ActP} (h : ofP ps = some a) : a.fits := by
  rcases ps with _ | ⟨nm, ps⟩
  · simp [ofP] at h
  obtain ⟨w, hw, _, hg⟩ := ofP_some h
  have := (needs_plain hw).1
  exact (ofGo_small w ps _ a hg ⟨by show nm.length ≤ _; omega, by simp, by simp, by simp, by simp, by simp, by simp⟩ (by show nm.length ≤ 64; omega)).1

theorem act_fits {x : List UInt8} {a : ActP} (h : actP x = some a) : a.fits := by
  unfold actP at h
  split at h
  · exact ofP_fits h
  · cases h

/-! ### Acts in memory -/

def RA (_ : World) (a : ActP) (cs : List Value) : Prop := cs = a.cells ∧ a.fits
abbrev RdA := Rd RA 5
theorem RdA.ext {w w' : World} {v : Value} {l : List ActP} (h : RdA w v l) (he : Ext w w') : RdA w' v l := Rd.ext (fun _ _ _ _ _ h => h) h he

/-! ### Read -/

def ReadAns (s : ByteArray) (w : World) (e : Ending) (w' : World) : Prop := match actsGo 0 (linesP s.data.toList) with
  | .ok l => ∃ v, e = .returned (.tuple #[v, .int .i64 0, .nilIface]) ∧ RdA w' v l ∧ Ext w w'
  | .error n => ∃ a, e = .returned (.tuple #[.slice none 0 0, .int .i64 n, .iface 131 (.pointer (some ⟨a, 0, none⟩))]) ∧ ErrN w' 1 (.iface 131 (.pointer (some ⟨a, 0, none⟩))) 13 ∧ Ext w w'

theorem info_act : (Tryz.prog.info? 48).map (fun i => (i.zero, i.size, i.bytes)) = some (some (.agg #[.string ⟨#[]⟩, .string ⟨#[]⟩, .string ⟨#[]⟩, .int .i64 0, .int .i64 0]), 5, 64) := by kernel_rfl

theorem acts_cells (l : List ActP) (j : Nat) (a : ActP) (h : l[j]? = some a) : ∀ (i : Nat) u, a.cells[i]? = some u → (l.flatMap ActP.cells)[j * 5 + i]? = some u := by
  induction l generalizing j with
  | nil => simp at h
  | cons y r ih =>
    intro i u hi
    have hi5 : i < 5 := (List.getElem?_eq_some_iff.1 hi).1
    rcases j with _ | j
    · cases (Option.some.inj h)
      rw [List.flatMap_cons, List.getElem?_append_left (by simp [ActP.cells]; omega), Nat.zero_mul, Nat.zero_add]
      exact hi
    · rw [List.flatMap_cons, List.getElem?_append_right (by simp [ActP.cells]; omega)]
      have e : (j + 1) * 5 + i - y.cells.length = j * 5 + i := by simp [ActP.cells]; omega
      rw [e]
      exact ih j h i u hi
theorem RdA.of_own {w : World} {base e : Nat} {v : Value} {l : List ActP} (h : w.ownsRow base e 5 v l.length (l.flatMap ActP.cells)) (hl : l.length ≤ 140737488355328) (hf : ∀ a ∈ l, a.fits) : RdA w v l :=
  Rd.of_own h hl fun j a hj => ⟨a.cells, ⟨rfl, hf a (List.mem_of_getElem? hj)⟩, acts_cells l j a hj⟩

/-- What is left to read. -/
def Rest (xs : List (List UInt8)) (k : Nat) (l : List ActP) : Prop := actsGo 0 xs = match actsGo k (xs.drop k) with | .error n => .error n | .ok r => .ok (l ++ r)

theorem rest_err {xs ys : List (List UInt8)} {k : Nat} {l : List ActP} {x : List UInt8} (h : Rest xs k l) (hd : xs.drop k = x :: ys) (hx : actP x = none ∨ k = 200) : actsGo 0 xs = .error (k + 1) := by
  rw [Rest, hd] at h
  rw [h]
  rcases hx with hx | hx
  · simp only [actsGo, hx]
  · cases hy : actP x with
    | none => simp only [actsGo, hy]
    | some a => simp only [actsGo, hy, if_pos hx]
theorem rest_ok {xs ys : List (List UInt8)} {k : Nat} {l : List ActP} {x : List UInt8} {a : ActP} (h : Rest xs k l) (hd : xs.drop k = x :: ys) (hx : actP x = some a) (hk : k ≠ 200) (hd2 : xs.drop (k + 1) = ys) : Rest xs (k + 1) (l ++ [a]) := by
  rw [Rest, hd] at h
  rw [Rest, h, hd2]
  simp only [actsGo, hx, if_neg hk]
  rcases actsGo (k + 1) ys with _ | _ <;> simp
theorem CutPost_eq (x : List UInt8) (w : World) : CutPost x w = fun e w' => e = .returned (.tuple #[.string (B (if x.getLast? = some 10 then x.dropLast else x)), .bool (decide (x.getLast? = some 10))]) ∧ w' = w := rfl

set_option maxRecDepth 100000 in
set_option maxHeartbeats 8000000 in
theorem Read_any (s : ByteArray) (hs : s.size ≤ 20000) (w : World) (hV : ScrVars w) :
    Calls Tryz.prog 25 #[.string s] w (ReadAns s w) := by
  have hs' : ¬ (20000 : Int) < (s.size : Int) := by omega
  have HV := Lib.hid hV
  have HC := fun w' h => collect_lines s w.heap.size w' (by omega) h
  clear hV
  go_enter Tryz.func25, Tryz.ntmps25
  go_wp2_with (first
    | (go_at_call 44; refine (Lines_any s _).mono ?_; rintro e W1 ⟨rfl, rfl⟩)
    | (go_at_call 43; refine (HC _ (Blk.new w 9 #[.string s])).mono ?_; rintro e W2 ⟨v2, rfl, hR2, hB2⟩; obtain ⟨A2, c2, rfl, hlc2, hcm2, hlm2, hcell2⟩ := id hR2))
  have hE2 : Ext w W2 := hB2.old ((Ext.refl w).alloc _) (fun k hk => by rw [hk]; exact Nat.le_refl _)
  obtain ⟨n, hn⟩ : ∃ n, (linesB s).length = n := ⟨_, rfl⟩
  have hn2 : n ≤ 20000 := by
    have h3 := lines_len s.data.toList
    have h4 : s.data.toList.length = s.size := Array.length_toList
    rw [← hn, linesB, List.length_map]
    omega
  have Hn := Lib.hid hn
  have HR2 := Lib.hid hR2
  rw [hn] at hlc2 ⊢
  clear hR2 hB2 hcell2 hlm2 hn
  go_loopw [5, 21] (fun out i wr => ∃ (k : Nat) (l : List ActP), i = .int .i64 k ∧ k ≤ n ∧ l.length = k ∧ Ext W2 wr ∧ wr.ownsRow W2.heap.size 48 5 out k (l.flatMap ActP.cells) ∧ k ≤ 200 ∧ Hid ((∀ a ∈ l, a.fits) ∧ Rest (linesP s.data.toList) k l)) (fun _ i _ => n - (intOf i).toNat)
  case atStart => exact ⟨0, [], rfl, Nat.zero_le _, rfl, Ext.refl _, World.ownsRow_nil _ _ _ _, by omega, Lib.hid ⟨fun a h => (by cases h), by rw [Rest, List.drop_zero]; rcases actsGo 0 (linesP s.data.toList) with _ | _ <;> rfl⟩⟩
  case round =>
    obtain ⟨k, l, rfl, hkn, hlk, hE, hrow, hk200, hgo⟩ := hrel
    by_cases hlt : k < n
    · have hlt' : (k : Int) < (n : Int) := by omega
      have hkl : k < (linesP s.data.toList).length := by have := Hn.out; rw [linesB, List.length_map] at this; omega
      obtain ⟨x, hx⟩ : ∃ x, (linesP s.data.toList)[k] = x := ⟨_, rfl⟩
      have hdrop : (linesP s.data.toList).drop k = x :: (linesP s.data.toList).drop (k + 1) := by rw [List.drop_eq_getElem_cons hkl, hx]
      have hxs : x.length ≤ 1000000 := by
        have h1 := lines_mem _ x (by rw [← hx]; exact List.getElem_mem hkl)
        have h4 : s.data.toList.length = s.size := Array.length_toList
        omega
      obtain ⟨b, o, c', e2, _, _, hcell⟩ := RdS.open_ HR2.out (by intro e; have := Hn.out; rw [e] at this; simp at this; omega)
      have hcx := hE.cell (hcell k (B x) (by rw [linesB, List.getElem?_map, List.getElem?_eq_getElem hkl, hx]; rfl))
      cases e2
      clear hcell hx hkl
      have Hrow := Lib.hid hrow
      clear hrow
      have hV := HV.out.ext (hE2.trans hE)
      have hk64 : (k : Int) ≤ 20000 := by omega
      have HCut := cut_any x hxs wr
      by_cases hend : x.getLast? = some 10
      · have HCut : Calls Tryz.prog 45 #[.string (B x), .string ⟨#[10]⟩] wr fun e w' => e = .returned (.tuple #[.string (B x.dropLast), .bool true]) ∧ w' = wr := by
          rw [CutPost_eq, if_pos hend, decide_eq_true hend] at HCut
          exact HCut
        have HS := fun w' h => split_any x.dropLast (by rw [List.length_dropLast]; omega) w' (hV.ext h)
        have HO := fun v w' h h' => of_any v (segs 32 x.dropLast) w' h (segs_ne _ _) (fun p hp => by have := segs_len 32 _ p hp; rw [List.length_dropLast] at this; omega) (hV.ext h').num
        have hact : actP x = ofP (segs 32 x.dropLast) := by rw [actP, if_pos hend]
        cases hof : ofP (segs 32 x.dropLast) with
        | none =>
          rw [hof] at HO
          have HO : ∀ v w', RdS w' v ((segs 32 x.dropLast).map B) → Ext wr w' → Calls Tryz.prog 46 #[v] w' fun e w'' => e = .returned (.tuple #[.agg #[.string ⟨#[]⟩, .string ⟨#[]⟩, .string ⟨#[]⟩, .int .i64 0, .int .i64 0], .bool false]) ∧ Ext w' w'' := HO
          have hnone : actP x = none := by rw [hact, hof]
          clear hact hof hend hV
          have herr : Hid (actsGo 0 (linesP s.data.toList) = .error (k + 1)) := Lib.hid (rest_err hgo.out.2 hdrop (.inl hnone))
          clear hgo hdrop
          go_wp2_with (first
            | (go_at_call 45; refine HCut.mono ?_; rintro e W4 ⟨rfl, rfl⟩)
            | (go_at_call 47; refine (HS _ (Ext.refl _)).mono ?_; rintro e W5 ⟨v5, rfl, hR5, hE5⟩)
            | (go_at_call 46; refine (HO _ _ hR5 hE5).mono ?_; rintro e W6 ⟨rfl, hE6⟩)
            | (go_at_call 37; refine (fail_At_c _ _ _ _).mono ?_; rintro e W9 ⟨⟨a9, rfl, hEr⟩, hE9⟩))
          refine bodyPost_ret (v := .tuple #[.slice none 0 0, .int .i64 ((k : Int) + 1), .iface 131 (.pointer (some ⟨a9, 0, none⟩))]) (by simp [results, Tryz.f25, go_sem]) rfl ?_
          rw [ReadAns, herr.out]
          exact ⟨_, rfl, hEr, (hE2.trans hE).trans ((hE5.trans hE6).trans (Ext.trans (by exact (by repeat (first | exact Ext.refl _ | assumption | refine Ext.alloc ?_ _ | refine Ext.drew ?_ | refine Ext.drewN ?_ _ | refine Ext.setCell ?_ (by first | omega | (simp; done) | (simp; omega)) _ | refine Ext.trans ?_ (by assumption)))) hE9))⟩
        | some a =>
          rw [hof] at HO
          have HO : ∀ v w', RdS w' v ((segs 32 x.dropLast).map B) → Ext wr w' → Calls Tryz.prog 46 #[v] w' fun e w'' => e = .returned (.tuple #[.agg #[.string (B a.name), .string (B a.p), .string (B a.q), .int .i64 a.n, .int .i64 a.m], .bool true]) ∧ Ext w' w'' := HO
          have hsome : actP x = some a := by rw [hact, hof]
          have Ha := Lib.hid (ofP_fits hof)
          clear hact hof hend hV
          by_cases h200 : k = 200
          · subst h200
            have herr : Hid (actsGo 0 (linesP s.data.toList) = .error (200 + 1)) := Lib.hid (rest_err hgo.out.2 hdrop (.inr rfl))
            clear hgo hdrop
            go_wp2_with (first
              | (go_at_call 45; refine HCut.mono ?_; rintro e W4 ⟨rfl, rfl⟩)
              | (go_at_call 47; refine (HS _ (Ext.refl _)).mono ?_; rintro e W5 ⟨v5, rfl, hR5, hE5⟩)
              | (go_at_call 46; refine (HO _ _ hR5 hE5).mono ?_; rintro e W6 ⟨rfl, hE6⟩)
              | (go_at_call 37; refine (fail_At_c _ _ _ _).mono ?_; rintro e W9 ⟨⟨a9, rfl, hEr⟩, hE9⟩))
            refine bodyPost_ret (v := .tuple #[.slice none 0 0, .int .i64 201, .iface 131 (.pointer (some ⟨a9, 0, none⟩))]) (by simp [results, Tryz.f25, go_sem]) rfl ?_
            rw [ReadAns, herr.out]
            exact ⟨_, rfl, hEr, (hE2.trans hE).trans ((hE5.trans hE6).trans (Ext.trans (by exact (by repeat (first | exact Ext.refl _ | assumption | refine Ext.alloc ?_ _ | refine Ext.drew ?_ | refine Ext.drewN ?_ _ | refine Ext.setCell ?_ (by first | omega | (simp; done) | (simp; omega)) _ | refine Ext.trans ?_ (by assumption)))) hE9))⟩
          · have h200' : ¬ (k : Int) = 200 := by omega
            have hok := Lib.hid (rest_ok hgo.out.2 hdrop hsome h200 rfl)
            have Hf := Lib.hid hgo.out.1
            obtain ⟨i0, hi, hz0, hz1, hz2⟩ := info_parts info_act
            clear hgo hdrop hsome
            go_upto_region 11 with (first
              | (go_at_call 45; refine HCut.mono ?_; rintro e W4 ⟨rfl, rfl⟩)
              | (go_at_call 47; refine (HS _ (Ext.refl _)).mono ?_; rintro e W5 ⟨v5, rfl, hR5, hE5⟩)
              | (go_at_call 46; refine (HO _ _ hR5 hE5).mono ?_; rintro e W6 ⟨rfl, hE6⟩))
            have hY := Blk.new W6 48 #[.string (B a.name), .string (B a.p), .string (B a.q), .int .i64 a.n, .int .i64 a.m]
            have hE7 := (hE5.trans hE6).alloc (.cells #[.string (B a.name), .string (B a.p), .string (B a.q), .int .i64 a.n, .int .i64 a.m] 48)
            obtain ⟨yb, hyb⟩ : ∃ yb, W6.heap.size = yb := ⟨_, rfl⟩
            rw [hyb] at hY ⊢
            clear hyb
            generalize W6.alloc (.cells #[.string (B a.name), .string (B a.p), .string (B a.q), .int .i64 a.n, .int .i64 a.m] 48) = W7 at hE7 hY ⊢
            obtain ⟨⟨y0, _⟩, ⟨y1, _⟩, ⟨y2, _⟩, ⟨y3, _⟩, ⟨y4, _⟩⟩ := hY.five
            have hrow7 := own_ext Hrow.out hE7
            have hsz7 : W2.heap.size ≤ W7.heap.size := Nat.le_trans hE.size hE7.size
            go_wp2_with (at_builtin; refine wpList_append_own _ rfl _ _ 53 rfl W2.heap.size 48 i0 (.agg #[.string ⟨#[]⟩, .string ⟨#[]⟩, .string ⟨#[]⟩, .int .i64 0, .int .i64 0]) 5 64 Tryz.underlying53 hi hz0 hz1 hz2 rfl (by decide) _ _ _ rfl (hrow7.alloc _) ⟨W7.heap.size, 0, none⟩ 1 1 a.cells rfl rfl (World.news_of_block (cs := #[.string (B a.name), .string (B a.p), .string (B a.q), .int .i64 a.n, .int .i64 a.m]) (t := 48) (fr := (0, 0)) (heap_alloc_new W7 _)) (by simp [ActP.cells, Value.oneCell']) (by unfold maxLen; omega) (by omega) (by simp; omega) ?_; intro v' w1 hown hgrow hnil')
            refine ⟨⟨k + 1, l ++ [a], by go_num, by omega, by simp [hlk], ?_, ?_, by omega, ?_⟩, by simp [intOf]; omega⟩
            · exact Ext.grown ((hE.trans hE7).alloc _) hgrow (fun j hj => (hrow7.lt j hj).1)
            · rw [List.flatMap_append, List.flatMap_cons, List.flatMap_nil, List.append_nil]
              exact hown
            · exact Lib.hid ⟨fun y hy => by
                rcases List.mem_append.1 hy with hy | hy
                · exact Hf.out y hy
                · rw [List.mem_singleton.1 hy]; exact Ha.out, hok.out⟩
      · have HCut : Calls Tryz.prog 45 #[.string (B x), .string ⟨#[10]⟩] wr fun e w' => e = .returned (.tuple #[.string (B x), .bool false]) ∧ w' = wr := by
          rw [CutPost_eq, if_neg hend, decide_eq_false hend] at HCut
          exact HCut
        have HS := fun w' h => split_any x hxs w' (hV.ext h)
        have HO := fun v w' h h' => of_any v (segs 32 x) w' h (segs_ne _ _) (fun p hp => by have := segs_len 32 _ p hp; omega) (hV.ext h').num
        have hnone : actP x = none := by rw [actP, if_neg hend]
        cases hof : ofP (segs 32 x) with
        | none =>
          rw [hof] at HO
          have HO : ∀ v w', RdS w' v ((segs 32 x).map B) → Ext wr w' → Calls Tryz.prog 46 #[v] w' fun e w'' => e = .returned (.tuple #[.agg #[.string ⟨#[]⟩, .string ⟨#[]⟩, .string ⟨#[]⟩, .int .i64 0, .int .i64 0], .bool false]) ∧ Ext w' w'' := HO
          clear hof hend hV
          have herr : Hid (actsGo 0 (linesP s.data.toList) = .error (k + 1)) := Lib.hid (rest_err hgo.out.2 hdrop (.inl hnone))
          clear hgo hdrop
          go_wp2_with (first
            | (go_at_call 45; refine HCut.mono ?_; rintro e W4 ⟨rfl, rfl⟩)
            | (go_at_call 47; refine (HS _ (Ext.refl _)).mono ?_; rintro e W5 ⟨v5, rfl, hR5, hE5⟩)
            | (go_at_call 46; refine (HO _ _ hR5 hE5).mono ?_; rintro e W6 ⟨rfl, hE6⟩)
            | (go_at_call 37; refine (fail_At_c _ _ _ _).mono ?_; rintro e W9 ⟨⟨a9, rfl, hEr⟩, hE9⟩))
          refine bodyPost_ret (v := .tuple #[.slice none 0 0, .int .i64 ((k : Int) + 1), .iface 131 (.pointer (some ⟨a9, 0, none⟩))]) (by simp [results, Tryz.f25, go_sem]) rfl ?_
          rw [ReadAns, herr.out]
          exact ⟨_, rfl, hEr, (hE2.trans hE).trans ((hE5.trans hE6).trans (Ext.trans (by exact (by repeat (first | exact Ext.refl _ | assumption | refine Ext.alloc ?_ _ | refine Ext.drew ?_ | refine Ext.drewN ?_ _ | refine Ext.setCell ?_ (by first | omega | (simp; done) | (simp; omega)) _ | refine Ext.trans ?_ (by assumption)))) hE9))⟩
        | some a =>
          rw [hof] at HO
          have HO : ∀ v w', RdS w' v ((segs 32 x).map B) → Ext wr w' → Calls Tryz.prog 46 #[v] w' fun e w'' => e = .returned (.tuple #[.agg #[.string (B a.name), .string (B a.p), .string (B a.q), .int .i64 a.n, .int .i64 a.m], .bool true]) ∧ Ext w' w'' := HO
          clear hof hend hV
          have herr : Hid (actsGo 0 (linesP s.data.toList) = .error (k + 1)) := Lib.hid (rest_err hgo.out.2 hdrop (.inl hnone))
          clear hgo hdrop
          go_wp2_with (first
            | (go_at_call 45; refine HCut.mono ?_; rintro e W4 ⟨rfl, rfl⟩)
            | (go_at_call 47; refine (HS _ (Ext.refl _)).mono ?_; rintro e W5 ⟨v5, rfl, hR5, hE5⟩)
            | (go_at_call 46; refine (HO _ _ hR5 hE5).mono ?_; rintro e W6 ⟨rfl, hE6⟩)
            | (go_at_call 37; refine (fail_At_c _ _ _ _).mono ?_; rintro e W9 ⟨⟨a9, rfl, hEr⟩, hE9⟩))
          refine bodyPost_ret (v := .tuple #[.slice none 0 0, .int .i64 ((k : Int) + 1), .iface 131 (.pointer (some ⟨a9, 0, none⟩))]) (by simp [results, Tryz.f25, go_sem]) rfl ?_
          rw [ReadAns, herr.out]
          exact ⟨_, rfl, hEr, (hE2.trans hE).trans ((hE5.trans hE6).trans (Ext.trans (by exact (by repeat (first | exact Ext.refl _ | assumption | refine Ext.alloc ?_ _ | refine Ext.drew ?_ | refine Ext.drewN ?_ _ | refine Ext.setCell ?_ (by first | omega | (simp; done) | (simp; omega)) _ | refine Ext.trans ?_ (by assumption)))) hE9))⟩
    · have hlt' : ¬ (k : Int) < (n : Int) := by omega
      have Hrow := Lib.hid hrow
      clear hrow
      obtain ⟨Ao, co, rfl⟩ := own_form Hrow.out
      go_wp2
      refine bodyPost_ret (v := .tuple #[.slice Ao k co, .int .i64 0, .nilIface]) (by simp [results, Tryz.f25, go_sem]) rfl ?_
      have hx : actsGo 0 (linesP s.data.toList) = .ok l := by
        have h := hgo.out.2
        rw [Rest, List.drop_of_length_le (by have := Hn.out; rw [linesB, List.length_map] at this; omega)] at h
        rw [h, actsGo]
        simp
      rw [ReadAns, hx]
      refine ⟨_, rfl, RdA.of_own (by rw [hlk]; exact Hrow.out) (by omega) hgo.out.1, hE2.trans hE⟩
end Go.Proofs.YtiomljaengonoaaGreatDoor
