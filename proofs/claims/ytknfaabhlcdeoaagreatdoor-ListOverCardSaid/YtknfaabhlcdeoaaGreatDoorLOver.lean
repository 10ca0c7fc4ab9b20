/- shalelaw13.ListOver is true: for every stack and every text. -/
import Derived.Test.YtknfaabhlcdeoaaGreatDoorRLayer
import Derived.Test.YtknfaabhlcdeoaaGreatDoorStkApp
namespace Go.Proofs.YtknfaabhlcdeoaaGreatDoor
open Go Go.RowKit Go.Shelf Go.Proofs

/-- The entry of the layer that is laid over. -/
def newE (name : ByteArray) : Ent := ⟨⟨#[47]⟩ ++ name, 2, ⟨#[]⟩⟩

theorem newE_path {name : ByteArray} (_h : nameB name = true) : (newE name).path = pathOf [name] := by
  show (⟨#[47]⟩ : ByteArray) ++ name = _
  rw [pathOf, if_neg (by simp), List.map_singleton, Lib.join_one]
  apply ByteArray.ext
  simp [B]

theorem newE_ok {name : ByteArray} (h : nameB name = true) : layerOk [newE name] = true := by
  have hv : ValN [name] := ⟨by simpa using h, by simp⟩
  have hn : names (newE name).path = some ([] ++ [name]) := by rw [newE_path h]; exact hv.names
  refine layerOk_iff.2 ⟨by simp, by simp [Rising], fun x hx => ?_⟩
  rw [List.mem_singleton] at hx
  subst hx
  refine ⟨?_, .inl ?_⟩
  · rw [entOk, deep, hn]
    simp [newE]
  · exact names_dir hn

theorem over_names {s : List (List Ent)} {name : ByteArray} (hst : stackOk s = true) (h8 : s.length ≤ 8) (hn : nameB name = true) :
    stackOk (s ++ [[newE name]]) = true ∧ ∀ z, z ∈ inT (foldT (s ++ [[newE name]])) ⟨#[47]⟩ ↔ z = name ∨ z ∈ inT (foldT s) ⟨#[47]⟩ := by
  obtain ⟨h9, hl⟩ := stackOk_layers hst
  have hst2 : stackOk (s ++ [[newE name]]) = true := by
    rw [stackOk, Bool.and_eq_true, decide_eq_true_eq, List.all_append, Bool.and_eq_true]
    refine ⟨by rw [List.length_append, List.length_singleton]; omega, List.all_eq_true.2 hl, ?_⟩
    simp [newE_ok hn]
  refine ⟨hst2, fun z => ?_⟩
  obtain ⟨t1, _, f1⟩ := fold_show hst
  obtain ⟨t2, _, f2⟩ := fold_show hst2
  have hroot : names ⟨#[47]⟩ = some [] := names_root
  have hch : ∀ y, childP ⟨#[47]⟩ y = pathOf [y] := fun y => child_path (xs := []) rfl (by simp) y
  have key : ∀ z, nameB z = true → (z ∈ inT (foldT (s ++ [[newE name]])) ⟨#[47]⟩ ↔ z = name ∨ z ∈ inT (foldT s) ⟨#[47]⟩) := fun z hz => by
    rw [inT_mem t2 hroot hz, inT_mem t1 hroot hz, f1, f2, showL_snoc, hch]
    have hvz : ValN [z] := ⟨by simpa using hz, by simp⟩
    have hvn : ValN [name] := ⟨by simpa using hn, by simp⟩
    by_cases e : z = name
    · subst e
      have hf : findT [newE z] (pathOf [z]) = some (newE z) := by rw [← newE_path hz]; simp [findT]
      rw [stepL_some hf]
      simp [resE, newE]
    · have hf : findT [newE name] (pathOf [z]) = none := findT_not fun y hy e2 => by
        rw [List.mem_singleton] at hy
        subst hy
        rw [newE_path hn] at e2
        have := hvn.inj hvz e2
        simp at this
        exact e this.symm
      rw [stepL_none hf, if_neg (by simp [cutL, newE])]
      simp [e]
  have hmn : ∀ (t : List Ent) z, z ∈ inT t ⟨#[47]⟩ → nameB z = true := fun t z hz => by
    rw [inT, List.mem_filterMap] at hz
    obtain ⟨x, _, h⟩ := hz
    exact (inP_child h).2
  constructor
  · intro hz
    exact (key z (hmn _ z hz)).1 hz
  · intro h
    have hz : nameB z = true := h.elim (fun e => by rw [e]; exact hn) fun h => hmn _ z h
    exact (key z hz).2 h

/-! ### The loop -/

def memB (la : List ByteArray) (z : ByteArray) : Bool := la.any fun y => decide (y = z)
theorem memB_iff {la : List ByteArray} {z : ByteArray} : memB la z = true ↔ z ∈ la := by
  rw [memB, List.any_eq_true]
  exact ⟨fun ⟨y, h1, h2⟩ => by rw [decide_eq_true_eq] at h2; rw [← h2]; exact h1, fun h => ⟨z, h, by simp⟩⟩

def ovF (la lb : List ByteArray) (i : Nat) : List ByteArray := (lb.take i).filter fun z => memB la z

theorem ov_full {la lb : List ByteArray} {name : ByteArray} (ha : la.Pairwise fun a b => lt a b = true) (hb : lb.Pairwise fun a b => lt a b = true) (h : ∀ z, z ∈ lb ↔ z = name ∨ z ∈ la) : (lb.filter fun z => memB la z) = la := by
  refine str_ext (List.Pairwise.filter _ hb) ha fun z => ?_
  rw [List.mem_filter, h, memB_iff]
  exact ⟨fun h => h.2, fun h => ⟨.inr h, h⟩⟩

theorem ov_step {la lb : List ByteArray} {i : Nat} (hh : i < lb.length) : ovF la lb (i + 1) = ovF la lb i ++ (if memB la lb[i] = true then [lb[i]] else []) := by
  rw [ovF, ← List.take_append_getElem hh, List.filter_append, ← ovF]
  congr 1
  by_cases h : memB la lb[i] = true <;> simp [h]

theorem ov_prefix {la lb : List ByteArray} {name : ByteArray} (ha : la.Pairwise fun a b => lt a b = true) (hb : lb.Pairwise fun a b => lt a b = true) (h : ∀ z, z ∈ lb ↔ z = name ∨ z ∈ la) (i : Nat) : ∃ rest, la = ovF la lb i ++ rest := by
  refine ⟨(lb.drop i).filter fun z => memB la z, ?_⟩
  rw [ovF, ← List.filter_append, List.take_append_drop, ov_full ha hb h]

theorem ov_hit {la lb : List ByteArray} {name : ByteArray} (ha : la.Pairwise fun a b => lt a b = true) (hb : lb.Pairwise fun a b => lt a b = true) (h : ∀ z, z ∈ lb ↔ z = name ∨ z ∈ la) {i : Nat} (hh : i < lb.length) (hm : lb[i] ∈ la) :
    la[(ovF la lb i).length]? = some lb[i] := by
  obtain ⟨rest, hr⟩ := ov_prefix ha hb h (i + 1)
  rw [ov_step hh, if_pos (memB_iff.2 hm), List.append_assoc] at hr
  have h2 := congrArg (fun l : List ByteArray => l[(ovF la lb i).length]?) hr
  rw [h2]
  simp

def OvRel (la lb : List ByteArray) (name : ByteArray) (na nb : Nat) (w : World) (v9 v10 v11 : Value) (wr : World) : Prop :=
  ∃ (i k : Nat) (b : Bool), v11 = .int .i64 i ∧ v9 = .int .i64 k ∧ v10 = .bool b ∧ i ≤ nb ∧ k ≤ na ∧ Hid (k = (ovF la lb i).length) ∧ Hid (b = (lb.take i).any fun y => decide (y = name)) ∧ Ext w wr

theorem ov_next {la lb : List ByteArray} {name : ByteArray} {na nb i k' : Nat} {b b' : Bool} {w W : World} (hlt : i < nb) (hh : i < lb.length) (hk' : k' ≤ na) (hk : k' = (ovF la lb (i + 1)).length) (hb : Hid (b = (lb.take i).any fun y => decide (y = name))) (hb' : b' = (b || decide (lb[i] = name))) (hE : Ext w W) :
    OvRel la lb name na nb w (.int .i64 (k' : Int)) (.bool b') (.int .i64 ((i : Int) + 1)) W ∧ nb - (intOf (.int .i64 ((i : Int) + 1))).toNat < nb - (intOf (.int .i64 (i : Int))).toNat := by
  refine ⟨⟨i + 1, k', b', by simp, rfl, rfl, by omega, hk', Lib.hid hk, Lib.hid ?_, hE⟩, by simp [intOf]; omega⟩
  rw [hb', hb.out, ← List.take_append_getElem hh, List.any_append]
  simp

set_option maxHeartbeats 8000000 in
set_option maxRecDepth 20000 in
theorem over_let (v : Value) (s : List (List Ent)) (name : ByteArray) (w : World) (hv : RdK w v s) (hz : name.size ≤ 140737488355328) (h : ¬ (fewOk s = true ∧ name.size ≤ 20 ∧ s.length ≤ 8 ∧ nameB name = true ∧ stackOk s = true)) :
    Calls Tryz.prog 3 #[v, .string name] w fun e w' => e = .returned (.bool true) ∧ Ext w w' := by
  have HA := fun w' => LAwake_any w'
  have HM : ∀ W, Calls Tryz.prog 16 #[.string name] W fun e w' => e = .returned (.bool (nameB name)) ∧ Ext W w' := fun W => Name_any name W hz
  have HR := fun W h => RStack_any v s W h
  have Hv := Lib.hid hv
  obtain ⟨n, hn⟩ : ∃ n, n = s.length := ⟨_, rfl⟩
  rcases hf : fewOk s with _ | _
  · have HF := fun w' h => few_no (v := v) hf w' h
    obtain ⟨A, c, rfl, _, _, _⟩ := RdK.form hv hn
    clear hv hf h hn
    go_enter Tryz.func3, Tryz.ntmps3
    go_wp2_with (first | (go_at_call 15; refine (HF _ (Hv.out.ext (by exact (by repeat (first | exact Ext.refl _ | assumption | refine Ext.alloc ?_ _ | refine Ext.drew ?_ | refine Ext.drewN ?_ _ | refine Ext.setCell ?_ (by first | omega | (simp; done) | (simp; omega)) _ | refine Ext.trans ?_ (by assumption)))))).mono ?_; rintro e W1 ⟨rfl, hE1⟩) | (go_at_call 14; ((with_reducible refine (HA _).mono ?_)); rintro e W2 ⟨rfl, hE2⟩) | (go_at_call 16; refine (HM _).mono ?_; rintro e W3 ⟨rfl, hE3⟩) | (go_at_call 17; refine (HR _ (Hv.out.ext (by exact (by repeat (first | exact Ext.refl _ | assumption | refine Ext.alloc ?_ _ | refine Ext.drew ?_ | refine Ext.drewN ?_ _ | refine Ext.setCell ?_ (by first | omega | (simp; done) | (simp; omega)) _ | refine Ext.trans ?_ (by assumption)))))).mono ?_; rintro e W4 ⟨rfl, hE4⟩))
    go_ret
    exact ⟨rfl, by exact (by repeat (first | exact Ext.refl _ | assumption | refine Ext.alloc ?_ _ | refine Ext.drew ?_ | refine Ext.drewN ?_ _ | refine Ext.setCell ?_ (by first | omega | (simp; done) | (simp; omega)) _ | refine Ext.trans ?_ (by assumption)))⟩
  · have HF := fun w' h => few_yes (v := v) hf w' h
    rw [hf, ← hn] at h
    obtain ⟨A, c, rfl, _, _, _⟩ := RdK.form hv hn
    by_cases h20 : name.size ≤ 20
    · have h20' : ¬ (20 : Int) < (name.size : Int) := by omega
      by_cases h8 : n ≤ 8
      · have h8' : ¬ (8 : Int) < (n : Int) := by omega
        rcases hm : nameB name with _ | _
        · rw [hm] at HM
          clear hv hf h hn hm
          go_enter Tryz.func3, Tryz.ntmps3
          go_wp2_with (first | (go_at_call 15; refine (HF _ (Hv.out.ext (by exact (by repeat (first | exact Ext.refl _ | assumption | refine Ext.alloc ?_ _ | refine Ext.drew ?_ | refine Ext.drewN ?_ _ | refine Ext.setCell ?_ (by first | omega | (simp; done) | (simp; omega)) _ | refine Ext.trans ?_ (by assumption)))))).mono ?_; rintro e W1 ⟨rfl, hE1⟩) | (go_at_call 14; ((with_reducible refine (HA _).mono ?_)); rintro e W2 ⟨rfl, hE2⟩) | (go_at_call 16; refine (HM _).mono ?_; rintro e W3 ⟨rfl, hE3⟩) | (go_at_call 17; refine (HR _ (Hv.out.ext (by exact (by repeat (first | exact Ext.refl _ | assumption | refine Ext.alloc ?_ _ | refine Ext.drew ?_ | refine Ext.drewN ?_ _ | refine Ext.setCell ?_ (by first | omega | (simp; done) | (simp; omega)) _ | refine Ext.trans ?_ (by assumption)))))).mono ?_; rintro e W4 ⟨rfl, hE4⟩))
          go_ret
          exact ⟨rfl, by exact (by repeat (first | exact Ext.refl _ | assumption | refine Ext.alloc ?_ _ | refine Ext.drew ?_ | refine Ext.drewN ?_ _ | refine Ext.setCell ?_ (by first | omega | (simp; done) | (simp; omega)) _ | refine Ext.trans ?_ (by assumption)))⟩
        · rw [hm] at HM h
          have hs : stackOk s = false := by
            rcases h1 : stackOk s with _ | _
            · rfl
            · exact absurd ⟨rfl, h20, h8, rfl, h1⟩ h
          rw [hs] at HR
          clear hv hf h hn hm hs
          go_enter Tryz.func3, Tryz.ntmps3
          go_wp2_with (first | (go_at_call 15; refine (HF _ (Hv.out.ext (by exact (by repeat (first | exact Ext.refl _ | assumption | refine Ext.alloc ?_ _ | refine Ext.drew ?_ | refine Ext.drewN ?_ _ | refine Ext.setCell ?_ (by first | omega | (simp; done) | (simp; omega)) _ | refine Ext.trans ?_ (by assumption)))))).mono ?_; rintro e W1 ⟨rfl, hE1⟩) | (go_at_call 14; ((with_reducible refine (HA _).mono ?_)); rintro e W2 ⟨rfl, hE2⟩) | (go_at_call 16; refine (HM _).mono ?_; rintro e W3 ⟨rfl, hE3⟩) | (go_at_call 17; refine (HR _ (Hv.out.ext (by exact (by repeat (first | exact Ext.refl _ | assumption | refine Ext.alloc ?_ _ | refine Ext.drew ?_ | refine Ext.drewN ?_ _ | refine Ext.setCell ?_ (by first | omega | (simp; done) | (simp; omega)) _ | refine Ext.trans ?_ (by assumption)))))).mono ?_; rintro e W4 ⟨rfl, hE4⟩))
          go_ret
          exact ⟨rfl, by exact (by repeat (first | exact Ext.refl _ | assumption | refine Ext.alloc ?_ _ | refine Ext.drew ?_ | refine Ext.drewN ?_ _ | refine Ext.setCell ?_ (by first | omega | (simp; done) | (simp; omega)) _ | refine Ext.trans ?_ (by assumption)))⟩
      · have h8' : (8 : Int) < (n : Int) := by omega
        clear hv hf h hn
        go_enter Tryz.func3, Tryz.ntmps3
        go_wp2_with (first | (go_at_call 15; refine (HF _ (Hv.out.ext (by exact (by repeat (first | exact Ext.refl _ | assumption | refine Ext.alloc ?_ _ | refine Ext.drew ?_ | refine Ext.drewN ?_ _ | refine Ext.setCell ?_ (by first | omega | (simp; done) | (simp; omega)) _ | refine Ext.trans ?_ (by assumption)))))).mono ?_; rintro e W1 ⟨rfl, hE1⟩) | (go_at_call 14; ((with_reducible refine (HA _).mono ?_)); rintro e W2 ⟨rfl, hE2⟩) | (go_at_call 16; refine (HM _).mono ?_; rintro e W3 ⟨rfl, hE3⟩) | (go_at_call 17; refine (HR _ (Hv.out.ext (by exact (by repeat (first | exact Ext.refl _ | assumption | refine Ext.alloc ?_ _ | refine Ext.drew ?_ | refine Ext.drewN ?_ _ | refine Ext.setCell ?_ (by first | omega | (simp; done) | (simp; omega)) _ | refine Ext.trans ?_ (by assumption)))))).mono ?_; rintro e W4 ⟨rfl, hE4⟩))
        go_ret
        exact ⟨rfl, by exact (by repeat (first | exact Ext.refl _ | assumption | refine Ext.alloc ?_ _ | refine Ext.drew ?_ | refine Ext.drewN ?_ _ | refine Ext.setCell ?_ (by first | omega | (simp; done) | (simp; omega)) _ | refine Ext.trans ?_ (by assumption)))⟩
    · have h20' : (20 : Int) < (name.size : Int) := by omega
      clear hv hf h hn
      go_enter Tryz.func3, Tryz.ntmps3
      go_wp2_with (first | (go_at_call 15; refine (HF _ (Hv.out.ext (by exact (by repeat (first | exact Ext.refl _ | assumption | refine Ext.alloc ?_ _ | refine Ext.drew ?_ | refine Ext.drewN ?_ _ | refine Ext.setCell ?_ (by first | omega | (simp; done) | (simp; omega)) _ | refine Ext.trans ?_ (by assumption)))))).mono ?_; rintro e W1 ⟨rfl, hE1⟩) | (go_at_call 14; ((with_reducible refine (HA _).mono ?_)); rintro e W2 ⟨rfl, hE2⟩) | (go_at_call 16; refine (HM _).mono ?_; rintro e W3 ⟨rfl, hE3⟩) | (go_at_call 17; refine (HR _ (Hv.out.ext (by exact (by repeat (first | exact Ext.refl _ | assumption | refine Ext.alloc ?_ _ | refine Ext.drew ?_ | refine Ext.drewN ?_ _ | refine Ext.setCell ?_ (by first | omega | (simp; done) | (simp; omega)) _ | refine Ext.trans ?_ (by assumption)))))).mono ?_; rintro e W4 ⟨rfl, hE4⟩))
      go_ret
      exact ⟨rfl, by exact (by repeat (first | exact Ext.refl _ | assumption | refine Ext.alloc ?_ _ | refine Ext.drew ?_ | refine Ext.drewN ?_ _ | refine Ext.setCell ?_ (by first | omega | (simp; done) | (simp; omega)) _ | refine Ext.trans ?_ (by assumption)))⟩

set_option maxHeartbeats 8000000 in
set_option maxRecDepth 20000 in
theorem over_main (v : Value) (s : List (List Ent)) (name : ByteArray) (w : World) (hv : RdK w v s) (hf : fewOk s = true) (h20 : name.size ≤ 20) (h8 : s.length ≤ 8) (hm : nameB name = true) (hs : stackOk s = true) :
    Calls Tryz.prog 3 #[v, .string name] w fun e w' => e = .returned (.bool true) ∧ Ext w w' := by
  have HA := fun w' => LAwake_any w'
  have HM : ∀ W, Calls Tryz.prog 16 #[.string name] W fun e w' => e = .returned (.bool (nameB name)) ∧ Ext W w' := fun W => Name_any name W (by omega)
  rw [hm] at HM
  have HR := fun W h => RStack_any v s W h
  rw [hs] at HR
  have HF := fun w' h => few_yes (v := v) hf w' h
  have HN := fun W h => Names_ok v s ⟨#[47]⟩ 0 W h (by decide) (dir_root hs)
  obtain ⟨hs2, hmem⟩ := over_names hs h8 hm
  have HN2 := fun (W : World) (v' : Value) h => Names_ok v' (s ++ [[newE name]]) ⟨#[47]⟩ 0 W h (by decide) (dir_root hs2)
  have Hv := Lib.hid hv
  obtain ⟨n, hn⟩ : ∃ n, n = s.length := ⟨_, rfl⟩
  rw [← hn] at h8
  have Hn := Lib.hid hn
  have h20' : ¬ (20 : Int) < (name.size : Int) := by omega
  have h8' : ¬ (8 : Int) < (n : Int) := by omega
  have Hla : Hid (∀ l, NamesIs s ⟨#[47]⟩ 0 l → l = inT (foldT s) ⟨#[47]⟩) := Lib.hid fun l hl => names_fold hs (dir_root hs) hl
  have Hlb : Hid (∀ l, NamesIs (s ++ [[newE name]]) ⟨#[47]⟩ 0 l → l = inT (foldT (s ++ [[newE name]])) ⟨#[47]⟩) := Lib.hid fun l hl => names_fold hs2 (dir_root hs2) hl
  have Hsa := Lib.hid (inT_sorted (treeOk_rising (fold_show hs).1) ⟨#[47]⟩)
  have Hsb := Lib.hid (inT_sorted (treeOk_rising (fold_show hs2).1) ⟨#[47]⟩)
  obtain ⟨la, hla⟩ : ∃ la, inT (foldT s) ⟨#[47]⟩ = la := ⟨_, rfl⟩
  obtain ⟨lb, hlb⟩ : ∃ lb, inT (foldT (s ++ [[newE name]])) ⟨#[47]⟩ = lb := ⟨_, rfl⟩
  rw [hla] at hmem Hla Hsa
  rw [hlb] at hmem Hlb Hsb
  have Hmem := Lib.hid hmem
  obtain ⟨A, c, us, hve, hul, hur, hua⟩ := stk_vals hv
  have hve2 := hve
  rw [← hn] at hve2 hul
  subst hve2
  clear hve
  have Hul := Lib.hid hul
  have Hur := Lib.hid hur
  have Hua := Lib.hid hua
  clear hv hf hm hs hs2 hmem hn hla hlb hul hur hua
  go_enter Tryz.func3, Tryz.ntmps3
  go_upto_region 4 with (first | (go_at_call 15; refine (HF _ (Hv.out.ext (by exact (by repeat (first | exact Ext.refl _ | assumption | refine Ext.alloc ?_ _ | refine Ext.drew ?_ | refine Ext.drewN ?_ _ | refine Ext.setCell ?_ (by first | omega | (simp; done) | (simp; omega)) _ | refine Ext.trans ?_ (by assumption)))))).mono ?_; rintro e W1 ⟨rfl, hE1⟩) | (go_at_call 14; ((with_reducible refine (HA _).mono ?_)); rintro e W2 ⟨rfl, hE2⟩) | (go_at_call 16; refine (HM _).mono ?_; rintro e W3 ⟨rfl, hE3⟩) | (go_at_call 17; refine (HR _ (Hv.out.ext (by exact (by repeat (first | exact Ext.refl _ | assumption | refine Ext.alloc ?_ _ | refine Ext.drew ?_ | refine Ext.drewN ?_ _ | refine Ext.setCell ?_ (by first | omega | (simp; done) | (simp; omega)) _ | refine Ext.trans ?_ (by assumption)))))).mono ?_; rintro e W4 ⟨rfl, hE4⟩) | (go_at_call 18; refine (HN _ (Hv.out.ext (by exact (by repeat (first | exact Ext.refl _ | assumption | refine Ext.alloc ?_ _ | refine Ext.drew ?_ | refine Ext.drewN ?_ _ | refine Ext.setCell ?_ (by first | omega | (simp; done) | (simp; omega)) _ | refine Ext.trans ?_ (by assumption)))))).mono ?_; rintro e W5 ⟨ua, l, rfl, hl, hu, hE5⟩; obtain rfl : la = l := (Hla.out l hl).symm))
  have hE : Ext w W5 := by exact (by repeat (first | exact Ext.refl _ | assumption | refine Ext.alloc ?_ _ | refine Ext.drew ?_ | refine Ext.drewN ?_ _ | refine Ext.setCell ?_ (by first | omega | (simp; done) | (simp; omega)) _ | refine Ext.trans ?_ (by assumption)))
  obtain ⟨i0, hi, hz0, hz1, hz2⟩ := info_parts info_lay
  obtain ⟨na, hna⟩ : ∃ na, na = la.length := ⟨_, rfl⟩
  have Hna := Lib.hid hna
  have hlna := Rd.len hu
  obtain ⟨A5, c5, rfl, ha1, ha2, Hca⟩ := rdS_form hu hna
  rw [← hna] at hlna
  have HuaW : Hid (∀ W, Ext w W → us ≠ [] → ∃ b o, A = some ⟨b, o, none⟩ ∧ ∀ (j : Nat) (h : j < us.length), W.cell? ⟨b, o + j, none⟩ = some us[j]) := Lib.hid fun W hW hne => by
    obtain ⟨b, o, e, hc⟩ := Hua.out hne
    exact ⟨b, o, e, fun j h => hW.cell (hc j h)⟩
  have H1c : Hid (∀ u ∈ us, u.oneCell' = true) := Lib.hid fun u hu => by
    obtain ⟨j, hj, rfl⟩ := List.getElem_of_mem hu
    exact rdE_one (Hur.out j hj (by have := Hul.out; have := Hn.out; omega))
  have HE := Lib.hid hE
  have hu8 : us.length ≤ 8 := by have := Hul.out; omega
  have hfx : (newE name).fits := ⟨by show ((⟨#[47]⟩ : ByteArray) ++ name).size ≤ _; rw [ByteArray.size_append]; show 1 + _ ≤ _; omega, by show (⟨#[]⟩ : ByteArray).size ≤ _; decide⟩
  have Hfx := Lib.hid hfx
  have hsz : ((⟨#[47]⟩ : ByteArray) ++ name).size ≤ 100 := by rw [ByteArray.size_append]; show 1 + _ ≤ _; omega
  clear hna hu hl hE1 hE2 hE3 hE4 hE5 hE hfx HA HM HR HF HN
  go_upto_region 8 with (first | (at_builtin; (refine append_stack rfl _ _ rfl W5.heap.size (by simp) _ 0 [] rfl (World.ownsRow_made W5 #[] 0 (Nat.le_refl _) (Nat.zero_le _) rfl) A c us (by rw [Hul.out]; rfl) (HuaW.out _ (HE.out.trans (by exact (by repeat (first | exact Ext.refl _ | assumption | refine Ext.alloc ?_ _ | refine Ext.drew ?_ | refine Ext.drewN ?_ _ | refine Ext.setCell ?_ (by first | omega | (simp; done) | (simp; omega)) _ | refine Ext.trans ?_ (by assumption)))))) H1c.out (by omega) ?_; intro v48 W48 hown48 hgrow48; have hE48 : Ext W5 W48 := Ext.grown (by exact (by repeat (first | exact Ext.refl _ | assumption | refine Ext.alloc ?_ _ | refine Ext.drew ?_ | refine Ext.drewN ?_ _ | refine Ext.setCell ?_ (by first | omega | (simp; done) | (simp; omega)) _ | refine Ext.trans ?_ (by assumption)))) hgrow48 (fun k hk => by cases hk; exact Nat.le_refl _); rw [Nat.zero_add, List.nil_append, Hul.out] at hown48; have Hown48 := Lib.hid hown48; clear hown48 hgrow48)) | (at_builtin; refine wpList_append_own _ rfl _ _ 22 rfl W5.heap.size 34 i0 (.slice none 0 0) 1 24 Tryz.underlying22 hi hz0 hz1 hz2 rfl (by decide) _ _ _ rfl ((Hown48.out.alloc _).alloc _) ⟨W48.heap.size + 1, 0, none⟩ 1 1 [.slice (some ⟨W48.heap.size, 0, none⟩) 1 1] rfl rfl (World.news_of_block (cs := #[.slice (some ⟨W48.heap.size, 0, none⟩) 1 1]) (t := 34) (fr := (0, 0)) (lay_blocks W48 (newE name)).2) (by simp [Value.oneCell']) (by unfold maxLen; omega) (by omega) (by simp only [World.size_alloc]; have := hE48.size; omega) ?_; intro v54 W54 hown54 hgrow54 hnil54; have hE54 : Ext W5 W54 := Ext.grown ((hE48.alloc _).alloc _) hgrow54 (fun j hj => (Hown48.out.lt j hj).1); have hR54 := stk_snoc hown54 Hn.out (Hul.out.trans Hn.out) (by omega) Hur.out (HE.out.trans hE54) (rd_one (x := newE name) ((hgrow54.block W48.heap.size (by simp only [World.size_alloc]; omega) (fun e => by have := (Hown48.out.lt _ (by first | exact e | exact e.symm)).2; omega)).trans (lay_blocks W48 (newE name)).1) Hfx.out); have HR54 := Lib.hid hR54; clear hown54 hgrow54 hnil54 hR54) | (go_at_call 18; refine (HN2 _ _ HR54.out).mono ?_; rintro e W9 ⟨ub, l9, rfl, hl9, hu9, hE9⟩; obtain rfl : lb = l9 := (Hlb.out l9 hl9).symm))
  obtain ⟨nb, hnb⟩ : ∃ nb, nb = lb.length := ⟨_, rfl⟩
  have Hnb := Lib.hid hnb
  have hlnb := Rd.len hu9
  obtain ⟨A9, c9, rfl, hb1, hb2, Hcb⟩ := rdS_form hu9 hnb
  rw [← hnb] at hlnb
  have HE9 : Hid (Ext W5 W9) := Lib.hid (hE54.trans hE9)
  clear hnb hu9 hl9 hE54 hE9 hE48 HN2
  go_loopw [9, 10, 11] (fun v9 v10 v11 wr => OvRel la lb name na nb W9 v9 v10 v11 wr) (fun _ _ v11 _ => nb - (intOf v11).toNat)
  case atStart => exact ⟨0, 0, false, rfl, rfl, rfl, Nat.zero_le _, Nat.zero_le _, Lib.hid (by simp [ovF]), Lib.hid (by simp), Ext.refl _⟩
  case round =>
    obtain ⟨i, k, b, rfl, rfl, rfl, hin, hkn, hk, hb, hEr⟩ := hrel
    by_cases hlt : i < nb
    · have hh : i < lb.length := by have := Hnb.out; omega
      obtain ⟨bb, ob, rfl, hcb⟩ := Hcb.out (List.ne_nil_of_length_pos (by omega))
      obtain ⟨x, hx⟩ : ∃ x, lb[i]'hh = x := ⟨_, rfl⟩
      have q0 := hEr.cell (hcb i hh)
      rw [hx] at q0
      have hlt' : (i : Int) < (nb : Int) := by omega
      have hstep := ov_step (la := la) hh
      rw [hx] at hstep
      have hpn := path_eqR x name
      have Hnx : Hid (∀ (k' : Nat) (b' : Bool) (W : World), k' ≤ na → k' = (ovF la lb (i + 1)).length → b' = (b || decide (x = name)) → Ext W9 W → OvRel la lb name na nb W9 (.int .i64 (k' : Int)) (.bool b') (.int .i64 ((i : Int) + 1)) W ∧ nb - (intOf (.int .i64 ((i : Int) + 1))).toNat < nb - (intOf (.int .i64 (i : Int))).toNat) := Lib.hid fun k' b' W h1 h2 h3 h4 => ov_next hlt hh h1 h2 hb (by rw [hx]; exact h3) h4
      by_cases hm : x ∈ la
      · have hhit := ov_hit Hsa.out Hsb.out Hmem.out hh (by rw [hx]; exact hm)
        rw [hx, ← hk.out] at hhit
        obtain ⟨hkl, hke⟩ := List.getElem?_eq_some_iff.1 hhit
        have hkna : k < na := by have := Hna.out; omega
        obtain ⟨ba, oa, rfl, hca⟩ := Hca.out (List.ne_nil_of_length_pos (by omega))
        have p0 := (HE9.out.trans hEr).cell (hca k hkl)
        rw [hke] at p0
        have hkl' : (k : Int) < (na : Int) := by omega
        rw [if_pos (memB_iff.2 hm)] at hstep
        have Hk2 : Hid (k + 1 = (ovF la lb (i + 1)).length) := Lib.hid (by rw [hstep, List.length_append, ← hk.out]; rfl)
        obtain ⟨e, he⟩ : ∃ e, decide (x = name) = e := ⟨_, rfl⟩
        rw [he] at hpn Hnx
        clear hcb hx hhit hke hca hm hstep he hk hb
        rcases b with _ | _
        · go_upto_region 10 with (fail)
          go_quiet (fail)
          go_wp2
          exact Hnx.out (k + 1) _ _ (by omega) Hk2.out (by simp) (hEr.drewN _)
        · go_upto_region 10 with (fail)
          go_quiet (fail)
          go_wp2
          exact Hnx.out (k + 1) _ _ (by omega) Hk2.out (by simp) (hEr.drewN _)
      · have hxn : x = name := ((Hmem.out x).1 (by rw [← hx]; exact List.getElem_mem hh)).resolve_right hm
        rw [if_neg (fun h => hm (memB_iff.1 h)), List.append_nil] at hstep
        have Hk2 : Hid (k = (ovF la lb (i + 1)).length) := Lib.hid (by rw [hstep, ← hk.out])
        rw [decide_eq_true hxn] at hpn Hnx
        have hpn2 : (x.toList != name.toList) = false := by rw [bne, hpn]; rfl
        by_cases hkl : k < na
        · have hkl2 : k < la.length := by have := Hna.out; omega
          have hkl' : (k : Int) < (na : Int) := by omega
          obtain ⟨ba, oa, rfl, hca⟩ := Hca.out (List.ne_nil_of_length_pos (by omega))
          obtain ⟨y, hy⟩ : ∃ y, la[k]'hkl2 = y := ⟨_, rfl⟩
          have p0 := (HE9.out.trans hEr).cell (hca k hkl2)
          rw [hy] at p0
          have hyx := path_eqR y x
          rw [decide_eq_false (fun e => hm (by rw [← e, ← hy]; exact List.getElem_mem hkl2))] at hyx
          clear hcb hx hca hm hstep hk hb hxn hy
          rcases b with _ | _
          · go_upto_region 10 with (fail)
            go_quiet (fail)
            go_wp2
            exact Hnx.out k _ _ (by omega) Hk2.out (by simp) (hEr.drewN _)
          · go_upto_region 10 with (fail)
            go_quiet (fail)
            go_wp2
            exact Hnx.out k _ _ (by omega) Hk2.out (by simp) (hEr.drewN _)
        · have hkl' : ¬ (k : Int) < (na : Int) := by omega
          clear hcb hx hm hstep hk hb hxn
          rcases b with _ | _
          · go_upto_region 10 with (fail)
            go_quiet (fail)
            go_wp2
            exact Hnx.out k _ _ (by omega) Hk2.out (by simp) (hEr.drewN _)
          · go_upto_region 10 with (fail)
            go_quiet (fail)
            go_wp2
            exact Hnx.out k _ _ (by omega) Hk2.out (by simp) (hEr.drewN _)
    · have hi2 : i = nb := by omega
      have hka : k = na := by
        rw [hk.out, ovF, List.take_of_length_le (by have := Hnb.out; omega), ov_full Hsa.out Hsb.out Hmem.out, Hna.out]
      have hbt : b = true := by
        rw [hb.out, List.take_of_length_le (by have := Hnb.out; omega), List.any_eq_true]
        exact ⟨name, (Hmem.out name).2 (.inl rfl), by simp⟩
      have hke : ((k : Int) == (na : Int)) = true := by rw [beq_iff_eq]; omega
      have HEr := Lib.hid (HE.out.trans (HE9.out.trans hEr))
      clear hk hb hka
      subst hbt
      go_wp2_with (go_at_call 19; ((with_reducible refine (Code_nil _).mono ?_)); rintro e W11 ⟨rfl, hE11⟩)
      go_ret
      exact ⟨rfl, HEr.out.trans (by exact (by repeat (first | exact Ext.refl _ | assumption | refine Ext.alloc ?_ _ | refine Ext.drew ?_ | refine Ext.drewN ?_ _ | refine Ext.setCell ?_ (by first | omega | (simp; done) | (simp; omega)) _ | refine Ext.trans ?_ (by assumption))))⟩

/-- The law, for every stack and every text. -/
theorem Over_any (v : Value) (s : List (List Ent)) (name : ByteArray) (w : World) (_hL : Laid w) (hv : RdK w v s) (hz : name.size ≤ 140737488355328) :
    Calls Tryz.prog 3 #[v, .string name] w fun e w' => e = .returned (.bool true) ∧ Ext w w' := by
  by_cases h : fewOk s = true ∧ name.size ≤ 20 ∧ s.length ≤ 8 ∧ nameB name = true ∧ stackOk s = true
  · exact over_main v s name w hv h.1 h.2.1 h.2.2.1 h.2.2.2.1 h.2.2.2.2
  · exact over_let v s name w hv hz h
end Go.Proofs.YtknfaabhlcdeoaaGreatDoor
