/- shalelaw22.PinsPlays is true: for every stack and every list of acts. -/
import Derived.Test.YthadldnojdjlnaaGreatDoorJP2
import Derived.Test.YthadldnojdjlnaaGreatDoorJP5
import Derived.Test.YthadldnojdjlnaaGreatDoorWLast
import Derived.Deep.RegionHeld3
import Derived.Deep.RegionLaw
import Derived.Deep.CutBlock
import Derived.Deep.AppendLies
/-! PPlays -/
set_option linter.unusedSimpArgs false
set_option linter.unusedVariables false
namespace Go.Proofs.YthadldnojdjlnaaGreatDoor
open Go Go.RowKit Go.Shelf Go.Proofs Go.Maps Go.Proofs.YthadldnojdjlnaaGreatDoorW.PrintLast

/-- A call of the table. -/
structure Act22 where
  dO : Int
  p : ByteArray
  id : Int
  at_ : Int
  n : Int
def Act22.fits (a : Act22) : Prop := 0 ≤ a.dO ∧ a.dO ≤ 255 ∧ a.p.size ≤ 140737488355328 ∧ (Lit.int .i64 a.id).wf = true ∧ (Lit.int .i64 a.at_).wf = true ∧ (Lit.int .i64 a.n).wf = true
/-- Calls in memory. -/
def ActsIn (w : World) (v : Value) (xs : List Act22) : Prop := (∀ x ∈ xs, x.fits) ∧ ∃ A c, v = .slice A xs.length c ∧ xs.length ≤ c ∧ c ≤ 9223372036854775807 ∧
  (xs ≠ [] → ∃ b o, A = some ⟨b, o, none⟩ ∧ ∀ (j : Nat) (h : j < xs.length), w.cell? ⟨b, o + j * 5, none⟩ = some (.int .u8 xs[j].dO) ∧ w.cell? ⟨b, o + j * 5 + 1, none⟩ = some (.string xs[j].p) ∧ w.cell? ⟨b, o + j * 5 + 2, none⟩ = some (.int .i64 xs[j].id) ∧
    w.cell? ⟨b, o + j * 5 + 3, none⟩ = some (.int .i64 xs[j].at_) ∧ w.cell? ⟨b, o + j * 5 + 4, none⟩ = some (.int .i64 xs[j].n))

variable {s : List (List Ent)}

/-- The outer loop's relation. -/
def PlRel (w0 : World) (base tb bm n : Nat) (v6 v7 v8 v9 : Value) (wr : World) : Prop :=
  ∃ (k L : Nat) (l : LH) (ks : List Int) (ds : List ByteArray), v9 = .int .i64 k ∧ v6 = .int .i64 L ∧ k ≤ n ∧ L ≤ k ∧ Hid (Num L l ks ds) ∧ Hid (StM w0 base tb bm L l ks ds v7 v8 wr)

def FnRel (ks : List Int) (id : Int) (m : Nat) (W : World) (v11 v12 : Value) (wr : World) : Prop :=
  ∃ j : Nat, v12 = .int .i64 j ∧ v11 = .int .i64 (fndK ks id j) ∧ j ≤ m ∧ Ext W wr

theorem fn_next {ks : List Int} {id : Int} {m j : Nat} {W w' : World} {z : Int} (hj : j < m) (h : fndK ks id (j + 1) = z) (hE : Ext W w') :
    FnRel ks id m W (.int .i64 z) (.int .i64 ((j : Int) + 1)) w' ∧ m - (intOf (.int .i64 ((j : Int) + 1))).toNat < m - (intOf (.int .i64 (j : Int))).toNat :=
  ⟨⟨j + 1, by simp, by rw [h], hj, hE⟩, by simp [intOf]; omega⟩

theorem num_len {L : Nat} {l : LH} {ks : List Int} {ds : List ByteArray} (h : Num L l ks ds) : l.length ≤ L := by
  have key : ∀ (q : List Int) (a : Nat), q.Pairwise (· < ·) → (∀ y ∈ q, (L : Int) - a < y ∧ y ≤ (L : Int)) → q.length ≤ a := by
    intro q
    induction q with
    | nil => intros; simp
    | cons z q ih =>
      intro a hp hr
      rw [List.pairwise_cons] at hp
      have hz := hr z (by simp)
      have := ih (a - 1) hp.2 fun y hy => by
        have h1 := hp.1 y hy
        have h2 := hr y (by simp [hy])
        omega
      rw [List.length_cons]
      omega
  have := key (l.map (·.1)) L h.keys fun y hy => by
    obtain ⟨z, hz, rfl⟩ := List.mem_map.1 hy
    have := h.rng z hz
    omega
  rwa [List.length_map] at this

theorem own_slice22 {w : World} {base e size n : Nat} {A : Option Addr} {c : Nat} {xs : List Value} (h : w.ownsRow base e size (.slice A n c) n xs) (hn : 0 < n) : ∃ g, A = some ⟨g, 0, none⟩ ∧ base ≤ g := by
  rcases h.2 with ⟨_, h0⟩ | ⟨g, cap, cur, hv, hb, _⟩
  · omega
  · simp only [Value.slice.injEq] at hv
    exact ⟨g, hv.1, hb⟩

/-- All texts. -/
theorem flat_len (l : LH) : (l.map fun y => refsOf y.1).flatten.length = 2 * l.length := by
  induction l with
  | nil => rfl
  | cons y l ih => rw [List.map_cons, List.flatten_cons, List.length_append, ih, List.length_cons, refsOf]; simp; omega
theorem flat_at {l : LH} : ∀ {j : Nat} (h : j < l.length), (l.map fun y => refsOf y.1).flatten[2 * j]? = some ⟨l[j].1, 1, l[j].1⟩ ∧ (l.map fun y => refsOf y.1).flatten[2 * j + 1]? = some ⟨l[j].1, 2, 0⟩ := by
  induction l with
  | nil => intro j h; simp at h
  | cons y l ih =>
    intro j h
    rw [List.map_cons, List.flatten_cons]
    rcases j with _ | j
    · exact ⟨rfl, rfl⟩
    · have h2 := ih (j := j) (by simpa using h)
      have e1 : 2 * (j + 1) = 2 * j + 2 := by omega
      rw [e1]
      exact ⟨h2.1, h2.2⟩

theorem plays_refs {W : World} {tb bm L : Nat} {l : LH} {ks : List Int} {ds : List ByteArray} {S : Nat → Prop} (hn : Num L l ks ds) (ht : PT W tb bm L (L : Int) l) (hs : HsP W S l) (hL : L ≤ 1000) :
    Calls Tryz.prog 15 #[.pointer (some ⟨tb, 0, none⟩)] W (RefsAns (l.map fun y => refsOf y.1).flatten W) := by
  have hlen := num_len hn
  refine Refs_any tb bm L (L : Int) l (l.map fun y => refsOf y.1) W ht hn.keys (by omega) (fun y hy => ?_) ⟨by simp, fun i h h' => ?_⟩ (by rw [flat_len]; omega)
  · have := hn.rng y hy
    simp [Lit.wf, IntKind.min, IntKind.max, IntKind.signed, IntKind.bits]
    omega
  · obtain ⟨A, c, e, hr, hne, _⟩ := hs l[i] (List.getElem_mem h)
    exact ⟨A, c, by simpa [refsOf] using e, by simpa [refsOf] using hr, hne⟩

/-- Behind a call: the state again. -/
def PlMid (w0 : World) (base tb bm k : Nat) (v6 v7 v8 : Value) (wr : World) : Prop :=
  ∃ (L : Nat) (l : LH) (ks : List Int) (ds : List ByteArray), v6 = .int .i64 L ∧ L ≤ k + 1 ∧ Hid (Num L l ks ds) ∧ Hid (StM w0 base tb bm L l ks ds v7 v8 wr)

set_option maxHeartbeats 16000000 in
set_option maxRecDepth 20000 in
theorem plays_main (v u : Value) (s : List (List Ent)) (xs : List Act22) (w : World) (hL : Laid w) (hv : RdK w v s) (hf : fewOk s = true) (hu : ActsIn w u xs) (h60 : xs.length ≤ 60) :
    Calls Tryz.prog 3 #[v, u] w fun e w' => e = .returned (.bool true) ∧ Ext w w' := by
  have HA := fun w' h => awake_any w' (Laid.ext hL h)
  have HF := fun w' h => few_yes (v := v) hf w' h
  have Hv := Lib.hid hv
  have HL := Lib.hid hL
  obtain ⟨hfit, A1, c1, rfl, hc1, hc2, hcell⟩ := hu
  obtain ⟨n, hn⟩ : ∃ n, xs.length = n := ⟨_, rfl⟩
  rw [hn] at hc1 h60 ⊢
  have Hn := Lib.hid hn
  have Hfit := Lib.hid hfit
  have Hcell := Lib.hid hcell
  obtain ⟨A, c, rfl, _, _, _⟩ := RdK.form hv rfl
  have h60' : ¬ (60 : Int) < (n : Int) := by omega
  clear hv hf hL hn hfit hcell
  go_enter Tryz.func3, Tryz.ntmps3
  go_upto_region 3 with (first | (go_at_call 4; refine (HA _ (Ext.refl _)).mono ?_; rintro e W0 ⟨rfl, hE0⟩) | (go_at_call 5; refine (HF _ (Hv.out.ext (by exact (by repeat (first | exact Ext.refl _ | assumption | refine Ext.alloc ?_ _ | refine Ext.drew ?_ | refine Ext.drewN ?_ _ | refine Ext.setCell ?_ (by first | omega | (simp; done) | (simp; omega)) _ | refine Ext.trans ?_ (by assumption)))))).mono ?_; rintro e W1 ⟨rfl, hE1⟩))
  go_upto_region 4 with (go_at_call 6; refine (New_any _).mono ?_; rintro e W2 ⟨tb, bm, rfl, ht2, htb, hbm, hE2⟩)
  have hE : Ext w W2 := by exact (by repeat (first | exact Ext.refl _ | assumption | refine Ext.alloc ?_ _ | refine Ext.drew ?_ | refine Ext.drewN ?_ _ | refine Ext.setCell ?_ (by first | omega | (simp; done) | (simp; omega)) _ | refine Ext.trans ?_ (by assumption)))
  have HW : Hid (Ext w W1) := Lib.hid (by exact (by repeat (first | exact Ext.refl _ | assumption | refine Ext.alloc ?_ _ | refine Ext.drew ?_ | refine Ext.drewN ?_ _ | refine Ext.setCell ?_ (by first | omega | (simp; done) | (simp; omega)) _ | refine Ext.trans ?_ (by assumption))))
  have hfx : Fixd W1 W2.heap.size tb bm := ⟨by omega, by omega, hE2.size, ht2.box.lt, ht2.own.lt⟩
  have Hfx := Lib.hid hfx
  have hst : Hid (StM W1 W2.heap.size tb bm 0 [] [] [] (.slice none 0 0) (.slice none 0 0) W2) := Lib.hid ⟨ht2, Nat.le_refl _, hE2, fun y hy => by simp at hy, World.ownsRow_nil _ _ _ _, World.ownsRow_nil _ _ _ _, fun k e => by simp [Value.ownBlock] at e⟩
  obtain ⟨base, hbase⟩ : ∃ base, W2.heap.size = base := ⟨_, rfl⟩
  rw [hbase] at hst Hfx
  clear hbase ht2 htb hbm hE2 hE0 hE1 hE hfx HA HF
  go_wp2
  go_loopw [6, 7, 8, 9] (fun v6 v7 v8 v9 wr => PlRel W1 base tb bm n v6 v7 v8 v9 wr) (fun _ _ _ v9 _ => n - (intOf v9).toNat)
  case atStart => exact ⟨0, 0, [], [], [], rfl, rfl, Nat.zero_le _, Nat.le_refl _, Lib.hid Num.nil, hst⟩
  case round =>
    obtain ⟨k, L, l, ks, ds, rfl, rfl, hkn, hLk, hnum, hst⟩ := hrel
    by_cases hlt : k < n
    · have hh : k < xs.length := by have := Hn.out; omega
      obtain ⟨b, o, rfl, hcell⟩ := Hcell.out (List.ne_nil_of_length_pos (by omega))
      obtain ⟨p0, p1, p2, p3, p4⟩ := hcell k hh
      obtain ⟨x, hx⟩ : ∃ x, xs[k]'hh = x := ⟨_, rfl⟩
      rw [hx] at p0 p1 p2 p3 p4
      have hxf := Hfit.out x (by rw [← hx]; exact List.getElem_mem hh)
      have hE := HW.out.trans hst.out.ext
      have g0 := hE.cell p0
      have g1 := hE.cell p1
      have g2 := hE.cell p2
      have g3 := hE.cell p3
      have g4 := hE.cell p4
      have Hxf := Lib.hid hxf
      have HE := Lib.hid hE
      clear p0 p1 p2 p3 p4 hcell hx hxf hE
      go_upto_region 11 with (fail)
      have hX := Blk.new wr 31 #[.int .u8 x.dO, .string x.p, .int .i64 x.id, .int .i64 x.at_, .int .i64 x.n]
      have hE1 : Ext wr (wr.alloc (.cells #[.int .u8 x.dO, .string x.p, .int .i64 x.id, .int .i64 x.at_, .int .i64 x.n] 31)) := (Ext.refl wr).alloc _
      obtain ⟨xb, hxb⟩ : ∃ xb, wr.heap.size = xb := ⟨_, rfl⟩
      rw [hxb] at hX ⊢
      have Hxb : Hid (base ≤ xb) := Lib.hid (by rw [← hxb]; exact hst.out.bas)
      have hst1 : Hid (StM W1 base tb bm L l ks ds u7 u8 _) := Lib.hid (hst.out.step hE1)
      clear hxb g0 g1 g2 g3 g4 hst
      generalize wr.alloc (.cells #[.int .u8 x.dO, .string x.p, .int .i64 x.id, .int .i64 x.at_, .int .i64 x.n] 31) = W3 at hX hE1 hst1 ⊢
      have HE3 := Lib.hid (HW.out.trans hst1.out.ext)
      clear hE1 HE
      obtain ⟨⟨x0, _⟩, ⟨x1, _⟩, ⟨x2, _⟩, ⟨x3, _⟩, ⟨x4, _⟩⟩ := hX.five
      by_cases hp : x.p.size ≤ 100
      · have hp' : ¬ (100 : Int) < (x.p.size : Int) := by omega
        obtain ⟨m, hm⟩ : ∃ m, ks.length = m := ⟨_, rfl⟩
        have hr7 := hst1.out.r7
        have hr8 := hst1.out.r8
        have hdl : ds.length = m := by rw [hnum.out.ed, ← hm, hnum.out.ek, List.length_map, List.length_map]
        rw [hm] at hr7
        rw [hdl] at hr8
        obtain ⟨A7, c7, rfl⟩ := own_form hr7
        obtain ⟨A8, c8, rfl⟩ := own_form hr8
        have Hm := Lib.hid hm
        have Hdl := Lib.hid hdl
        have Hr7 := Lib.hid hr7
        have Hr8 := Lib.hid hr8
        have hm60 : m ≤ 60 := by
          rw [← hm, hnum.out.ek, List.length_map]
          have := num_len hnum.out
          omega
        clear hm hr7 hr8 hdl
        go_upto_region 15 with (fail)
        go_loopw [11, 12] (fun v11 v12 wr => FnRel ks x.id m W3 v11 v12 wr) (fun _ v12 _ => m - (intOf v12).toNat)
        case atStart => exact ⟨0, rfl, rfl, Nat.zero_le _, Ext.refl _⟩
        case round =>
          obtain ⟨j, rfl, rfl, hjm, hEj⟩ := hrel
          have y0 := hEj.cell x0
          have y1 := hEj.cell x1
          have y2 := hEj.cell x2
          have y3 := hEj.cell x3
          have y4 := hEj.cell x4
          by_cases hjlt : j < m
          · as_aux_lemma =>
              obtain ⟨g5, rfl, _⟩ := own_slice22 Hr7.out (by omega)
              have hjk : j < ks.length := by have := Hm.out; omega
              obtain ⟨q, hq⟩ : ∃ q, ks[j]'hjk = q := ⟨_, rfl⟩
              have cq : W3.cell? ⟨g5, j, none⟩ = some (.int .i64 q) := (Hr7.out.cellAt j (by omega)).trans (by rw [List.getElem?_map, List.getElem?_eq_getElem hjk, hq, Option.map_some])
              have cq := hEj.cell cq
              have hstep : fndK ks x.id (j + 1) = if q = x.id then (j : Int) else fndK ks x.id j := by
                rw [fndK, List.getElem?_eq_getElem hjk, hq]
                simp
              have Hq := Lib.hid hq
              clear hq
              by_cases hqx : q = x.id
              · rw [if_pos hqx] at hstep
                have hqx' : (q == x.id) = true := by simpa using hqx
                have Hst := Lib.hid hstep
                clear hstep hqx
                go_upto_region 17 with (fail)
                go_quiet (fail)
                go_wp2
                exact fn_next hjlt Hst.out (hEj.drewN _)
              · rw [if_neg hqx] at hstep
                have hqx' : (q == x.id) = false := by simpa using hqx
                have Hst := Lib.hid hstep
                clear hstep hqx
                go_upto_region 17 with (fail)
                go_quiet (fail)
                go_wp2
                exact fn_next hjlt Hst.out (hEj.drewN _)
          · have hjm2 : j = m := by omega
            subst hjm2
            go_upto_region 19 with (fail)
            have hX4 := hX.ext hEj
            have hst4 := Lib.hid (hst1.out.step hEj)
            have Hr74 := Lib.hid (own_ext Hr7.out hEj)
            have Hr84 := Lib.hid (own_ext Hr8.out hEj)
            have HE4 := Lib.hid (HE3.out.trans hEj)
            have Hj := Lib.hid hjlt
            clear x0 x1 x2 x3 x4 hX hst1 HE3 hEj hjlt hjm Hr7 Hr8
            have hd0 := Hxf.out.1
            have hd1 := Hxf.out.2.1
            go_upto_block 4 with fail
            go_cut [6, 7, 8, 11, 13, 14, 15, 16, 17, 18, 19, 20, 21, 22, 23] from 68 to 255 (fun v6 v7 v8 _ _ _ _ _ _ _ _ _ _ _ _ wx => PlMid W1 base tb bm k v6 v7 v8 wx)
            case first =>
              have Hpt := Lib.hid hst4.out.pt
              have hwf := Hxf.out.2.2.2.1
              obtain ⟨dm, hdm⟩ : ∃ dm, x.dO % 4 = dm := ⟨_, rfl⟩
              rw [hdm]
              have hdm1 : 0 ≤ dm ∧ dm < 4 := by omega
              have HLr := Lib.hid (HL.out.ext HE4.out)
              have hEnC : ∀ args w, (callFunc 8 args).run Tryz.prog w = .ok (.enter 8 args) w := enters_of Tryz.func8 (by kernel_rfl) rfl
              clear hd0 hd1 hdm
              by_cases h2 : dm = 2
              · as_aux_lemma =>
                  subst h2
                  clear hdm1
                  rcases fnd_cases ks x.id j with ⟨hk, hno⟩ | ⟨i, hij, hki, hk⟩
                  · as_aux_lemma =>
                      rw [hk]
                      have hf : findH l x.id = none := find_no fun i hi => by
                        rw [← hnum.out.ek]
                        exact hno i (by rw [← Hm.out, hnum.out.ek, List.length_map]; exact hi)
                      have HR := fun W h => read_no tb bm L (L : Int) x.id x.at_ x.n l W h hwf hf
                      clear hno hk hf
                      go_upto_region 35 with (go_at_call 7; refine (HR _ (Hpt.out.ext (by exact (by repeat (first | exact Ext.refl _ | assumption | refine Ext.alloc ?_ _ | refine Ext.drew ?_ | refine Ext.drewN ?_ _ | refine Ext.setCell ?_ (by first | omega | (simp; done) | (simp; omega)) _ | refine Ext.trans ?_ (by assumption)))))).mono ?_; rintro e W5 ⟨a5, rfl, hEr, hE5⟩; have HC5 := code22 hEr (HLr.out.ext hE5); obtain ⟨⟨z0, _⟩, ⟨z1, _⟩, ⟨z2, _⟩, ⟨z3, _⟩, ⟨z4, _⟩⟩ := (hX4.ext hE5).five)
                      clear y0 y1 y2 y3 y4 hEr HR
                      go_upto_region 40 with fail
                      refine start_ (n := 29) (S := fun w' => True) (ds := []) #[false, false, false, false, false, false, false, false, false, false, false, false, false, false, false, false, false, false, false, false, false, false, false, false, false, false, false, false, false] (by kernel_rfl) rfl rfl trivial (fun hHeld => ?_)
                      refine pure_ (i := 0) (N := some 155) (v := ?_) (a' := ?_) #[true, false, false, false, false, false, false, false, false, false, false, false, false, false, false, false, false, false, false, false, false, false, false, false, false, false, false, false, false] rfl rfl (by kernel_rfl) (fun _ _ _ h => h) (Or.inl ⟨by rfl, ?_⟩) ?_ ?_
                      rotate_left
                      · intro w'
                        go_simp
                        with_reducible rfl
                      rotate_left
                      · simp only [Act.put, List.setIfInBounds_toArray, List.set_cons_zero, List.set_cons_succ, i64_w, i32_w]
                        rfl
                      refine pure_ (i := 2) (N := some 157) (v := ?_) (a' := ?_) #[true, false, true, false, false, false, false, false, false, false, false, false, false, false, false, false, false, false, false, false, false, false, false, false, false, false, false, false, false] rfl rfl (by kernel_rfl) (fun _ _ _ h => h) (Or.inl ⟨by rfl, ?_⟩) ?_ ?_
                      rotate_left
                      · intro w'
                        go_simp
                        with_reducible rfl
                      rotate_left
                      · simp only [Act.put, List.setIfInBounds_toArray, List.set_cons_zero, List.set_cons_succ, i64_w, i32_w]
                        rfl
                      refine one_ (i := 1) (N := some 156) #[true, true, true, false, false, false, false, false, false, false, false, false, false, false, false, false, false, false, false, false, false, false, false, false, false, false, false, false, false] rfl rfl (by kernel_rfl) (by decide) (fun K hK => ?_)
                      refine goes_ Tryz.func8 (by kernel_rfl) rfl #[.iface 86 (.pointer (some ⟨a5, 0, none⟩))] (by rfl) rfl rfl (by simp only [List.map_toArray, List.map_cons, List.map_nil]; rfl) ?_
                      with_reducible refine (HC5 _ (by repeat (first | exact Ext.refl _ | assumption | refine Ext.alloc ?_ _ | refine Ext.drew ?_ | refine Ext.drewN ?_ _ | refine Ext.setCell ?_ (by first | omega | (simp; done) | (simp; omega)) _ | refine Ext.trans ?_ (by assumption)))).mono ?_
                      rintro e W6 ⟨rfl, hE6⟩
                      refine ⟨_, rfl, ?_⟩
                      refine hK.out _ _ trivial (fun hHeld => ?_)
                      clear hK K
                      refine norm_ (a' := ?_) ?_ ?_
                      rotate_left
                      · show Act.put _ (some 156) _ = _
                        simp only [Act.put, List.setIfInBounds_toArray, List.set_cons_zero, List.set_cons_succ, i64_w, i32_w]
                        rfl
                      refine pure_ (i := 3) (N := some 158) (v := ?_) (a' := ?_) #[true, true, true, true, false, false, false, false, false, false, false, false, false, false, false, false, false, false, false, false, false, false, false, false, false, false, false, false, false] rfl rfl (by kernel_rfl) (fun _ _ _ h => h) (Or.inl ⟨by rfl, ?_⟩) ?_ ?_
                      rotate_left
                      · intro w'
                        go_simp
                        with_reducible rfl
                      rotate_left
                      · simp only [Act.put, List.setIfInBounds_toArray, List.set_cons_zero, List.set_cons_succ, i64_w, i32_w]
                        rfl
                      refine pure_ (i := 4) (N := some 159) (v := ?_) (a' := ?_) #[true, true, true, true, true, false, false, false, false, false, false, false, false, false, false, false, false, false, false, false, false, false, false, false, false, false, false, false, false] rfl rfl (by kernel_rfl) (fun _ _ _ h => h) (Or.inl ⟨by rfl, ?_⟩) ?_ ?_
                      rotate_left
                      · intro w'
                        go_simp
                        with_reducible rfl
                      rotate_left
                      · simp only [Act.put, List.setIfInBounds_toArray, List.set_cons_zero, List.set_cons_succ, i64_w, i32_w]
                        rfl
                      refine pure_ (i := 5) (N := some 160) (v := ?_) (a' := ?_) #[true, true, true, true, true, true, false, false, false, false, false, false, false, false, false, false, false, false, false, false, false, false, false, false, false, false, false, false, false] rfl rfl (by kernel_rfl) (fun _ _ _ h => h) (Or.inl ⟨by rfl, ?_⟩) ?_ ?_
                      rotate_left
                      · intro w'
                        go_simp
                        with_reducible rfl
                      rotate_left
                      · simp only [Act.put, List.setIfInBounds_toArray, List.set_cons_zero, List.set_cons_succ, i64_w, i32_w]
                        rfl
                      refine pure_ (i := 6) (N := some 161) (v := ?_) (a' := ?_) #[true, true, true, true, true, true, true, false, false, false, false, false, false, false, false, false, false, false, false, false, false, false, false, false, false, false, false, false, false] rfl rfl (by kernel_rfl) (fun _ _ _ h => h) (Or.inl ⟨by rfl, ?_⟩) ?_ ?_
                      rotate_left
                      · intro w'
                        go_simp
                        with_reducible rfl
                      rotate_left
                      · simp only [Act.put, List.setIfInBounds_toArray, List.set_cons_zero, List.set_cons_succ, i64_w, i32_w]
                        rfl
                      refine pure_ (i := 7) (N := some 162) (v := ?_) (a' := ?_) #[true, true, true, true, true, true, true, true, false, false, false, false, false, false, false, false, false, false, false, false, false, false, false, false, false, false, false, false, false] rfl rfl (by kernel_rfl) (fun _ _ _ h => h) (Or.inl ⟨by rfl, ?_⟩) ?_ ?_
                      rotate_left
                      · intro w'
                        go_simp
                        with_reducible rfl
                      rotate_left
                      · simp only [Act.put, List.setIfInBounds_toArray, List.set_cons_zero, List.set_cons_succ, i64_w, i32_w]
                        rfl
                      refine pure_ (i := 8) (N := some 163) (v := ?_) (a' := ?_) #[true, true, true, true, true, true, true, true, true, false, false, false, false, false, false, false, false, false, false, false, false, false, false, false, false, false, false, false, false] rfl rfl (by kernel_rfl) (fun _ _ _ h => h) (Or.inl ⟨by rfl, ?_⟩) ?_ ?_
                      rotate_left
                      · intro w'
                        go_simp
                        with_reducible rfl
                      rotate_left
                      · simp only [Act.put, List.setIfInBounds_toArray, List.set_cons_zero, List.set_cons_succ, i64_w, i32_w]
                        rfl
                      refine pure_ (i := 9) (N := some 164) (v := ?_) (a' := ?_) #[true, true, true, true, true, true, true, true, true, true, false, false, false, false, false, false, false, false, false, false, false, false, false, false, false, false, false, false, false] rfl rfl (by kernel_rfl) (fun _ _ _ h => h) (Or.inl ⟨by rfl, ?_⟩) ?_ ?_
                      rotate_left
                      · intro w'
                        go_simp
                        with_reducible rfl
                      rotate_left
                      · simp only [Act.put, List.setIfInBounds_toArray, List.set_cons_zero, List.set_cons_succ, i64_w, i32_w]
                        rfl
                      refine pure_ (i := 10) (N := some 165) (v := ?_) (a' := ?_) #[true, true, true, true, true, true, true, true, true, true, true, false, false, false, false, false, false, false, false, false, false, false, false, false, false, false, false, false, false] rfl rfl (by kernel_rfl) (fun _ _ _ h => h) (Or.inl ⟨by rfl, ?_⟩) ?_ ?_
                      rotate_left
                      · intro w'
                        go_simp
                        with_reducible rfl
                      rotate_left
                      · simp only [Act.put, List.setIfInBounds_toArray, List.set_cons_zero, List.set_cons_succ, i64_w, i32_w]
                        rfl
                      refine pure_ (i := 11) (N := some 166) (v := ?_) (a' := ?_) #[true, true, true, true, true, true, true, true, true, true, true, true, false, false, false, false, false, false, false, false, false, false, false, false, false, false, false, false, false] rfl rfl (by kernel_rfl) (fun _ _ _ h => h) (Or.inl ⟨by rfl, ?_⟩) ?_ ?_
                      rotate_left
                      · intro w'
                        go_simp
                        with_reducible rfl
                      rotate_left
                      · simp only [Act.put, List.setIfInBounds_toArray, List.set_cons_zero, List.set_cons_succ, i64_w, i32_w]
                        rfl
                      refine pure_ (i := 12) (N := some 167) (v := ?_) (a' := ?_) #[true, true, true, true, true, true, true, true, true, true, true, true, true, false, false, false, false, false, false, false, false, false, false, false, false, false, false, false, false] rfl rfl (by kernel_rfl) (fun _ _ _ h => h) (Or.inl ⟨by rfl, ?_⟩) ?_ ?_
                      rotate_left
                      · intro w'
                        go_simp
                        with_reducible rfl
                      rotate_left
                      · simp only [Act.put, List.setIfInBounds_toArray, List.set_cons_zero, List.set_cons_succ, i64_w, i32_w]
                        rfl
                      refine pure_ (i := 13) (N := some 168) (v := ?_) (a' := ?_) #[true, true, true, true, true, true, true, true, true, true, true, true, true, true, false, false, false, false, false, false, false, false, false, false, false, false, false, false, false] rfl rfl (by kernel_rfl) (fun _ _ _ h => h) (Or.inl ⟨by rfl, ?_⟩) ?_ ?_
                      rotate_left
                      · intro w'
                        go_simp
                        with_reducible rfl
                      rotate_left
                      · simp only [Act.put, List.setIfInBounds_toArray, List.set_cons_zero, List.set_cons_succ, i64_w, i32_w]
                        rfl
                      refine pure_ (i := 14) (N := some 169) (v := ?_) (a' := ?_) #[true, true, true, true, true, true, true, true, true, true, true, true, true, true, true, false, false, false, false, false, false, false, false, false, false, false, false, false, false] rfl rfl (by kernel_rfl) (fun _ _ _ h => h) (Or.inl ⟨by rfl, ?_⟩) ?_ ?_
                      rotate_left
                      · intro w'
                        go_simp
                        with_reducible rfl
                      rotate_left
                      · simp only [Act.put, List.setIfInBounds_toArray, List.set_cons_zero, List.set_cons_succ, i64_w, i32_w]
                        rfl
                      refine pure_ (i := 15) (N := some 170) (v := ?_) (a' := ?_) #[true, true, true, true, true, true, true, true, true, true, true, true, true, true, true, true, false, false, false, false, false, false, false, false, false, false, false, false, false] rfl rfl (by kernel_rfl) (fun _ _ _ h => h) (Or.inl ⟨by rfl, ?_⟩) ?_ ?_
                      rotate_left
                      · intro w'
                        go_simp
                        with_reducible rfl
                      rotate_left
                      · simp only [Act.put, List.setIfInBounds_toArray, List.set_cons_zero, List.set_cons_succ, i64_w, i32_w]
                        rfl
                      refine pure_ (i := 16) (N := some 171) (v := undef) (a' := ?_) #[true, true, true, true, true, true, true, true, true, true, true, true, true, true, true, true, true, false, false, false, false, false, false, false, false, false, false, false, false] rfl rfl (by kernel_rfl) (fun _ _ _ h => h) (Or.inr ⟨by rfl, rfl⟩) ?_ ?_
                      rotate_left
                      · simp only [Act.put, List.setIfInBounds_toArray, List.set_cons_zero, List.set_cons_succ, i64_w, i32_w]
                        rfl
                      refine pure_ (i := 17) (N := some 172) (v := undef) (a' := ?_) #[true, true, true, true, true, true, true, true, true, true, true, true, true, true, true, true, true, true, false, false, false, false, false, false, false, false, false, false, false] rfl rfl (by kernel_rfl) (fun _ _ _ h => h) (Or.inr ⟨by rfl, rfl⟩) ?_ ?_
                      rotate_left
                      · simp only [Act.put, List.setIfInBounds_toArray, List.set_cons_zero, List.set_cons_succ, i64_w, i32_w]
                        rfl
                      refine pure_ (i := 18) (N := some 173) (v := undef) (a' := ?_) #[true, true, true, true, true, true, true, true, true, true, true, true, true, true, true, true, true, true, true, false, false, false, false, false, false, false, false, false, false] rfl rfl (by kernel_rfl) (fun _ _ _ h => h) (Or.inr ⟨by rfl, rfl⟩) ?_ ?_
                      rotate_left
                      · simp only [Act.put, List.setIfInBounds_toArray, List.set_cons_zero, List.set_cons_succ, i64_w, i32_w]
                        rfl
                      refine pure_ (i := 19) (N := some 174) (v := undef) (a' := ?_) #[true, true, true, true, true, true, true, true, true, true, true, true, true, true, true, true, true, true, true, true, false, false, false, false, false, false, false, false, false] rfl rfl (by kernel_rfl) (fun _ _ _ h => h) (Or.inr ⟨by rfl, rfl⟩) ?_ ?_
                      rotate_left
                      · simp only [Act.put, List.setIfInBounds_toArray, List.set_cons_zero, List.set_cons_succ, i64_w, i32_w]
                        rfl
                      refine pure_ (i := 20) (N := some 175) (v := undef) (a' := ?_) #[true, true, true, true, true, true, true, true, true, true, true, true, true, true, true, true, true, true, true, true, true, false, false, false, false, false, false, false, false] rfl rfl (by kernel_rfl) (fun _ _ _ h => h) (Or.inr ⟨by rfl, rfl⟩) ?_ ?_
                      rotate_left
                      · simp only [Act.put, List.setIfInBounds_toArray, List.set_cons_zero, List.set_cons_succ, i64_w, i32_w]
                        rfl
                      refine pure_ (i := 21) (N := some 176) (v := undef) (a' := ?_) #[true, true, true, true, true, true, true, true, true, true, true, true, true, true, true, true, true, true, true, true, true, true, false, false, false, false, false, false, false] rfl rfl (by kernel_rfl) (fun _ _ _ h => h) (Or.inr ⟨by rfl, rfl⟩) ?_ ?_
                      rotate_left
                      · simp only [Act.put, List.setIfInBounds_toArray, List.set_cons_zero, List.set_cons_succ, i64_w, i32_w]
                        rfl
                      refine pure_ (i := 22) (N := some 177) (v := undef) (a' := ?_) #[true, true, true, true, true, true, true, true, true, true, true, true, true, true, true, true, true, true, true, true, true, true, true, false, false, false, false, false, false] rfl rfl (by kernel_rfl) (fun _ _ _ h => h) (Or.inr ⟨by rfl, rfl⟩) ?_ ?_
                      rotate_left
                      · simp only [Act.put, List.setIfInBounds_toArray, List.set_cons_zero, List.set_cons_succ, i64_w, i32_w]
                        rfl
                      refine pure_ (i := 23) (N := some 178) (v := undef) (a' := ?_) #[true, true, true, true, true, true, true, true, true, true, true, true, true, true, true, true, true, true, true, true, true, true, true, true, false, false, false, false, false] rfl rfl (by kernel_rfl) (fun _ _ _ h => h) (Or.inr ⟨by rfl, rfl⟩) ?_ ?_
                      rotate_left
                      · simp only [Act.put, List.setIfInBounds_toArray, List.set_cons_zero, List.set_cons_succ, i64_w, i32_w]
                        rfl
                      refine pure_ (i := 24) (N := some 179) (v := undef) (a' := ?_) #[true, true, true, true, true, true, true, true, true, true, true, true, true, true, true, true, true, true, true, true, true, true, true, true, true, false, false, false, false] rfl rfl (by kernel_rfl) (fun _ _ _ h => h) (Or.inr ⟨by rfl, rfl⟩) ?_ ?_
                      rotate_left
                      · simp only [Act.put, List.setIfInBounds_toArray, List.set_cons_zero, List.set_cons_succ, i64_w, i32_w]
                        rfl
                      refine pure_ (i := 25) (N := some 180) (v := undef) (a' := ?_) #[true, true, true, true, true, true, true, true, true, true, true, true, true, true, true, true, true, true, true, true, true, true, true, true, true, true, false, false, false] rfl rfl (by kernel_rfl) (fun _ _ _ h => h) (Or.inr ⟨by rfl, rfl⟩) ?_ ?_
                      rotate_left
                      · simp only [Act.put, List.setIfInBounds_toArray, List.set_cons_zero, List.set_cons_succ, i64_w, i32_w]
                        rfl
                      refine pure_ (i := 26) (N := some 181) (v := undef) (a' := ?_) #[true, true, true, true, true, true, true, true, true, true, true, true, true, true, true, true, true, true, true, true, true, true, true, true, true, true, true, false, false] rfl rfl (by kernel_rfl) (fun _ _ _ h => h) (Or.inr ⟨by rfl, rfl⟩) ?_ ?_
                      rotate_left
                      · simp only [Act.put, List.setIfInBounds_toArray, List.set_cons_zero, List.set_cons_succ, i64_w, i32_w]
                        rfl
                      refine pure_ (i := 27) (N := some 182) (v := ?_) (a' := ?_) #[true, true, true, true, true, true, true, true, true, true, true, true, true, true, true, true, true, true, true, true, true, true, true, true, true, true, true, true, false] rfl rfl (by kernel_rfl) (fun _ _ _ h => h) (Or.inl ⟨by rfl, ?_⟩) ?_ ?_
                      rotate_left
                      · intro w'
                        go_simp
                        with_reducible rfl
                      rotate_left
                      · simp only [Act.put, List.setIfInBounds_toArray, List.set_cons_zero, List.set_cons_succ, i64_w, i32_w]
                        rfl
                      refine pure_ (i := 28) (N := some 183) (v := ?_) (a' := ?_) #[true, true, true, true, true, true, true, true, true, true, true, true, true, true, true, true, true, true, true, true, true, true, true, true, true, true, true, true, true] rfl rfl (by kernel_rfl) (fun _ _ _ h => h) (Or.inl ⟨by rfl, ?_⟩) ?_ ?_
                      rotate_left
                      · intro w'
                        go_simp
                        with_reducible rfl
                      rotate_left
                      · simp only [Act.put, List.setIfInBounds_toArray, List.set_cons_zero, List.set_cons_succ, i64_w, i32_w]
                        rfl
                      refine done_ (by kernel_rfl) ?_

                      all_goals go_wp2
                      all_goals go_meet
                      all_goals exact ⟨L, l, ks, ds, rfl, by omega, hnum, Lib.hid (hst4.out.step (by exact (by repeat (first | exact Ext.refl _ | assumption | refine Ext.alloc ?_ _ | refine Ext.drew ?_ | refine Ext.drewN ?_ _ | refine Ext.setCell ?_ (by first | omega | (simp; done) | (simp; omega)) _ | refine Ext.trans ?_ (by assumption)))))⟩
                  · rw [hk]
                    have hil : i < l.length := by
                      have h5 := Hm.out
                      rw [hnum.out.ek, List.length_map] at h5
                      omega
                    obtain ⟨_, e2, _⟩ := find_yes hnum.out.keys hil (by rw [← hnum.out.ek]; exact hki)
                    obtain ⟨Ay, cy, ey, _⟩ := hst4.out.hs l[i] (List.getElem_mem hil)
                    obtain ⟨d, hd⟩ : ∃ d, l[i].2.1 = d := ⟨_, rfl⟩
                    have hds : d.size ≤ 140737488355328 := by
                      have := hnum.out.sz l[i] (List.getElem_mem hil)
                      rwa [hd] at this
                    have hf : findH l x.id = some (d, .slice Ay 2 cy) := by rw [e2, ← hd, ← ey]
                    obtain ⟨g8, rfl, _⟩ := own_slice22 Hr84.out (by omega)
                    have c8 : wr.cell? ⟨g8, i, none⟩ = some (.string d) := (Hr84.out.cellAt i (by omega)).trans (by rw [hnum.out.ed, List.map_map, List.getElem?_map, List.getElem?_eq_getElem hil]; simp [hd])
                    have hi0 : ¬ (i : Int) < 0 := by omega
                    have hij' : (i : Int) < (j : Int) := by omega
                    clear hki hk hd ey e2
                    by_cases hneg : x.at_ < 0 ∨ x.n < 0
                    · as_aux_lemma =>
                        have HR := fun W h => read_neg tb bm L (L : Int) x.id x.at_ x.n l d Ay 2 cy W h hwf hf hneg
                        clear hf hds c8
                        go_upto_region 35 with (go_at_call 7; refine (HR _ (Hpt.out.ext (by exact (by repeat (first | exact Ext.refl _ | assumption | refine Ext.alloc ?_ _ | refine Ext.drew ?_ | refine Ext.drewN ?_ _ | refine Ext.setCell ?_ (by first | omega | (simp; done) | (simp; omega)) _ | refine Ext.trans ?_ (by assumption)))))).mono ?_; rintro e W5 ⟨a5, rfl, hEr, hE5⟩; have HC5 := code22 hEr (HLr.out.ext hE5); obtain ⟨⟨z0, _⟩, ⟨z1, _⟩, ⟨z2, _⟩, ⟨z3, _⟩, ⟨z4, _⟩⟩ := (hX4.ext hE5).five)
                        clear y0 y1 y2 y3 y4 hEr HR
                        by_cases ha : x.at_ < 0
                        · as_aux_lemma =>
                            clear hneg
                            go_upto_region 40 with fail
                            refine start_ (n := 29) (S := fun w' => True) (ds := []) #[false, false, false, false, false, false, false, false, false, false, false, false, false, false, false, false, false, false, false, false, false, false, false, false, false, false, false, false, false] (by kernel_rfl) rfl rfl trivial (fun hHeld => ?_)
                            refine pure_ (i := 0) (N := some 155) (v := ?_) (a' := ?_) #[true, false, false, false, false, false, false, false, false, false, false, false, false, false, false, false, false, false, false, false, false, false, false, false, false, false, false, false, false] rfl rfl (by kernel_rfl) (fun _ _ _ h => h) (Or.inl ⟨by rfl, ?_⟩) ?_ ?_
                            rotate_left
                            · intro w'
                              go_simp
                              with_reducible rfl
                            rotate_left
                            · simp only [Act.put, List.setIfInBounds_toArray, List.set_cons_zero, List.set_cons_succ, i64_w, i32_w]
                              rfl
                            refine pure_ (i := 2) (N := some 157) (v := ?_) (a' := ?_) #[true, false, true, false, false, false, false, false, false, false, false, false, false, false, false, false, false, false, false, false, false, false, false, false, false, false, false, false, false] rfl rfl (by kernel_rfl) (fun _ _ _ h => h) (Or.inl ⟨by rfl, ?_⟩) ?_ ?_
                            rotate_left
                            · intro w'
                              go_simp
                              with_reducible rfl
                            rotate_left
                            · simp only [Act.put, List.setIfInBounds_toArray, List.set_cons_zero, List.set_cons_succ, i64_w, i32_w]
                              rfl
                            refine one_ (i := 1) (N := some 156) #[true, true, true, false, false, false, false, false, false, false, false, false, false, false, false, false, false, false, false, false, false, false, false, false, false, false, false, false, false] rfl rfl (by kernel_rfl) (by decide) (fun K hK => ?_)
                            refine goes_ Tryz.func8 (by kernel_rfl) rfl #[.iface 86 (.pointer (some ⟨a5, 0, none⟩))] (by rfl) rfl rfl (by simp only [List.map_toArray, List.map_cons, List.map_nil]; rfl) ?_
                            with_reducible refine (HC5 _ (by repeat (first | exact Ext.refl _ | assumption | refine Ext.alloc ?_ _ | refine Ext.drew ?_ | refine Ext.drewN ?_ _ | refine Ext.setCell ?_ (by first | omega | (simp; done) | (simp; omega)) _ | refine Ext.trans ?_ (by assumption)))).mono ?_
                            rintro e W6 ⟨rfl, hE6⟩
                            refine ⟨_, rfl, ?_⟩
                            refine hK.out _ _ trivial (fun hHeld => ?_)
                            clear hK K
                            refine norm_ (a' := ?_) ?_ ?_
                            rotate_left
                            · show Act.put _ (some 156) _ = _
                              simp only [Act.put, List.setIfInBounds_toArray, List.set_cons_zero, List.set_cons_succ, i64_w, i32_w]
                              rfl
                            refine pure_ (i := 3) (N := some 158) (v := ?_) (a' := ?_) #[true, true, true, true, false, false, false, false, false, false, false, false, false, false, false, false, false, false, false, false, false, false, false, false, false, false, false, false, false] rfl rfl (by kernel_rfl) (fun _ _ _ h => h) (Or.inl ⟨by rfl, ?_⟩) ?_ ?_
                            rotate_left
                            · intro w'
                              go_simp
                              with_reducible rfl
                            rotate_left
                            · simp only [Act.put, List.setIfInBounds_toArray, List.set_cons_zero, List.set_cons_succ, i64_w, i32_w]
                              rfl
                            refine pure_ (i := 4) (N := some 159) (v := ?_) (a' := ?_) #[true, true, true, true, true, false, false, false, false, false, false, false, false, false, false, false, false, false, false, false, false, false, false, false, false, false, false, false, false] rfl rfl (by kernel_rfl) (fun _ _ _ h => h) (Or.inl ⟨by rfl, ?_⟩) ?_ ?_
                            rotate_left
                            · intro w'
                              go_simp
                              with_reducible rfl
                            rotate_left
                            · simp only [Act.put, List.setIfInBounds_toArray, List.set_cons_zero, List.set_cons_succ, i64_w, i32_w]
                              rfl
                            refine pure_ (i := 5) (N := some 160) (v := ?_) (a' := ?_) #[true, true, true, true, true, true, false, false, false, false, false, false, false, false, false, false, false, false, false, false, false, false, false, false, false, false, false, false, false] rfl rfl (by kernel_rfl) (fun _ _ _ h => h) (Or.inl ⟨by rfl, ?_⟩) ?_ ?_
                            rotate_left
                            · intro w'
                              go_simp
                              with_reducible rfl
                            rotate_left
                            · simp only [Act.put, List.setIfInBounds_toArray, List.set_cons_zero, List.set_cons_succ, i64_w, i32_w]
                              rfl
                            refine pure_ (i := 6) (N := some 161) (v := ?_) (a' := ?_) #[true, true, true, true, true, true, true, false, false, false, false, false, false, false, false, false, false, false, false, false, false, false, false, false, false, false, false, false, false] rfl rfl (by kernel_rfl) (fun _ _ _ h => h) (Or.inl ⟨by rfl, ?_⟩) ?_ ?_
                            rotate_left
                            · intro w'
                              go_simp
                              with_reducible rfl
                            rotate_left
                            · simp only [Act.put, List.setIfInBounds_toArray, List.set_cons_zero, List.set_cons_succ, i64_w, i32_w]
                              rfl
                            refine pure_ (i := 7) (N := some 162) (v := ?_) (a' := ?_) #[true, true, true, true, true, true, true, true, false, false, false, false, false, false, false, false, false, false, false, false, false, false, false, false, false, false, false, false, false] rfl rfl (by kernel_rfl) (fun _ _ _ h => h) (Or.inl ⟨by rfl, ?_⟩) ?_ ?_
                            rotate_left
                            · intro w'
                              go_simp
                              with_reducible rfl
                            rotate_left
                            · simp only [Act.put, List.setIfInBounds_toArray, List.set_cons_zero, List.set_cons_succ, i64_w, i32_w]
                              rfl
                            refine pure_ (i := 8) (N := some 163) (v := ?_) (a' := ?_) #[true, true, true, true, true, true, true, true, true, false, false, false, false, false, false, false, false, false, false, false, false, false, false, false, false, false, false, false, false] rfl rfl (by kernel_rfl) (fun _ _ _ h => h) (Or.inl ⟨by rfl, ?_⟩) ?_ ?_
                            rotate_left
                            · intro w'
                              go_simp
                              with_reducible rfl
                            rotate_left
                            · simp only [Act.put, List.setIfInBounds_toArray, List.set_cons_zero, List.set_cons_succ, i64_w, i32_w]
                              rfl
                            refine pure_ (i := 9) (N := some 164) (v := ?_) (a' := ?_) #[true, true, true, true, true, true, true, true, true, true, false, false, false, false, false, false, false, false, false, false, false, false, false, false, false, false, false, false, false] rfl rfl (by kernel_rfl) (fun _ _ _ h => h) (Or.inl ⟨by rfl, ?_⟩) ?_ ?_
                            rotate_left
                            · intro w'
                              go_simp
                              with_reducible rfl
                            rotate_left
                            · simp only [Act.put, List.setIfInBounds_toArray, List.set_cons_zero, List.set_cons_succ, i64_w, i32_w]
                              rfl
                            refine pure_ (i := 10) (N := some 165) (v := ?_) (a' := ?_) #[true, true, true, true, true, true, true, true, true, true, true, false, false, false, false, false, false, false, false, false, false, false, false, false, false, false, false, false, false] rfl rfl (by kernel_rfl) (fun _ _ _ h => h) (Or.inl ⟨by rfl, ?_⟩) ?_ ?_
                            rotate_left
                            · intro w'
                              go_simp
                              with_reducible rfl
                            rotate_left
                            · simp only [Act.put, List.setIfInBounds_toArray, List.set_cons_zero, List.set_cons_succ, i64_w, i32_w]
                              rfl
                            refine pure_ (i := 11) (N := some 166) (v := ?_) (a' := ?_) #[true, true, true, true, true, true, true, true, true, true, true, true, false, false, false, false, false, false, false, false, false, false, false, false, false, false, false, false, false] rfl rfl (by kernel_rfl) (fun _ _ _ h => h) (Or.inl ⟨by rfl, ?_⟩) ?_ ?_
                            rotate_left
                            · intro w'
                              go_simp
                              with_reducible rfl
                            rotate_left
                            · simp only [Act.put, List.setIfInBounds_toArray, List.set_cons_zero, List.set_cons_succ, i64_w, i32_w]
                              rfl
                            refine pure_ (i := 12) (N := some 167) (v := ?_) (a' := ?_) #[true, true, true, true, true, true, true, true, true, true, true, true, true, false, false, false, false, false, false, false, false, false, false, false, false, false, false, false, false] rfl rfl (by kernel_rfl) (fun _ _ _ h => h) (Or.inl ⟨by rfl, ?_⟩) ?_ ?_
                            rotate_left
                            · intro w'
                              go_simp
                              with_reducible rfl
                            rotate_left
                            · simp only [Act.put, List.setIfInBounds_toArray, List.set_cons_zero, List.set_cons_succ, i64_w, i32_w]
                              rfl
                            refine pure_ (i := 13) (N := some 168) (v := ?_) (a' := ?_) #[true, true, true, true, true, true, true, true, true, true, true, true, true, true, false, false, false, false, false, false, false, false, false, false, false, false, false, false, false] rfl rfl (by kernel_rfl) (fun _ _ _ h => h) (Or.inl ⟨by rfl, ?_⟩) ?_ ?_
                            rotate_left
                            · intro w'
                              go_simp
                              with_reducible rfl
                            rotate_left
                            · simp only [Act.put, List.setIfInBounds_toArray, List.set_cons_zero, List.set_cons_succ, i64_w, i32_w]
                              rfl
                            refine pure_ (i := 14) (N := some 169) (v := ?_) (a' := ?_) #[true, true, true, true, true, true, true, true, true, true, true, true, true, true, true, false, false, false, false, false, false, false, false, false, false, false, false, false, false] rfl rfl (by kernel_rfl) (fun _ _ _ h => h) (Or.inl ⟨by rfl, ?_⟩) ?_ ?_
                            rotate_left
                            · intro w'
                              go_simp
                              with_reducible rfl
                            rotate_left
                            · simp only [Act.put, List.setIfInBounds_toArray, List.set_cons_zero, List.set_cons_succ, i64_w, i32_w]
                              rfl
                            refine pure_ (i := 15) (N := some 170) (v := ?_) (a' := ?_) #[true, true, true, true, true, true, true, true, true, true, true, true, true, true, true, true, false, false, false, false, false, false, false, false, false, false, false, false, false] rfl rfl (by kernel_rfl) (fun _ _ _ h => h) (Or.inl ⟨by rfl, ?_⟩) ?_ ?_
                            rotate_left
                            · intro w'
                              go_simp
                              with_reducible rfl
                            rotate_left
                            · simp only [Act.put, List.setIfInBounds_toArray, List.set_cons_zero, List.set_cons_succ, i64_w, i32_w]
                              rfl
                            refine pure_ (i := 16) (N := some 171) (v := undef) (a' := ?_) #[true, true, true, true, true, true, true, true, true, true, true, true, true, true, true, true, true, false, false, false, false, false, false, false, false, false, false, false, false] rfl rfl (by kernel_rfl) (fun _ _ _ h => h) (Or.inr ⟨by rfl, rfl⟩) ?_ ?_
                            rotate_left
                            · simp only [Act.put, List.setIfInBounds_toArray, List.set_cons_zero, List.set_cons_succ, i64_w, i32_w]
                              rfl
                            refine pure_ (i := 17) (N := some 172) (v := undef) (a' := ?_) #[true, true, true, true, true, true, true, true, true, true, true, true, true, true, true, true, true, true, false, false, false, false, false, false, false, false, false, false, false] rfl rfl (by kernel_rfl) (fun _ _ _ h => h) (Or.inr ⟨by rfl, rfl⟩) ?_ ?_
                            rotate_left
                            · simp only [Act.put, List.setIfInBounds_toArray, List.set_cons_zero, List.set_cons_succ, i64_w, i32_w]
                              rfl
                            refine pure_ (i := 18) (N := some 173) (v := undef) (a' := ?_) #[true, true, true, true, true, true, true, true, true, true, true, true, true, true, true, true, true, true, true, false, false, false, false, false, false, false, false, false, false] rfl rfl (by kernel_rfl) (fun _ _ _ h => h) (Or.inr ⟨by rfl, rfl⟩) ?_ ?_
                            rotate_left
                            · simp only [Act.put, List.setIfInBounds_toArray, List.set_cons_zero, List.set_cons_succ, i64_w, i32_w]
                              rfl
                            refine pure_ (i := 19) (N := some 174) (v := undef) (a' := ?_) #[true, true, true, true, true, true, true, true, true, true, true, true, true, true, true, true, true, true, true, true, false, false, false, false, false, false, false, false, false] rfl rfl (by kernel_rfl) (fun _ _ _ h => h) (Or.inr ⟨by rfl, rfl⟩) ?_ ?_
                            rotate_left
                            · simp only [Act.put, List.setIfInBounds_toArray, List.set_cons_zero, List.set_cons_succ, i64_w, i32_w]
                              rfl
                            refine pure_ (i := 20) (N := some 175) (v := undef) (a' := ?_) #[true, true, true, true, true, true, true, true, true, true, true, true, true, true, true, true, true, true, true, true, true, false, false, false, false, false, false, false, false] rfl rfl (by kernel_rfl) (fun _ _ _ h => h) (Or.inr ⟨by rfl, rfl⟩) ?_ ?_
                            rotate_left
                            · simp only [Act.put, List.setIfInBounds_toArray, List.set_cons_zero, List.set_cons_succ, i64_w, i32_w]
                              rfl
                            refine pure_ (i := 21) (N := some 176) (v := undef) (a' := ?_) #[true, true, true, true, true, true, true, true, true, true, true, true, true, true, true, true, true, true, true, true, true, true, false, false, false, false, false, false, false] rfl rfl (by kernel_rfl) (fun _ _ _ h => h) (Or.inr ⟨by rfl, rfl⟩) ?_ ?_
                            rotate_left
                            · simp only [Act.put, List.setIfInBounds_toArray, List.set_cons_zero, List.set_cons_succ, i64_w, i32_w]
                              rfl
                            refine pure_ (i := 22) (N := some 177) (v := undef) (a' := ?_) #[true, true, true, true, true, true, true, true, true, true, true, true, true, true, true, true, true, true, true, true, true, true, true, false, false, false, false, false, false] rfl rfl (by kernel_rfl) (fun _ _ _ h => h) (Or.inr ⟨by rfl, rfl⟩) ?_ ?_
                            rotate_left
                            · simp only [Act.put, List.setIfInBounds_toArray, List.set_cons_zero, List.set_cons_succ, i64_w, i32_w]
                              rfl
                            refine pure_ (i := 23) (N := some 178) (v := undef) (a' := ?_) #[true, true, true, true, true, true, true, true, true, true, true, true, true, true, true, true, true, true, true, true, true, true, true, true, false, false, false, false, false] rfl rfl (by kernel_rfl) (fun _ _ _ h => h) (Or.inr ⟨by rfl, rfl⟩) ?_ ?_
                            rotate_left
                            · simp only [Act.put, List.setIfInBounds_toArray, List.set_cons_zero, List.set_cons_succ, i64_w, i32_w]
                              rfl
                            refine pure_ (i := 24) (N := some 179) (v := undef) (a' := ?_) #[true, true, true, true, true, true, true, true, true, true, true, true, true, true, true, true, true, true, true, true, true, true, true, true, true, false, false, false, false] rfl rfl (by kernel_rfl) (fun _ _ _ h => h) (Or.inr ⟨by rfl, rfl⟩) ?_ ?_
                            rotate_left
                            · simp only [Act.put, List.setIfInBounds_toArray, List.set_cons_zero, List.set_cons_succ, i64_w, i32_w]
                              rfl
                            refine pure_ (i := 25) (N := some 180) (v := undef) (a' := ?_) #[true, true, true, true, true, true, true, true, true, true, true, true, true, true, true, true, true, true, true, true, true, true, true, true, true, true, false, false, false] rfl rfl (by kernel_rfl) (fun _ _ _ h => h) (Or.inr ⟨by rfl, rfl⟩) ?_ ?_
                            rotate_left
                            · simp only [Act.put, List.setIfInBounds_toArray, List.set_cons_zero, List.set_cons_succ, i64_w, i32_w]
                              rfl
                            refine pure_ (i := 26) (N := some 181) (v := undef) (a' := ?_) #[true, true, true, true, true, true, true, true, true, true, true, true, true, true, true, true, true, true, true, true, true, true, true, true, true, true, true, false, false] rfl rfl (by kernel_rfl) (fun _ _ _ h => h) (Or.inr ⟨by rfl, rfl⟩) ?_ ?_
                            rotate_left
                            · simp only [Act.put, List.setIfInBounds_toArray, List.set_cons_zero, List.set_cons_succ, i64_w, i32_w]
                              rfl
                            refine pure_ (i := 27) (N := some 182) (v := ?_) (a' := ?_) #[true, true, true, true, true, true, true, true, true, true, true, true, true, true, true, true, true, true, true, true, true, true, true, true, true, true, true, true, false] rfl rfl (by kernel_rfl) (fun _ _ _ h => h) (Or.inl ⟨by rfl, ?_⟩) ?_ ?_
                            rotate_left
                            · intro w'
                              go_simp
                              with_reducible rfl
                            rotate_left
                            · simp only [Act.put, List.setIfInBounds_toArray, List.set_cons_zero, List.set_cons_succ, i64_w, i32_w]
                              rfl
                            refine pure_ (i := 28) (N := some 183) (v := ?_) (a' := ?_) #[true, true, true, true, true, true, true, true, true, true, true, true, true, true, true, true, true, true, true, true, true, true, true, true, true, true, true, true, true] rfl rfl (by kernel_rfl) (fun _ _ _ h => h) (Or.inl ⟨by rfl, ?_⟩) ?_ ?_
                            rotate_left
                            · intro w'
                              go_simp
                              with_reducible rfl
                            rotate_left
                            · simp only [Act.put, List.setIfInBounds_toArray, List.set_cons_zero, List.set_cons_succ, i64_w, i32_w]
                              rfl
                            refine done_ (by kernel_rfl) ?_

                            all_goals go_wp2
                            all_goals go_meet
                            all_goals exact ⟨L, l, ks, ds, rfl, by omega, hnum, Lib.hid (hst4.out.step (by exact (by repeat (first | exact Ext.refl _ | assumption | refine Ext.alloc ?_ _ | refine Ext.drew ?_ | refine Ext.drewN ?_ _ | refine Ext.setCell ?_ (by first | omega | (simp; done) | (simp; omega)) _ | refine Ext.trans ?_ (by assumption)))))⟩
                        · have hb : x.n < 0 := hneg.resolve_left ha
                          clear hneg
                          go_upto_region 40 with fail
                          refine start_ (n := 29) (S := fun w' => True) (ds := []) #[false, false, false, false, false, false, false, false, false, false, false, false, false, false, false, false, false, false, false, false, false, false, false, false, false, false, false, false, false] (by kernel_rfl) rfl rfl trivial (fun hHeld => ?_)
                          refine pure_ (i := 0) (N := some 155) (v := ?_) (a' := ?_) #[true, false, false, false, false, false, false, false, false, false, false, false, false, false, false, false, false, false, false, false, false, false, false, false, false, false, false, false, false] rfl rfl (by kernel_rfl) (fun _ _ _ h => h) (Or.inl ⟨by rfl, ?_⟩) ?_ ?_
                          rotate_left
                          · intro w'
                            go_simp
                            with_reducible rfl
                          rotate_left
                          · simp only [Act.put, List.setIfInBounds_toArray, List.set_cons_zero, List.set_cons_succ, i64_w, i32_w]
                            rfl
                          refine pure_ (i := 2) (N := some 157) (v := ?_) (a' := ?_) #[true, false, true, false, false, false, false, false, false, false, false, false, false, false, false, false, false, false, false, false, false, false, false, false, false, false, false, false, false] rfl rfl (by kernel_rfl) (fun _ _ _ h => h) (Or.inl ⟨by rfl, ?_⟩) ?_ ?_
                          rotate_left
                          · intro w'
                            go_simp
                            with_reducible rfl
                          rotate_left
                          · simp only [Act.put, List.setIfInBounds_toArray, List.set_cons_zero, List.set_cons_succ, i64_w, i32_w]
                            rfl
                          refine one_ (i := 1) (N := some 156) #[true, true, true, false, false, false, false, false, false, false, false, false, false, false, false, false, false, false, false, false, false, false, false, false, false, false, false, false, false] rfl rfl (by kernel_rfl) (by decide) (fun K hK => ?_)
                          refine goes_ Tryz.func8 (by kernel_rfl) rfl #[.iface 86 (.pointer (some ⟨a5, 0, none⟩))] (by rfl) rfl rfl (by simp only [List.map_toArray, List.map_cons, List.map_nil]; rfl) ?_
                          with_reducible refine (HC5 _ (by repeat (first | exact Ext.refl _ | assumption | refine Ext.alloc ?_ _ | refine Ext.drew ?_ | refine Ext.drewN ?_ _ | refine Ext.setCell ?_ (by first | omega | (simp; done) | (simp; omega)) _ | refine Ext.trans ?_ (by assumption)))).mono ?_
                          rintro e W6 ⟨rfl, hE6⟩
                          refine ⟨_, rfl, ?_⟩
                          refine hK.out _ _ trivial (fun hHeld => ?_)
                          clear hK K
                          refine norm_ (a' := ?_) ?_ ?_
                          rotate_left
                          · show Act.put _ (some 156) _ = _
                            simp only [Act.put, List.setIfInBounds_toArray, List.set_cons_zero, List.set_cons_succ, i64_w, i32_w]
                            rfl
                          refine pure_ (i := 3) (N := some 158) (v := ?_) (a' := ?_) #[true, true, true, true, false, false, false, false, false, false, false, false, false, false, false, false, false, false, false, false, false, false, false, false, false, false, false, false, false] rfl rfl (by kernel_rfl) (fun _ _ _ h => h) (Or.inl ⟨by rfl, ?_⟩) ?_ ?_
                          rotate_left
                          · intro w'
                            go_simp
                            with_reducible rfl
                          rotate_left
                          · simp only [Act.put, List.setIfInBounds_toArray, List.set_cons_zero, List.set_cons_succ, i64_w, i32_w]
                            rfl
                          refine pure_ (i := 4) (N := some 159) (v := ?_) (a' := ?_) #[true, true, true, true, true, false, false, false, false, false, false, false, false, false, false, false, false, false, false, false, false, false, false, false, false, false, false, false, false] rfl rfl (by kernel_rfl) (fun _ _ _ h => h) (Or.inl ⟨by rfl, ?_⟩) ?_ ?_
                          rotate_left
                          · intro w'
                            go_simp
                            with_reducible rfl
                          rotate_left
                          · simp only [Act.put, List.setIfInBounds_toArray, List.set_cons_zero, List.set_cons_succ, i64_w, i32_w]
                            rfl
                          refine pure_ (i := 5) (N := some 160) (v := ?_) (a' := ?_) #[true, true, true, true, true, true, false, false, false, false, false, false, false, false, false, false, false, false, false, false, false, false, false, false, false, false, false, false, false] rfl rfl (by kernel_rfl) (fun _ _ _ h => h) (Or.inl ⟨by rfl, ?_⟩) ?_ ?_
                          rotate_left
                          · intro w'
                            go_simp
                            with_reducible rfl
                          rotate_left
                          · simp only [Act.put, List.setIfInBounds_toArray, List.set_cons_zero, List.set_cons_succ, i64_w, i32_w]
                            rfl
                          refine pure_ (i := 6) (N := some 161) (v := ?_) (a' := ?_) #[true, true, true, true, true, true, true, false, false, false, false, false, false, false, false, false, false, false, false, false, false, false, false, false, false, false, false, false, false] rfl rfl (by kernel_rfl) (fun _ _ _ h => h) (Or.inl ⟨by rfl, ?_⟩) ?_ ?_
                          rotate_left
                          · intro w'
                            go_simp
                            with_reducible rfl
                          rotate_left
                          · simp only [Act.put, List.setIfInBounds_toArray, List.set_cons_zero, List.set_cons_succ, i64_w, i32_w]
                            rfl
                          refine pure_ (i := 7) (N := some 162) (v := ?_) (a' := ?_) #[true, true, true, true, true, true, true, true, false, false, false, false, false, false, false, false, false, false, false, false, false, false, false, false, false, false, false, false, false] rfl rfl (by kernel_rfl) (fun _ _ _ h => h) (Or.inl ⟨by rfl, ?_⟩) ?_ ?_
                          rotate_left
                          · intro w'
                            go_simp
                            with_reducible rfl
                          rotate_left
                          · simp only [Act.put, List.setIfInBounds_toArray, List.set_cons_zero, List.set_cons_succ, i64_w, i32_w]
                            rfl
                          refine pure_ (i := 8) (N := some 163) (v := ?_) (a' := ?_) #[true, true, true, true, true, true, true, true, true, false, false, false, false, false, false, false, false, false, false, false, false, false, false, false, false, false, false, false, false] rfl rfl (by kernel_rfl) (fun _ _ _ h => h) (Or.inl ⟨by rfl, ?_⟩) ?_ ?_
                          rotate_left
                          · intro w'
                            go_simp
                            with_reducible rfl
                          rotate_left
                          · simp only [Act.put, List.setIfInBounds_toArray, List.set_cons_zero, List.set_cons_succ, i64_w, i32_w]
                            rfl
                          refine pure_ (i := 9) (N := some 164) (v := ?_) (a' := ?_) #[true, true, true, true, true, true, true, true, true, true, false, false, false, false, false, false, false, false, false, false, false, false, false, false, false, false, false, false, false] rfl rfl (by kernel_rfl) (fun _ _ _ h => h) (Or.inl ⟨by rfl, ?_⟩) ?_ ?_
                          rotate_left
                          · intro w'
                            go_simp
                            with_reducible rfl
                          rotate_left
                          · simp only [Act.put, List.setIfInBounds_toArray, List.set_cons_zero, List.set_cons_succ, i64_w, i32_w]
                            rfl
                          refine pure_ (i := 10) (N := some 165) (v := ?_) (a' := ?_) #[true, true, true, true, true, true, true, true, true, true, true, false, false, false, false, false, false, false, false, false, false, false, false, false, false, false, false, false, false] rfl rfl (by kernel_rfl) (fun _ _ _ h => h) (Or.inl ⟨by rfl, ?_⟩) ?_ ?_
                          rotate_left
                          · intro w'
                            go_simp
                            with_reducible rfl
                          rotate_left
                          · simp only [Act.put, List.setIfInBounds_toArray, List.set_cons_zero, List.set_cons_succ, i64_w, i32_w]
                            rfl
                          refine pure_ (i := 11) (N := some 166) (v := ?_) (a' := ?_) #[true, true, true, true, true, true, true, true, true, true, true, true, false, false, false, false, false, false, false, false, false, false, false, false, false, false, false, false, false] rfl rfl (by kernel_rfl) (fun _ _ _ h => h) (Or.inl ⟨by rfl, ?_⟩) ?_ ?_
                          rotate_left
                          · intro w'
                            go_simp
                            with_reducible rfl
                          rotate_left
                          · simp only [Act.put, List.setIfInBounds_toArray, List.set_cons_zero, List.set_cons_succ, i64_w, i32_w]
                            rfl
                          refine pure_ (i := 12) (N := some 167) (v := ?_) (a' := ?_) #[true, true, true, true, true, true, true, true, true, true, true, true, true, false, false, false, false, false, false, false, false, false, false, false, false, false, false, false, false] rfl rfl (by kernel_rfl) (fun _ _ _ h => h) (Or.inl ⟨by rfl, ?_⟩) ?_ ?_
                          rotate_left
                          · intro w'
                            go_simp
                            with_reducible rfl
                          rotate_left
                          · simp only [Act.put, List.setIfInBounds_toArray, List.set_cons_zero, List.set_cons_succ, i64_w, i32_w]
                            rfl
                          refine pure_ (i := 13) (N := some 168) (v := ?_) (a' := ?_) #[true, true, true, true, true, true, true, true, true, true, true, true, true, true, false, false, false, false, false, false, false, false, false, false, false, false, false, false, false] rfl rfl (by kernel_rfl) (fun _ _ _ h => h) (Or.inl ⟨by rfl, ?_⟩) ?_ ?_
                          rotate_left
                          · intro w'
                            go_simp
                            with_reducible rfl
                          rotate_left
                          · simp only [Act.put, List.setIfInBounds_toArray, List.set_cons_zero, List.set_cons_succ, i64_w, i32_w]
                            rfl
                          refine pure_ (i := 14) (N := some 169) (v := ?_) (a' := ?_) #[true, true, true, true, true, true, true, true, true, true, true, true, true, true, true, false, false, false, false, false, false, false, false, false, false, false, false, false, false] rfl rfl (by kernel_rfl) (fun _ _ _ h => h) (Or.inl ⟨by rfl, ?_⟩) ?_ ?_
                          rotate_left
                          · intro w'
                            go_simp
                            with_reducible rfl
                          rotate_left
                          · simp only [Act.put, List.setIfInBounds_toArray, List.set_cons_zero, List.set_cons_succ, i64_w, i32_w]
                            rfl
                          refine pure_ (i := 15) (N := some 170) (v := ?_) (a' := ?_) #[true, true, true, true, true, true, true, true, true, true, true, true, true, true, true, true, false, false, false, false, false, false, false, false, false, false, false, false, false] rfl rfl (by kernel_rfl) (fun _ _ _ h => h) (Or.inl ⟨by rfl, ?_⟩) ?_ ?_
                          rotate_left
                          · intro w'
                            go_simp
                            with_reducible rfl
                          rotate_left
                          · simp only [Act.put, List.setIfInBounds_toArray, List.set_cons_zero, List.set_cons_succ, i64_w, i32_w]
                            rfl
                          refine pure_ (i := 16) (N := some 171) (v := undef) (a' := ?_) #[true, true, true, true, true, true, true, true, true, true, true, true, true, true, true, true, true, false, false, false, false, false, false, false, false, false, false, false, false] rfl rfl (by kernel_rfl) (fun _ _ _ h => h) (Or.inr ⟨by rfl, rfl⟩) ?_ ?_
                          rotate_left
                          · simp only [Act.put, List.setIfInBounds_toArray, List.set_cons_zero, List.set_cons_succ, i64_w, i32_w]
                            rfl
                          refine pure_ (i := 17) (N := some 172) (v := undef) (a' := ?_) #[true, true, true, true, true, true, true, true, true, true, true, true, true, true, true, true, true, true, false, false, false, false, false, false, false, false, false, false, false] rfl rfl (by kernel_rfl) (fun _ _ _ h => h) (Or.inr ⟨by rfl, rfl⟩) ?_ ?_
                          rotate_left
                          · simp only [Act.put, List.setIfInBounds_toArray, List.set_cons_zero, List.set_cons_succ, i64_w, i32_w]
                            rfl
                          refine pure_ (i := 18) (N := some 173) (v := undef) (a' := ?_) #[true, true, true, true, true, true, true, true, true, true, true, true, true, true, true, true, true, true, true, false, false, false, false, false, false, false, false, false, false] rfl rfl (by kernel_rfl) (fun _ _ _ h => h) (Or.inr ⟨by rfl, rfl⟩) ?_ ?_
                          rotate_left
                          · simp only [Act.put, List.setIfInBounds_toArray, List.set_cons_zero, List.set_cons_succ, i64_w, i32_w]
                            rfl
                          refine pure_ (i := 19) (N := some 174) (v := undef) (a' := ?_) #[true, true, true, true, true, true, true, true, true, true, true, true, true, true, true, true, true, true, true, true, false, false, false, false, false, false, false, false, false] rfl rfl (by kernel_rfl) (fun _ _ _ h => h) (Or.inr ⟨by rfl, rfl⟩) ?_ ?_
                          rotate_left
                          · simp only [Act.put, List.setIfInBounds_toArray, List.set_cons_zero, List.set_cons_succ, i64_w, i32_w]
                            rfl
                          refine pure_ (i := 20) (N := some 175) (v := undef) (a' := ?_) #[true, true, true, true, true, true, true, true, true, true, true, true, true, true, true, true, true, true, true, true, true, false, false, false, false, false, false, false, false] rfl rfl (by kernel_rfl) (fun _ _ _ h => h) (Or.inr ⟨by rfl, rfl⟩) ?_ ?_
                          rotate_left
                          · simp only [Act.put, List.setIfInBounds_toArray, List.set_cons_zero, List.set_cons_succ, i64_w, i32_w]
                            rfl
                          refine pure_ (i := 21) (N := some 176) (v := undef) (a' := ?_) #[true, true, true, true, true, true, true, true, true, true, true, true, true, true, true, true, true, true, true, true, true, true, false, false, false, false, false, false, false] rfl rfl (by kernel_rfl) (fun _ _ _ h => h) (Or.inr ⟨by rfl, rfl⟩) ?_ ?_
                          rotate_left
                          · simp only [Act.put, List.setIfInBounds_toArray, List.set_cons_zero, List.set_cons_succ, i64_w, i32_w]
                            rfl
                          refine pure_ (i := 22) (N := some 177) (v := undef) (a' := ?_) #[true, true, true, true, true, true, true, true, true, true, true, true, true, true, true, true, true, true, true, true, true, true, true, false, false, false, false, false, false] rfl rfl (by kernel_rfl) (fun _ _ _ h => h) (Or.inr ⟨by rfl, rfl⟩) ?_ ?_
                          rotate_left
                          · simp only [Act.put, List.setIfInBounds_toArray, List.set_cons_zero, List.set_cons_succ, i64_w, i32_w]
                            rfl
                          refine pure_ (i := 23) (N := some 178) (v := undef) (a' := ?_) #[true, true, true, true, true, true, true, true, true, true, true, true, true, true, true, true, true, true, true, true, true, true, true, true, false, false, false, false, false] rfl rfl (by kernel_rfl) (fun _ _ _ h => h) (Or.inr ⟨by rfl, rfl⟩) ?_ ?_
                          rotate_left
                          · simp only [Act.put, List.setIfInBounds_toArray, List.set_cons_zero, List.set_cons_succ, i64_w, i32_w]
                            rfl
                          refine pure_ (i := 24) (N := some 179) (v := undef) (a' := ?_) #[true, true, true, true, true, true, true, true, true, true, true, true, true, true, true, true, true, true, true, true, true, true, true, true, true, false, false, false, false] rfl rfl (by kernel_rfl) (fun _ _ _ h => h) (Or.inr ⟨by rfl, rfl⟩) ?_ ?_
                          rotate_left
                          · simp only [Act.put, List.setIfInBounds_toArray, List.set_cons_zero, List.set_cons_succ, i64_w, i32_w]
                            rfl
                          refine pure_ (i := 25) (N := some 180) (v := undef) (a' := ?_) #[true, true, true, true, true, true, true, true, true, true, true, true, true, true, true, true, true, true, true, true, true, true, true, true, true, true, false, false, false] rfl rfl (by kernel_rfl) (fun _ _ _ h => h) (Or.inr ⟨by rfl, rfl⟩) ?_ ?_
                          rotate_left
                          · simp only [Act.put, List.setIfInBounds_toArray, List.set_cons_zero, List.set_cons_succ, i64_w, i32_w]
                            rfl
                          refine pure_ (i := 26) (N := some 181) (v := undef) (a' := ?_) #[true, true, true, true, true, true, true, true, true, true, true, true, true, true, true, true, true, true, true, true, true, true, true, true, true, true, true, false, false] rfl rfl (by kernel_rfl) (fun _ _ _ h => h) (Or.inr ⟨by rfl, rfl⟩) ?_ ?_
                          rotate_left
                          · simp only [Act.put, List.setIfInBounds_toArray, List.set_cons_zero, List.set_cons_succ, i64_w, i32_w]
                            rfl
                          refine pure_ (i := 27) (N := some 182) (v := ?_) (a' := ?_) #[true, true, true, true, true, true, true, true, true, true, true, true, true, true, true, true, true, true, true, true, true, true, true, true, true, true, true, true, false] rfl rfl (by kernel_rfl) (fun _ _ _ h => h) (Or.inl ⟨by rfl, ?_⟩) ?_ ?_
                          rotate_left
                          · intro w'
                            go_simp
                            with_reducible rfl
                          rotate_left
                          · simp only [Act.put, List.setIfInBounds_toArray, List.set_cons_zero, List.set_cons_succ, i64_w, i32_w]
                            rfl
                          refine pure_ (i := 28) (N := some 183) (v := ?_) (a' := ?_) #[true, true, true, true, true, true, true, true, true, true, true, true, true, true, true, true, true, true, true, true, true, true, true, true, true, true, true, true, true] rfl rfl (by kernel_rfl) (fun _ _ _ h => h) (Or.inl ⟨by rfl, ?_⟩) ?_ ?_
                          rotate_left
                          · intro w'
                            go_simp
                            with_reducible rfl
                          rotate_left
                          · simp only [Act.put, List.setIfInBounds_toArray, List.set_cons_zero, List.set_cons_succ, i64_w, i32_w]
                            rfl
                          refine done_ (by kernel_rfl) ?_

                          all_goals go_wp2
                          all_goals go_meet
                          all_goals exact ⟨L, l, ks, ds, rfl, by omega, hnum, Lib.hid (hst4.out.step (by exact (by repeat (first | exact Ext.refl _ | assumption | refine Ext.alloc ?_ _ | refine Ext.drew ?_ | refine Ext.drewN ?_ _ | refine Ext.setCell ?_ (by first | omega | (simp; done) | (simp; omega)) _ | refine Ext.trans ?_ (by assumption)))))⟩
                    · as_aux_lemma =>
                        obtain ⟨ha, hb⟩ : ¬ x.at_ < 0 ∧ ¬ x.n < 0 := by omega
                        obtain ⟨na, hna⟩ := Int.eq_ofNat_of_zero_le (show 0 ≤ x.at_ by omega)
                        obtain ⟨nb, hnb⟩ := Int.eq_ofNat_of_zero_le (show 0 ≤ x.n by omega)
                        have hwa := Hxf.out.2.2.2.2
                        have HR : ∀ W, PT W tb bm L (L : Int) l → Calls Tryz.prog 7 #[.pointer (some ⟨tb, 0, none⟩), .int .i64 x.id, .int .i64 x.at_, .int .i64 x.n] W (ReadOk (part d na nb) W) := fun W h => by
                          rw [hna, hnb]
                          exact read_yes tb bm L (L : Int) x.id na nb l d Ay 2 cy W h hwf hf
                        have HP : ∀ W, Calls Tryz.prog 9 #[.string d, .int .i64 x.at_, .int .i64 x.n] W fun e w' => e = .returned (.string (part d na nb)) ∧ Ext W w' := fun W => by
                          have hna' : na ≤ 9223372036854775807 := by
                            have := hwa.1
                            simp [Lit.wf, IntKind.min, IntKind.max, IntKind.signed, IntKind.bits] at this
                            omega
                          have hnb' : nb ≤ 9223372036854775807 := by
                            have := hwa.2
                            simp [Lit.wf, IntKind.min, IntKind.max, IntKind.signed, IntKind.bits] at this
                            omega
                          rw [hna, hnb]
                          exact part22_any d na nb W hds hna' hnb'
                        obtain ⟨pd, hpd⟩ : ∃ pd, part d na nb = pd := ⟨_, rfl⟩
                        rw [hpd] at HR HP
                        clear hf hneg hna hnb hwa hds hpd
                        go_upto_region 35 with (go_at_call 7; refine (HR _ (Hpt.out.ext (by exact (by repeat (first | exact Ext.refl _ | assumption | refine Ext.alloc ?_ _ | refine Ext.drew ?_ | refine Ext.drewN ?_ _ | refine Ext.setCell ?_ (by first | omega | (simp; done) | (simp; omega)) _ | refine Ext.trans ?_ (by assumption)))))).mono ?_; rintro e W5 ⟨rfl, hE5⟩; obtain ⟨⟨z0, _⟩, ⟨z1, _⟩, ⟨z2, _⟩, ⟨z3, _⟩, ⟨z4, _⟩⟩ := (hX4.ext hE5).five)
                        have z8 := hE5.cell c8
                        clear y0 y1 y2 y3 y4 HR c8
                        go_upto_region 40 with fail
                        refine start_ (n := 29) (S := fun w' => w'.cell? ⟨g8, i, none⟩ = some (.string d) ∧ w'.cell? ⟨xb, 3, none⟩ = some (.int .i64 x.at_) ∧ w'.cell? ⟨xb, 4, none⟩ = some (.int .i64 x.n)) (ds := []) #[false, false, false, false, false, false, false, false, false, false, false, false, false, false, false, false, false, false, false, false, false, false, false, false, false, false, false, false, false] (by kernel_rfl) rfl rfl ⟨z8, z3, z4⟩ (fun hHeld => ?_)
                        refine pure_ (i := 0) (N := some 155) (v := ?_) (a' := ?_) #[true, false, false, false, false, false, false, false, false, false, false, false, false, false, false, false, false, false, false, false, false, false, false, false, false, false, false, false, false] rfl rfl (by kernel_rfl) (fun _ _ _ h => h) (Or.inl ⟨by rfl, ?_⟩) ?_ ?_
                        rotate_left
                        · intro w'
                          go_simp
                          with_reducible rfl
                        rotate_left
                        · simp only [Act.put, List.setIfInBounds_toArray, List.set_cons_zero, List.set_cons_succ, i64_w, i32_w]
                          rfl
                        refine pure_ (i := 2) (N := some 157) (v := ?_) (a' := ?_) #[true, false, true, false, false, false, false, false, false, false, false, false, false, false, false, false, false, false, false, false, false, false, false, false, false, false, false, false, false] rfl rfl (by kernel_rfl) (fun _ _ _ h => h) (Or.inl ⟨by rfl, ?_⟩) ?_ ?_
                        rotate_left
                        · intro w'
                          go_simp
                          with_reducible rfl
                        rotate_left
                        · simp only [Act.put, List.setIfInBounds_toArray, List.set_cons_zero, List.set_cons_succ, i64_w, i32_w]
                          rfl
                        refine one_ (i := 1) (N := some 156) #[true, true, true, false, false, false, false, false, false, false, false, false, false, false, false, false, false, false, false, false, false, false, false, false, false, false, false, false, false] rfl rfl (by kernel_rfl) (by decide) (fun K hK => ?_)
                        refine goes_ Tryz.func8 (by kernel_rfl) rfl #[.nilIface] (by rfl) rfl rfl (by simp only [List.map_toArray, List.map_cons, List.map_nil]; rfl) ?_
                        with_reducible refine (Code_nil _).mono ?_
                        rintro e W6 ⟨rfl, hE6⟩
                        have hE56 : Ext W5 W6 := Ext.trans (by exact (by repeat (first | exact Ext.refl _ | assumption | refine Ext.alloc ?_ _ | refine Ext.drew ?_ | refine Ext.drewN ?_ _ | refine Ext.setCell ?_ (by first | omega | (simp; done) | (simp; omega)) _ | refine Ext.trans ?_ (by assumption)))) hE6
                        refine ⟨_, rfl, ?_⟩
                        refine hK.out _ _ ⟨(hE56.cell z8), (hE56.cell z3), (hE56.cell z4)⟩ (fun hHeld => ?_)
                        clear hK K
                        refine norm_ (a' := ?_) ?_ ?_
                        rotate_left
                        · show Act.put _ (some 156) _ = _
                          simp only [Act.put, List.setIfInBounds_toArray, List.set_cons_zero, List.set_cons_succ, i64_w, i32_w]
                          rfl
                        refine pure_ (i := 3) (N := some 158) (v := ?_) (a' := ?_) #[true, true, true, true, false, false, false, false, false, false, false, false, false, false, false, false, false, false, false, false, false, false, false, false, false, false, false, false, false] rfl rfl (by kernel_rfl) (fun _ _ _ h => h) (Or.inl ⟨by rfl, ?_⟩) ?_ ?_
                        rotate_left
                        · intro w'
                          go_simp
                          with_reducible rfl
                        rotate_left
                        · simp only [Act.put, List.setIfInBounds_toArray, List.set_cons_zero, List.set_cons_succ, i64_w, i32_w]
                          rfl
                        refine pure_ (i := 4) (N := some 159) (v := ?_) (a' := ?_) #[true, true, true, true, true, false, false, false, false, false, false, false, false, false, false, false, false, false, false, false, false, false, false, false, false, false, false, false, false] rfl rfl (by kernel_rfl) (fun _ _ _ h => h) (Or.inl ⟨by rfl, ?_⟩) ?_ ?_
                        rotate_left
                        · intro w'
                          go_simp
                          with_reducible rfl
                        rotate_left
                        · simp only [Act.put, List.setIfInBounds_toArray, List.set_cons_zero, List.set_cons_succ, i64_w, i32_w]
                          rfl
                        refine pure_ (i := 5) (N := some 160) (v := ?_) (a' := ?_) #[true, true, true, true, true, true, false, false, false, false, false, false, false, false, false, false, false, false, false, false, false, false, false, false, false, false, false, false, false] rfl rfl (by kernel_rfl) (fun _ _ _ h => h) (Or.inl ⟨by rfl, ?_⟩) ?_ ?_
                        rotate_left
                        · intro w'
                          go_simp
                          with_reducible rfl
                        rotate_left
                        · simp only [Act.put, List.setIfInBounds_toArray, List.set_cons_zero, List.set_cons_succ, i64_w, i32_w]
                          rfl
                        refine pure_ (i := 6) (N := some 161) (v := ?_) (a' := ?_) #[true, true, true, true, true, true, true, false, false, false, false, false, false, false, false, false, false, false, false, false, false, false, false, false, false, false, false, false, false] rfl rfl (by kernel_rfl) (fun _ _ _ h => h) (Or.inl ⟨by rfl, ?_⟩) ?_ ?_
                        rotate_left
                        · intro w'
                          go_simp
                          with_reducible rfl
                        rotate_left
                        · simp only [Act.put, List.setIfInBounds_toArray, List.set_cons_zero, List.set_cons_succ, i64_w, i32_w]
                          rfl
                        refine pure_ (i := 7) (N := some 162) (v := ?_) (a' := ?_) #[true, true, true, true, true, true, true, true, false, false, false, false, false, false, false, false, false, false, false, false, false, false, false, false, false, false, false, false, false] rfl rfl (by kernel_rfl) (fun _ _ _ h => h) (Or.inl ⟨by rfl, ?_⟩) ?_ ?_
                        rotate_left
                        · intro w'
                          go_simp
                          with_reducible rfl
                        rotate_left
                        · simp only [Act.put, List.setIfInBounds_toArray, List.set_cons_zero, List.set_cons_succ, i64_w, i32_w]
                          rfl
                        refine pure_ (i := 8) (N := some 163) (v := undef) (a' := ?_) #[true, true, true, true, true, true, true, true, true, false, false, false, false, false, false, false, false, false, false, false, false, false, false, false, false, false, false, false, false] rfl rfl (by kernel_rfl) (fun _ _ _ h => h) (Or.inr ⟨by rfl, rfl⟩) ?_ ?_
                        rotate_left
                        · simp only [Act.put, List.setIfInBounds_toArray, List.set_cons_zero, List.set_cons_succ, i64_w, i32_w]
                          rfl
                        refine pure_ (i := 9) (N := some 164) (v := undef) (a' := ?_) #[true, true, true, true, true, true, true, true, true, true, false, false, false, false, false, false, false, false, false, false, false, false, false, false, false, false, false, false, false] rfl rfl (by kernel_rfl) (fun _ _ _ h => h) (Or.inr ⟨by rfl, rfl⟩) ?_ ?_
                        rotate_left
                        · simp only [Act.put, List.setIfInBounds_toArray, List.set_cons_zero, List.set_cons_succ, i64_w, i32_w]
                          rfl
                        refine pure_ (i := 10) (N := some 165) (v := ?_) (a' := ?_) #[true, true, true, true, true, true, true, true, true, true, true, false, false, false, false, false, false, false, false, false, false, false, false, false, false, false, false, false, false] rfl rfl (by kernel_rfl) (fun _ _ _ h => h) (Or.inl ⟨by rfl, ?_⟩) ?_ ?_
                        rotate_left
                        · intro w'
                          go_simp
                          with_reducible rfl
                        rotate_left
                        · simp only [Act.put, List.setIfInBounds_toArray, List.set_cons_zero, List.set_cons_succ, i64_w, i32_w]
                          rfl
                        refine pure_ (i := 11) (N := some 166) (v := ?_) (a' := ?_) #[true, true, true, true, true, true, true, true, true, true, true, true, false, false, false, false, false, false, false, false, false, false, false, false, false, false, false, false, false] rfl rfl (by kernel_rfl) (fun _ _ _ h => h) (Or.inl ⟨by rfl, ?_⟩) ?_ ?_
                        rotate_left
                        · intro w'
                          go_simp
                          with_reducible rfl
                        rotate_left
                        · simp only [Act.put, List.setIfInBounds_toArray, List.set_cons_zero, List.set_cons_succ, i64_w, i32_w]
                          rfl
                        refine pure_ (i := 12) (N := some 167) (v := ?_) (a' := ?_) #[true, true, true, true, true, true, true, true, true, true, true, true, true, false, false, false, false, false, false, false, false, false, false, false, false, false, false, false, false] rfl rfl (by kernel_rfl) (fun _ _ _ h => h) (Or.inl ⟨by rfl, ?_⟩) ?_ ?_
                        rotate_left
                        · intro w'
                          go_simp
                          with_reducible rfl
                        rotate_left
                        · simp only [Act.put, List.setIfInBounds_toArray, List.set_cons_zero, List.set_cons_succ, i64_w, i32_w]
                          rfl
                        refine pure_ (i := 13) (N := some 168) (v := ?_) (a' := ?_) #[true, true, true, true, true, true, true, true, true, true, true, true, true, true, false, false, false, false, false, false, false, false, false, false, false, false, false, false, false] rfl rfl (by kernel_rfl) (fun _ _ _ h => h) (Or.inl ⟨by rfl, ?_⟩) ?_ ?_
                        rotate_left
                        · intro w'
                          go_simp
                          with_reducible rfl
                        rotate_left
                        · simp only [Act.put, List.setIfInBounds_toArray, List.set_cons_zero, List.set_cons_succ, i64_w, i32_w]
                          rfl
                        refine pure_ (i := 14) (N := some 169) (v := ?_) (a' := ?_) #[true, true, true, true, true, true, true, true, true, true, true, true, true, true, true, false, false, false, false, false, false, false, false, false, false, false, false, false, false] rfl rfl (by kernel_rfl) (fun _ _ _ h => h) (Or.inl ⟨by rfl, ?_⟩) ?_ ?_
                        rotate_left
                        · intro w'
                          go_simp
                          with_reducible rfl
                        rotate_left
                        · simp only [Act.put, List.setIfInBounds_toArray, List.set_cons_zero, List.set_cons_succ, i64_w, i32_w]
                          rfl
                        refine pure_ (i := 15) (N := some 170) (v := ?_) (a' := ?_) #[true, true, true, true, true, true, true, true, true, true, true, true, true, true, true, true, false, false, false, false, false, false, false, false, false, false, false, false, false] rfl rfl (by kernel_rfl) (fun _ _ _ h => h) (Or.inl ⟨by rfl, ?_⟩) ?_ ?_
                        rotate_left
                        · intro w'
                          go_simp
                          with_reducible rfl
                        rotate_left
                        · simp only [Act.put, List.setIfInBounds_toArray, List.set_cons_zero, List.set_cons_succ, i64_w, i32_w]
                          rfl
                        refine pure_ (i := 16) (N := some 171) (v := ?_) (a' := ?_) #[true, true, true, true, true, true, true, true, true, true, true, true, true, true, true, true, true, false, false, false, false, false, false, false, false, false, false, false, false] rfl rfl (by kernel_rfl) (fun _ _ _ h => h) (Or.inl ⟨by rfl, ?_⟩) ?_ ?_
                        rotate_left
                        · intro w'
                          go_simp
                          with_reducible rfl
                        rotate_left
                        · simp only [Act.put, List.setIfInBounds_toArray, List.set_cons_zero, List.set_cons_succ, i64_w, i32_w]
                          rfl
                        refine pure_ (i := 17) (N := some 172) (v := ?_) (a' := ?_) #[true, true, true, true, true, true, true, true, true, true, true, true, true, true, true, true, true, true, false, false, false, false, false, false, false, false, false, false, false] rfl rfl (by kernel_rfl) (fun _ _ _ h => h) (Or.inl ⟨by rfl, ?_⟩) ?_ ?_
                        rotate_left
                        · intro w'
                          go_simp
                          with_reducible rfl
                        rotate_left
                        · simp only [Act.put, List.setIfInBounds_toArray, List.set_cons_zero, List.set_cons_succ, i64_w, i32_w]
                          rfl
                        refine pure_ (i := 18) (N := some 173) (v := ?_) (a' := ?_) #[true, true, true, true, true, true, true, true, true, true, true, true, true, true, true, true, true, true, true, false, false, false, false, false, false, false, false, false, false] rfl rfl (by kernel_rfl) (fun _ _ _ h => h) (Or.inl ⟨by rfl, ?_⟩) ?_ ?_
                        rotate_left
                        · intro w'
                          go_simp
                          with_reducible rfl
                        rotate_left
                        · simp only [Act.put, List.setIfInBounds_toArray, List.set_cons_zero, List.set_cons_succ, i64_w, i32_w]
                          rfl
                        refine pure_ (i := 19) (N := some 174) (v := ?_) (a' := ?_) #[true, true, true, true, true, true, true, true, true, true, true, true, true, true, true, true, true, true, true, true, false, false, false, false, false, false, false, false, false] rfl rfl (by kernel_rfl) (fun _ _ _ h => h) (Or.inl ⟨by rfl, ?_⟩) ?_ ?_
                        rotate_left
                        · intro w'
                          go_simp
                          with_reducible rfl
                        rotate_left
                        · simp only [Act.put, List.setIfInBounds_toArray, List.set_cons_zero, List.set_cons_succ, i64_w, i32_w]
                          rfl
                        refine pure_ (i := 21) (N := some 176) (v := ?_) (a' := ?_) #[true, true, true, true, true, true, true, true, true, true, true, true, true, true, true, true, true, true, true, true, false, true, false, false, false, false, false, false, false] rfl rfl (by kernel_rfl) (fun _ _ _ h => h) (Or.inl ⟨by rfl, ?_⟩) ?_ ?_
                        rotate_left
                        · intro w'
                          go_simp
                          with_reducible rfl
                        rotate_left
                        · simp only [Act.put, List.setIfInBounds_toArray, List.set_cons_zero, List.set_cons_succ, i64_w, i32_w]
                          rfl
                        refine pure_ (i := 23) (N := some 178) (v := ?_) (a' := ?_) #[true, true, true, true, true, true, true, true, true, true, true, true, true, true, true, true, true, true, true, true, false, true, false, true, false, false, false, false, false] rfl rfl (by kernel_rfl) (fun _ _ _ h => h) (Or.inl ⟨by rfl, ?_⟩) ?_ ?_
                        rotate_left
                        · intro w'
                          go_simp
                          with_reducible rfl
                        rotate_left
                        · simp only [Act.put, List.setIfInBounds_toArray, List.set_cons_zero, List.set_cons_succ, i64_w, i32_w]
                          rfl
                        refine take_ (i := 20) (N := some 175) (v := ?_) (a' := ?_) #[true, true, true, true, true, true, true, true, true, true, true, true, true, true, true, true, true, true, true, true, true, true, false, true, false, false, false, false, false] rfl rfl (by kernel_rfl) (fun _ _ _ h => h) (Or.inl ⟨by rfl, ?_⟩) hHeld ?_ ?_
                        rotate_left
                        · rintro w' ⟨s0, s1, s2⟩
                          go_simp
                          with_reducible rfl
                        rotate_left
                        · simp only [Act.put, List.setIfInBounds_toArray, List.set_cons_zero, List.set_cons_succ, i64_w, i32_w]
                          rfl
                        refine take_ (i := 22) (N := some 177) (v := ?_) (a' := ?_) #[true, true, true, true, true, true, true, true, true, true, true, true, true, true, true, true, true, true, true, true, true, true, true, true, false, false, false, false, false] rfl rfl (by kernel_rfl) (fun _ _ _ h => h) (Or.inl ⟨by rfl, ?_⟩) hHeld ?_ ?_
                        rotate_left
                        · rintro w' ⟨s0, s1, s2⟩
                          go_simp
                          with_reducible rfl
                        rotate_left
                        · simp only [Act.put, List.setIfInBounds_toArray, List.set_cons_zero, List.set_cons_succ, i64_w, i32_w]
                          rfl
                        refine take_ (i := 24) (N := some 179) (v := ?_) (a' := ?_) #[true, true, true, true, true, true, true, true, true, true, true, true, true, true, true, true, true, true, true, true, true, true, true, true, true, false, false, false, false] rfl rfl (by kernel_rfl) (fun _ _ _ h => h) (Or.inl ⟨by rfl, ?_⟩) hHeld ?_ ?_
                        rotate_left
                        · rintro w' ⟨s0, s1, s2⟩
                          go_simp
                          with_reducible rfl
                        rotate_left
                        · simp only [Act.put, List.setIfInBounds_toArray, List.set_cons_zero, List.set_cons_succ, i64_w, i32_w]
                          rfl
                        refine one_ (i := 25) (N := some 180) #[true, true, true, true, true, true, true, true, true, true, true, true, true, true, true, true, true, true, true, true, true, true, true, true, true, true, false, false, false] rfl rfl (by kernel_rfl) (by decide) (fun K hK => ?_)
                        refine goes_ Tryz.func9 (by kernel_rfl) rfl #[.string d, .int .i64 x.at_, .int .i64 x.n] (by rfl) rfl rfl (by simp only [List.map_toArray, List.map_cons, List.map_nil]; rfl) ?_
                        with_reducible refine (HP _).mono ?_
                        rintro e W7 ⟨rfl, hE7⟩
                        have hE57 : Ext W5 W7 := hE56.trans hE7
                        refine ⟨_, rfl, ?_⟩
                        refine hK.out _ _ ⟨(hE57.cell z8), (hE57.cell z3), (hE57.cell z4)⟩ (fun hHeld => ?_)
                        clear hK K
                        refine norm_ (a' := ?_) ?_ ?_
                        rotate_left
                        · show Act.put _ (some 180) _ = _
                          simp only [Act.put, List.setIfInBounds_toArray, List.set_cons_zero, List.set_cons_succ, i64_w, i32_w]
                          rfl
                        refine pure_ (i := 26) (N := some 181) (v := ?_) (a' := ?_) #[true, true, true, true, true, true, true, true, true, true, true, true, true, true, true, true, true, true, true, true, true, true, true, true, true, true, true, false, false] rfl rfl (by kernel_rfl) (fun _ _ _ h => h) (Or.inl ⟨by rfl, ?_⟩) ?_ ?_
                        rotate_left
                        · intro w'
                          go_simp
                          with_reducible rfl
                        rotate_left
                        · simp only [Act.put, List.setIfInBounds_toArray, List.set_cons_zero, List.set_cons_succ, i64_w, i32_w]
                          rfl
                        refine pure_ (i := 27) (N := some 182) (v := ?_) (a' := ?_) #[true, true, true, true, true, true, true, true, true, true, true, true, true, true, true, true, true, true, true, true, true, true, true, true, true, true, true, true, false] rfl rfl (by kernel_rfl) (fun _ _ _ h => h) (Or.inl ⟨by rfl, ?_⟩) ?_ ?_
                        rotate_left
                        · intro w'
                          go_simp
                          with_reducible rfl
                        rotate_left
                        · simp only [Act.put, List.setIfInBounds_toArray, List.set_cons_zero, List.set_cons_succ, i64_w, i32_w]
                          rfl
                        refine pure_ (i := 28) (N := some 183) (v := ?_) (a' := ?_) #[true, true, true, true, true, true, true, true, true, true, true, true, true, true, true, true, true, true, true, true, true, true, true, true, true, true, true, true, true] rfl rfl (by kernel_rfl) (fun _ _ _ h => h) (Or.inl ⟨by rfl, ?_⟩) ?_ ?_
                        rotate_left
                        · intro w'
                          go_simp
                          with_reducible rfl
                        rotate_left
                        · simp only [Act.put, List.setIfInBounds_toArray, List.set_cons_zero, List.set_cons_succ, i64_w, i32_w]
                          rfl
                        refine done_ (by kernel_rfl) ?_

                        all_goals go_wp2
                        all_goals go_meet
                        all_goals exact ⟨L, l, ks, ds, rfl, by omega, hnum, Lib.hid (hst4.out.step (by exact (by repeat (first | exact Ext.refl _ | assumption | refine Ext.alloc ?_ _ | refine Ext.drew ?_ | refine Ext.drewN ?_ _ | refine Ext.setCell ?_ (by first | omega | (simp; done) | (simp; omega)) _ | refine Ext.trans ?_ (by assumption)))))⟩
              · by_cases h3 : dm = 3
                · as_aux_lemma =>
                    subst h3
                    clear hdm1 h2
                    rcases fnd_cases ks x.id j with ⟨hk, hno⟩ | ⟨i, hij, hki, hk⟩
                    · as_aux_lemma =>
                        rw [hk]
                        have hf : findH l x.id = none := find_no fun i hi => by
                          rw [← hnum.out.ek]
                          exact hno i (by rw [← Hm.out, hnum.out.ek, List.length_map]; exact hi)
                        have HR := fun W h => close_no tb bm L (L : Int) x.id l W h hwf hf
                        clear hno hk hf
                        go_upto_region 44 with (go_at_call 10; refine (HR _ (Hpt.out.ext (by exact (by repeat (first | exact Ext.refl _ | assumption | refine Ext.alloc ?_ _ | refine Ext.drew ?_ | refine Ext.drewN ?_ _ | refine Ext.setCell ?_ (by first | omega | (simp; done) | (simp; omega)) _ | refine Ext.trans ?_ (by assumption)))))).mono ?_; rintro e W5 ⟨a5, rfl, hEr, hE5⟩; have HC5 := code22 hEr (HLr.out.ext hE5))
                        clear y0 y1 y2 y3 y4 hEr HR
                        go_wp2_with (first | (go_at_call 8; (with_reducible refine (HC5 _ ?h).mono ?_); (case h => exact (by repeat (first | exact Ext.refl _ | assumption | refine Ext.alloc ?_ _ | refine Ext.drew ?_ | refine Ext.drewN ?_ _ | refine Ext.setCell ?_ (by first | omega | (simp; done) | (simp; omega)) _ | refine Ext.trans ?_ (by assumption)))); rintro e W6 ⟨rfl, hE6⟩) | fail)
                        go_meet
                        exact ⟨L, l, ks, ds, rfl, by omega, hnum, Lib.hid (hst4.out.step (by exact (by repeat (first | exact Ext.refl _ | assumption | refine Ext.alloc ?_ _ | refine Ext.drew ?_ | refine Ext.drewN ?_ _ | refine Ext.setCell ?_ (by first | omega | (simp; done) | (simp; omega)) _ | refine Ext.trans ?_ (by assumption)))))⟩
                    · as_aux_lemma =>
                        rw [hk]
                        have hil : i < l.length := by
                          have h5 := Hm.out
                          rw [hnum.out.ek, List.length_map] at h5
                          omega
                        obtain ⟨e1, e2, e3⟩ := find_yes hnum.out.keys hil (by rw [← hnum.out.ek]; exact hki)
                        obtain ⟨Ay, cy, ey, hyr⟩ := hst4.out.hs l[i] (List.getElem_mem hil)
                        clear hyr
                        obtain ⟨d, hd⟩ : ∃ d, l[i].2.1 = d := ⟨_, rfl⟩
                        have hf : findH l x.id = some (d, .slice Ay 2 cy) := by rw [e2, ← hd, ← ey]
                        have HR := fun W h => close_yes tb bm L (L : Int) x.id l d Ay 2 cy W h hwf hf
                        rw [e3] at HR
                        have hid := hnum.out.rng l[i] (List.getElem_mem hil)
                        rw [e1] at hid
                        have hi0 : ¬ (i : Int) < 0 := by omega
                        have hi1 : (0 : Int) ≤ (i : Int) := by omega
                        have hij' : (i : Int) < (j : Int) := by omega
                        have hxt : Hid (¬ Two tb bm xb) := Lib.hid fun hb => by
                          have := (Hfx.out.two _ hb).2
                          have := Hxb.out
                          omega
                        have HQ := fun W => refs22_any x.id W (by omega) (by omega)
                        have Hid1 := Lib.hid e1
                        have Hey := Lib.hid ey
                        have Hil := Lib.hid hil
                        clear e1 e2 e3 hk hki hd ey hf hid
                        go_upto_region 44 with (go_at_call 10; refine (HR _ (Hpt.out.ext (by exact (by repeat (first | exact Ext.refl _ | assumption | refine Ext.alloc ?_ _ | refine Ext.drew ?_ | refine Ext.drewN ?_ _ | refine Ext.setCell ?_ (by first | omega | (simp; done) | (simp; omega)) _ | refine Ext.trans ?_ (by assumption)))))).mono ?_; rintro e W5 ⟨rfl, ht5, hB5⟩)
                        have hst5 := hst4.out.less Hfx.out ht5 hB5 (fun y hy => List.mem_of_mem_eraseIdx hy)
                        have hry := (hst4.out.hs.but (S' := Two tb bm) hB5 (fun _ => .inl)) _ (List.getElem_mem Hil.out)
                        obtain ⟨Ay', cy', ey', hry, _⟩ := hry
                        rw [Hid1.out] at hry
                        have ey2 := Hey.out.symm.trans ey'
                        simp only [Value.slice.injEq, true_and] at ey2
                        obtain ⟨rfl, rfl⟩ := ey2
                        obtain ⟨_, _, eAg, hg1, hg2, Hgc⟩ := rdR_form (n := 2) hry rfl
                        simp only [Value.slice.injEq, true_and] at eAg
                        obtain ⟨rfl, rfl⟩ := eAg
                        obtain ⟨bg, og, rfl, hgc⟩ := Hgc.out (by simp [refsOf])
                        obtain ⟨p0, p1, p2⟩ := hgc 0 (by simp [refsOf])
                        obtain ⟨p3, p4, p5⟩ := hgc 1 (by simp [refsOf])
                        have y2' := (hX4.but hB5 hxt.out).cell 2 rfl
                        have Hst5 := Lib.hid hst5
                        clear hgc hst5 ht5 hB5 hry ey' Hgc HR y0 y1 y2 y3 y4
                        go_upto_region 48 with (go_at_call 11; refine (HQ _).mono ?_; rintro e W9 ⟨b9, rfl, hb9, hs9, hE9'⟩; have hE9 : Ext W5 W9 := Ext.trans (by exact (by repeat (first | exact Ext.refl _ | assumption | refine Ext.alloc ?_ _ | refine Ext.drew ?_ | refine Ext.drewN ?_ _ | refine Ext.setCell ?_ (by first | omega | (simp; done) | (simp; omega)) _ | refine Ext.trans ?_ (by assumption)))) hE9')
                        have q0 : W9.cell? ⟨bg, og, none⟩ = some (.int .i64 x.id) := by
                          have h := hE9.cell p0
                          simp only [Nat.zero_mul, Nat.add_zero] at h
                          exact h
                        have q1 : W9.cell? ⟨bg, og + 1, none⟩ = some (.int .i64 1) := by
                          have h := hE9.cell p1
                          simp only [Nat.zero_mul, Nat.add_zero] at h
                          exact h
                        have q2 : W9.cell? ⟨bg, og + 2, none⟩ = some (.int .u32 x.id) := by
                          have h := hE9.cell p2
                          simp only [Nat.zero_mul, Nat.add_zero] at h
                          exact h
                        have q3 : W9.cell? ⟨bg, og + 3, none⟩ = some (.int .i64 x.id) := hE9.cell p3
                        have q4 : W9.cell? ⟨bg, og + 3 + 1, none⟩ = some (.int .i64 2) := hE9.cell p4
                        have q5 : W9.cell? ⟨bg, og + 3 + 2, none⟩ = some (.int .u32 0) := hE9.cell p5
                        have q6 : W9.cell? ⟨b9, 0, none⟩ = some (.int .i64 x.id) := hb9.cell 0 rfl
                        have q7 : W9.cell? ⟨b9, 1, none⟩ = some (.int .i64 1) := hb9.cell 1 rfl
                        have q8 : W9.cell? ⟨b9, 2, none⟩ = some (.int .u32 x.id) := hb9.cell 2 rfl
                        have q9 : W9.cell? ⟨b9, 3, none⟩ = some (.int .i64 x.id) := hb9.cell 3 rfl
                        have q10 : W9.cell? ⟨b9, 4, none⟩ = some (.int .i64 2) := hb9.cell 4 rfl
                        have q11 : W9.cell? ⟨b9, 5, none⟩ = some (.int .u32 0) := hb9.cell 5 rfl
                        have HN1 : ∀ w, (binOp .neq 44 (.agg #[.int .i64 x.id, .int .i64 1, .int .u32 x.id]) (.agg #[.int .i64 x.id, .int .i64 1, .int .u32 x.id])).run Tryz.prog w = .ok (.bool false) w := neq_ref ⟨x.id, 1, x.id⟩
                        have HN2 : ∀ w, (binOp .neq 44 (.agg #[.int .i64 x.id, .int .i64 2, .int .u32 0]) (.agg #[.int .i64 x.id, .int .i64 2, .int .u32 0])).run Tryz.prog w = .ok (.bool false) w := neq_ref ⟨x.id, 2, 0⟩
                        clear p0 p1 p2 p3 p4 p5 y2' hb9 hs9 hE9' HQ
                        refine start_ (n := 26) (S := fun w' => w'.cell? ⟨bg, og, none⟩ = some (.int .i64 x.id) ∧ w'.cell? ⟨bg, og + 1, none⟩ = some (.int .i64 1) ∧ w'.cell? ⟨bg, og + 2, none⟩ = some (.int .u32 x.id) ∧ w'.cell? ⟨bg, og + 3, none⟩ = some (.int .i64 x.id) ∧ w'.cell? ⟨bg, og + 3 + 1, none⟩ = some (.int .i64 2) ∧ w'.cell? ⟨bg, og + 3 + 2, none⟩ = some (.int .u32 0) ∧ w'.cell? ⟨b9, 0, none⟩ = some (.int .i64 x.id) ∧ w'.cell? ⟨b9, 1, none⟩ = some (.int .i64 1) ∧ w'.cell? ⟨b9, 2, none⟩ = some (.int .u32 x.id) ∧ w'.cell? ⟨b9, 3, none⟩ = some (.int .i64 x.id) ∧ w'.cell? ⟨b9, 4, none⟩ = some (.int .i64 2) ∧ w'.cell? ⟨b9, 5, none⟩ = some (.int .u32 0)) (ds := []) #[false, false, false, false, false, false, false, false, false, false, false, false, false, false, false, false, false, false, false, false, false, false, false, false, false, false] (by kernel_rfl) rfl rfl ⟨q0, q1, q2, q3, q4, q5, q6, q7, q8, q9, q10, q11⟩ (fun hHeld => ?_)
                        refine pure_ (i := 0) (N := some 210) (v := ?_) (a' := ?_) #[true, false, false, false, false, false, false, false, false, false, false, false, false, false, false, false, false, false, false, false, false, false, false, false, false, false] rfl rfl (by kernel_rfl) (fun _ _ _ h => h) (Or.inl ⟨by rfl, ?_⟩) ?_ ?_
                        rotate_left
                        · intro w'
                          go_simp
                          with_reducible rfl
                        rotate_left
                        · simp only [Act.put, List.setIfInBounds_toArray, List.set_cons_zero, List.set_cons_succ, i64_w, i32_w]
                          rfl
                        refine one_ (i := 1) (N := some 211) #[true, true, false, false, false, false, false, false, false, false, false, false, false, false, false, false, false, false, false, false, false, false, false, false, false, false] rfl rfl (by kernel_rfl) (by decide) (fun K hK => ?_)
                        refine goes_ Tryz.func8 (by kernel_rfl) rfl #[.nilIface] (by rfl) rfl rfl (by simp only [List.map_toArray, List.map_cons, List.map_nil]; rfl) ?_
                        with_reducible refine (Code_nil _).mono ?_
                        rintro e W6 ⟨rfl, hE6⟩
                        have hE6b : Ext W9 W6 := ((Ext.refl W9).drew).trans hE6
                        refine ⟨_, rfl, ?_⟩
                        refine hK.out _ _ ⟨(hE6b.cell q0), (hE6b.cell q1), (hE6b.cell q2), (hE6b.cell q3), (hE6b.cell q4), (hE6b.cell q5), (hE6b.cell q6), (hE6b.cell q7), (hE6b.cell q8), (hE6b.cell q9), (hE6b.cell q10), (hE6b.cell q11)⟩ (fun hHeld => ?_)
                        clear hK K
                        refine norm_ (a' := ?_) ?_ ?_
                        rotate_left
                        · show Act.put _ (some 211) _ = _
                          simp only [Act.put, List.setIfInBounds_toArray, List.set_cons_zero, List.set_cons_succ, i64_w, i32_w]
                          rfl
                        refine pure_ (i := 2) (N := some 212) (v := ?_) (a' := ?_) #[true, true, true, false, false, false, false, false, false, false, false, false, false, false, false, false, false, false, false, false, false, false, false, false, false, false] rfl rfl (by kernel_rfl) (fun _ _ _ h => h) (Or.inl ⟨by rfl, ?_⟩) ?_ ?_
                        rotate_left
                        · intro w'
                          go_simp
                          with_reducible rfl
                        rotate_left
                        · simp only [Act.put, List.setIfInBounds_toArray, List.set_cons_zero, List.set_cons_succ, i64_w, i32_w]
                          rfl
                        refine pure_ (i := 3) (N := some 213) (v := ?_) (a' := ?_) #[true, true, true, true, false, false, false, false, false, false, false, false, false, false, false, false, false, false, false, false, false, false, false, false, false, false] rfl rfl (by kernel_rfl) (fun _ _ _ h => h) (Or.inl ⟨by rfl, ?_⟩) ?_ ?_
                        rotate_left
                        · intro w'
                          go_simp
                          with_reducible rfl
                        rotate_left
                        · simp only [Act.put, List.setIfInBounds_toArray, List.set_cons_zero, List.set_cons_succ, i64_w, i32_w]
                          rfl
                        refine pure_ (i := 4) (N := some 214) (v := ?_) (a' := ?_) #[true, true, true, true, true, false, false, false, false, false, false, false, false, false, false, false, false, false, false, false, false, false, false, false, false, false] rfl rfl (by kernel_rfl) (fun _ _ _ h => h) (Or.inl ⟨by rfl, ?_⟩) ?_ ?_
                        rotate_left
                        · intro w'
                          go_simp
                          with_reducible rfl
                        rotate_left
                        · simp only [Act.put, List.setIfInBounds_toArray, List.set_cons_zero, List.set_cons_succ, i64_w, i32_w]
                          rfl
                        refine pure_ (i := 5) (N := some 215) (v := ?_) (a' := ?_) #[true, true, true, true, true, true, false, false, false, false, false, false, false, false, false, false, false, false, false, false, false, false, false, false, false, false] rfl rfl (by kernel_rfl) (fun _ _ _ h => h) (Or.inl ⟨by rfl, ?_⟩) ?_ ?_
                        rotate_left
                        · intro w'
                          go_simp
                          with_reducible rfl
                        rotate_left
                        · simp only [Act.put, List.setIfInBounds_toArray, List.set_cons_zero, List.set_cons_succ, i64_w, i32_w]
                          rfl
                        refine pure_ (i := 6) (N := some 216) (v := ?_) (a' := ?_) #[true, true, true, true, true, true, true, false, false, false, false, false, false, false, false, false, false, false, false, false, false, false, false, false, false, false] rfl rfl (by kernel_rfl) (fun _ _ _ h => h) (Or.inl ⟨by rfl, ?_⟩) ?_ ?_
                        rotate_left
                        · intro w'
                          go_simp
                          with_reducible rfl
                        rotate_left
                        · simp only [Act.put, List.setIfInBounds_toArray, List.set_cons_zero, List.set_cons_succ, i64_w, i32_w]
                          rfl
                        refine pure_ (i := 7) (N := some 217) (v := ?_) (a' := ?_) #[true, true, true, true, true, true, true, true, false, false, false, false, false, false, false, false, false, false, false, false, false, false, false, false, false, false] rfl rfl (by kernel_rfl) (fun _ _ _ h => h) (Or.inl ⟨by rfl, ?_⟩) ?_ ?_
                        rotate_left
                        · intro w'
                          go_simp
                          with_reducible rfl
                        rotate_left
                        · simp only [Act.put, List.setIfInBounds_toArray, List.set_cons_zero, List.set_cons_succ, i64_w, i32_w]
                          rfl
                        refine pure_ (i := 8) (N := some 218) (v := ?_) (a' := ?_) #[true, true, true, true, true, true, true, true, true, false, false, false, false, false, false, false, false, false, false, false, false, false, false, false, false, false] rfl rfl (by kernel_rfl) (fun _ _ _ h => h) (Or.inl ⟨by rfl, ?_⟩) ?_ ?_
                        rotate_left
                        · intro w'
                          go_simp
                          with_reducible rfl
                        rotate_left
                        · simp only [Act.put, List.setIfInBounds_toArray, List.set_cons_zero, List.set_cons_succ, i64_w, i32_w]
                          rfl
                        refine pure_ (i := 9) (N := some 219) (v := ?_) (a' := ?_) #[true, true, true, true, true, true, true, true, true, true, false, false, false, false, false, false, false, false, false, false, false, false, false, false, false, false] rfl rfl (by kernel_rfl) (fun _ _ _ h => h) (Or.inl ⟨by rfl, ?_⟩) ?_ ?_
                        rotate_left
                        · intro w'
                          go_simp
                          with_reducible rfl
                        rotate_left
                        · simp only [Act.put, List.setIfInBounds_toArray, List.set_cons_zero, List.set_cons_succ, i64_w, i32_w]
                          rfl
                        refine pure_ (i := 10) (N := some 220) (v := ?_) (a' := ?_) #[true, true, true, true, true, true, true, true, true, true, true, false, false, false, false, false, false, false, false, false, false, false, false, false, false, false] rfl rfl (by kernel_rfl) (fun _ _ _ h => h) (Or.inl ⟨by rfl, ?_⟩) ?_ ?_
                        rotate_left
                        · intro w'
                          go_simp
                          with_reducible rfl
                        rotate_left
                        · simp only [Act.put, List.setIfInBounds_toArray, List.set_cons_zero, List.set_cons_succ, i64_w, i32_w]
                          rfl
                        refine pure_ (i := 12) (N := some 222) (v := ?_) (a' := ?_) #[true, true, true, true, true, true, true, true, true, true, true, false, true, false, false, false, false, false, false, false, false, false, false, false, false, false] rfl rfl (by kernel_rfl) (fun _ _ _ h => h) (Or.inl ⟨by rfl, ?_⟩) ?_ ?_
                        rotate_left
                        · intro w'
                          go_simp
                          with_reducible rfl
                        rotate_left
                        · simp only [Act.put, List.setIfInBounds_toArray, List.set_cons_zero, List.set_cons_succ, i64_w, i32_w]
                          rfl
                        refine pure_ (i := 13) (N := some 223) (v := ?_) (a' := ?_) #[true, true, true, true, true, true, true, true, true, true, true, false, true, true, false, false, false, false, false, false, false, false, false, false, false, false] rfl rfl (by kernel_rfl) (fun _ _ _ h => h) (Or.inl ⟨by rfl, ?_⟩) ?_ ?_
                        rotate_left
                        · intro w'
                          go_simp
                          with_reducible rfl
                        rotate_left
                        · simp only [Act.put, List.setIfInBounds_toArray, List.set_cons_zero, List.set_cons_succ, i64_w, i32_w]
                          rfl
                        refine take_ (i := 11) (N := some 221) (v := ?_) (a' := ?_) #[true, true, true, true, true, true, true, true, true, true, true, true, true, true, false, false, false, false, false, false, false, false, false, false, false, false] rfl rfl (by kernel_rfl) (fun _ _ _ h => h) (Or.inl ⟨by rfl, ?_⟩) hHeld ?_ ?_
                        rotate_left
                        · rintro w' ⟨s0, s1, s2, s3, s4, s5, s6, s7, s8, s9, s10, s11⟩
                          go_simp
                          with_reducible rfl
                        rotate_left
                        · simp only [Act.put, List.setIfInBounds_toArray, List.set_cons_zero, List.set_cons_succ, i64_w, i32_w]
                          rfl
                        refine take_ (i := 14) (N := some 224) (v := ?_) (a' := ?_) #[true, true, true, true, true, true, true, true, true, true, true, true, true, true, true, false, false, false, false, false, false, false, false, false, false, false] rfl rfl (by kernel_rfl) (fun _ _ _ h => h) (Or.inl ⟨by rfl, ?_⟩) hHeld ?_ ?_
                        rotate_left
                        · rintro w' ⟨s0, s1, s2, s3, s4, s5, s6, s7, s8, s9, s10, s11⟩
                          go_simp
                          with_reducible rfl
                        rotate_left
                        · simp only [Act.put, List.setIfInBounds_toArray, List.set_cons_zero, List.set_cons_succ, i64_w, i32_w]
                          rfl
                        refine pure_ (i := 15) (N := some 225) (v := ?_) (a' := ?_) #[true, true, true, true, true, true, true, true, true, true, true, true, true, true, true, true, false, false, false, false, false, false, false, false, false, false] rfl rfl (by kernel_rfl) (fun _ _ _ h => h) (Or.inl ⟨by rfl, ?_⟩) ?_ ?_
                        rotate_left
                        · intro w'
                          go_simp
                          with_reducible rfl
                        rotate_left
                        · simp only [Act.put, List.setIfInBounds_toArray, List.set_cons_zero, List.set_cons_succ, i64_w, i32_w]
                          rfl
                        refine pure_ (i := 16) (N := some 226) (v := ?_) (a' := ?_) #[true, true, true, true, true, true, true, true, true, true, true, true, true, true, true, true, true, false, false, false, false, false, false, false, false, false] rfl rfl (by kernel_rfl) (fun _ _ _ h => h) (Or.inl ⟨by rfl, ?_⟩) ?_ ?_
                        rotate_left
                        · intro w'
                          go_simp
                          with_reducible rfl
                        rotate_left
                        · simp only [Act.put, List.setIfInBounds_toArray, List.set_cons_zero, List.set_cons_succ, i64_w, i32_w]
                          rfl
                        refine pure_ (i := 17) (N := some 227) (v := ?_) (a' := ?_) #[true, true, true, true, true, true, true, true, true, true, true, true, true, true, true, true, true, true, false, false, false, false, false, false, false, false] rfl rfl (by kernel_rfl) (fun _ _ _ h => h) (Or.inl ⟨by rfl, ?_⟩) ?_ ?_
                        rotate_left
                        · intro w'
                          go_simp
                          with_reducible rfl
                        rotate_left
                        · simp only [Act.put, List.setIfInBounds_toArray, List.set_cons_zero, List.set_cons_succ, i64_w, i32_w]
                          rfl
                        refine pure_ (i := 18) (N := some 228) (v := ?_) (a' := ?_) #[true, true, true, true, true, true, true, true, true, true, true, true, true, true, true, true, true, true, true, false, false, false, false, false, false, false] rfl rfl (by kernel_rfl) (fun _ _ _ h => h) (Or.inl ⟨by rfl, ?_⟩) ?_ ?_
                        rotate_left
                        · intro w'
                          go_simp
                          with_reducible rfl
                        rotate_left
                        · simp only [Act.put, List.setIfInBounds_toArray, List.set_cons_zero, List.set_cons_succ, i64_w, i32_w]
                          rfl
                        refine pure_ (i := 19) (N := some 229) (v := ?_) (a' := ?_) #[true, true, true, true, true, true, true, true, true, true, true, true, true, true, true, true, true, true, true, true, false, false, false, false, false, false] rfl rfl (by kernel_rfl) (fun _ _ _ h => h) (Or.inl ⟨by rfl, ?_⟩) ?_ ?_
                        rotate_left
                        · intro w'
                          go_simp
                          with_reducible rfl
                        rotate_left
                        · simp only [Act.put, List.setIfInBounds_toArray, List.set_cons_zero, List.set_cons_succ, i64_w, i32_w]
                          rfl
                        refine pure_ (i := 21) (N := some 231) (v := ?_) (a' := ?_) #[true, true, true, true, true, true, true, true, true, true, true, true, true, true, true, true, true, true, true, true, false, true, false, false, false, false] rfl rfl (by kernel_rfl) (fun _ _ _ h => h) (Or.inl ⟨by rfl, ?_⟩) ?_ ?_
                        rotate_left
                        · intro w'
                          go_simp
                          with_reducible rfl
                        rotate_left
                        · simp only [Act.put, List.setIfInBounds_toArray, List.set_cons_zero, List.set_cons_succ, i64_w, i32_w]
                          rfl
                        refine pure_ (i := 22) (N := some 232) (v := ?_) (a' := ?_) #[true, true, true, true, true, true, true, true, true, true, true, true, true, true, true, true, true, true, true, true, false, true, true, false, false, false] rfl rfl (by kernel_rfl) (fun _ _ _ h => h) (Or.inl ⟨by rfl, ?_⟩) ?_ ?_
                        rotate_left
                        · intro w'
                          go_simp
                          with_reducible rfl
                        rotate_left
                        · simp only [Act.put, List.setIfInBounds_toArray, List.set_cons_zero, List.set_cons_succ, i64_w, i32_w]
                          rfl
                        refine take_ (i := 20) (N := some 230) (v := ?_) (a' := ?_) #[true, true, true, true, true, true, true, true, true, true, true, true, true, true, true, true, true, true, true, true, true, true, true, false, false, false] rfl rfl (by kernel_rfl) (fun _ _ _ h => h) (Or.inl ⟨by rfl, ?_⟩) hHeld ?_ ?_
                        rotate_left
                        · rintro w' ⟨s0, s1, s2, s3, s4, s5, s6, s7, s8, s9, s10, s11⟩
                          go_simp
                          with_reducible rfl
                        rotate_left
                        · simp only [Act.put, List.setIfInBounds_toArray, List.set_cons_zero, List.set_cons_succ, i64_w, i32_w]
                          rfl
                        refine take_ (i := 23) (N := some 233) (v := ?_) (a' := ?_) #[true, true, true, true, true, true, true, true, true, true, true, true, true, true, true, true, true, true, true, true, true, true, true, true, false, false] rfl rfl (by kernel_rfl) (fun _ _ _ h => h) (Or.inl ⟨by rfl, ?_⟩) hHeld ?_ ?_
                        rotate_left
                        · rintro w' ⟨s0, s1, s2, s3, s4, s5, s6, s7, s8, s9, s10, s11⟩
                          go_simp
                          with_reducible rfl
                        rotate_left
                        · simp only [Act.put, List.setIfInBounds_toArray, List.set_cons_zero, List.set_cons_succ, i64_w, i32_w]
                          rfl
                        refine pure_ (i := 24) (N := some 234) (v := ?_) (a' := ?_) #[true, true, true, true, true, true, true, true, true, true, true, true, true, true, true, true, true, true, true, true, true, true, true, true, true, false] rfl rfl (by kernel_rfl) (fun _ _ _ h => h) (Or.inl ⟨by rfl, ?_⟩) ?_ ?_
                        rotate_left
                        · intro w'
                          go_simp
                          with_reducible rfl
                        rotate_left
                        · simp only [Act.put, List.setIfInBounds_toArray, List.set_cons_zero, List.set_cons_succ, i64_w, i32_w]
                          rfl
                        refine pure_ (i := 25) (N := some 235) (v := ?_) (a' := ?_) #[true, true, true, true, true, true, true, true, true, true, true, true, true, true, true, true, true, true, true, true, true, true, true, true, true, true] rfl rfl (by kernel_rfl) (fun _ _ _ h => h) (Or.inl ⟨by rfl, ?_⟩) ?_ ?_
                        rotate_left
                        · intro w'
                          go_simp
                          with_reducible rfl
                        rotate_left
                        · simp only [Act.put, List.setIfInBounds_toArray, List.set_cons_zero, List.set_cons_succ, i64_w, i32_w]
                          rfl
                        refine done_ (by kernel_rfl) ?_

                        have hst6 := Hst5.out.step (hE9.trans hE6b)
                        have hr7 := hst6.r7
                        have hr8 := hst6.r8
                        rw [Hm.out] at hr7
                        rw [Hdl.out] at hr8
                        obtain ⟨g7, rfl, _⟩ := own_slice22 hr7 (by omega)
                        obtain ⟨g8, rfl, _⟩ := own_slice22 hr8 (by omega)
                        have hjc7 : j ≤ c7 ∧ c7 ≤ 9223372036854775807 := by
                          rcases hr7.2 with ⟨h0, _⟩ | ⟨g, cap, cur, hv, _, _, h1, h2, _⟩
                          · cases h0
                          · simp only [Value.slice.injEq] at hv
                            unfold maxLen at h2
                            omega
                        have hjc8 : j ≤ c8 ∧ c8 ≤ 9223372036854775807 := by
                          rcases hr8.2 with ⟨h0, _⟩ | ⟨g, cap, cur, hv, _, _, h1, h2, _⟩
                          · cases h0
                          · simp only [Value.slice.injEq] at hv
                            unfold maxLen at h2
                            omega
                        have hijn : i < j := by omega
                        obtain ⟨ad7, cc7, hcut7, had7⟩ := cutI g7 j c7 i hijn hjc7.1 hjc7.2
                        obtain ⟨ad8, cc8, hcut8, had8⟩ := cutS g8 j c8 i hijn hjc8.1 hjc8.2
                        have hic7 : (i : Int) ≤ (c7 : Int) := by omega
                        have hic8 : (i : Int) ≤ (c8 : Int) := by omega
                        have hkl : ks.length = j := Hm.out
                        have hdl : ds.length = j := Hdl.out
                        have hi1w : IntKind.i64.wrap ((i : Int) + 1) = (i : Int) + 1 := by rw [IntKind.wrap_i64]; omega
                        have hn1 : ((ks.map (Value.int .i64)).take i).length = i := by rw [List.length_take, List.length_map]; omega
                        have hn2 : ((ks.map (Value.int .i64)).drop (i + 1)).length = j - (i + 1) := by rw [List.length_drop, List.length_map]; omega
                        have hm1 : ((ds.map Value.string).take i).length = i := by rw [List.length_take, List.length_map]; omega
                        have hm2 : ((ds.map Value.string).drop (i + 1)).length = j - (i + 1) := by rw [List.length_drop, List.length_map]; omega
                        have Hst6 := Lib.hid hst6
                        have Hr7b := Lib.hid hr7
                        have Hr8b := Lib.hid hr8
                        have Hn1 := Lib.hid hn1
                        have Hn2 := Lib.hid hn2
                        have Hm1 := Lib.hid hm1
                        have Hm2 := Lib.hid hm2
                        have Hkl := Lib.hid hkl
                        have Hdl2 := Lib.hid hdl
                        have Had7 := Lib.hid had7
                        have Had8 := Lib.hid had8
                        have Hj60 := Lib.hid (show j ≤ 60 by omega)
                        clear hst6 hr7 hr8 hn1 hn2 hm1 hm2 hkl hdl had7 had8 hjc7 hjc8 q0 q1 q2 q3 q4 q5 q6 q7 q8 q9 q10 q11 HN1 HN2
                        go_upto_region 50 with fail
                        have hto7 : ∀ w, (Instr.sliceAt 28 (.slice (some ⟨g7, 0, none⟩) j c7) none (some (.int .i64 (i : Int))) none).run Tryz.prog w = .ok (.slice (some ⟨g7, 0, none⟩) i c7) w := fun w => by simp [go_sem, hi1, hic7]
                        have hna7 : ∀ W, Ext W6 W → ∀ t u, ((ks.map (Value.int .i64)).take i)[t]? = some u → W.cell? ((⟨g7, 0, none⟩ : Addr).add t) = some u := fun W h t u ht => by
                          have h1 := (List.getElem?_eq_some_iff.1 ht).1
                          rw [Hn1.out] at h1
                          rw [Addr.add_lit, Nat.zero_add, (own_ext Hr7b.out h).cellAt t (by omega), ← ht, List.getElem?_take, if_pos h1]
                        have hnb7 : ∀ W, Ext W6 W → ∀ t u, ((ks.map (Value.int .i64)).drop (i + 1))[t]? = some u → W.cell? (ad7.add t) = some u := fun W h t u ht => by
                          have h1 := (List.getElem?_eq_some_iff.1 ht).1
                          rw [Hn2.out] at h1
                          rw [Had7.out t h1, (own_ext Hr7b.out h).cellAt (i + 1 + t) (by omega), ← ht, List.getElem?_drop]
                        have hone7 : (∀ u ∈ (ks.map (Value.int .i64)).take i, u.oneCell' = true) ∧ ∀ u ∈ (ks.map (Value.int .i64)).drop (i + 1), u.oneCell' = true :=
                          ⟨fun u hu => by obtain ⟨y, _, rfl⟩ := List.mem_map.1 (List.mem_of_mem_take hu); rfl, fun u hu => by obtain ⟨y, _, rfl⟩ := List.mem_map.1 (List.mem_of_mem_drop hu); rfl⟩
                        have Hna7 := Lib.hid hna7
                        have Hnb7 := Lib.hid hnb7
                        have Hone7 := Lib.hid hone7
                        clear hna7 hnb7 hone7
                        refine start_ (n := 11) (S := fun w' => True) (ds := []) #[false, false, false, false, false, false, false, false, false, false, false] (by kernel_rfl) rfl rfl trivial (fun hHeld => ?_)
                        refine pure_ (i := 1) (N := some 237) (v := ?_) (a' := ?_) #[false, true, false, false, false, false, false, false, false, false, false] rfl rfl (by kernel_rfl) (fun _ _ _ h => h) (Or.inl ⟨by rfl, ?_⟩) ?_ ?_
                        rotate_left
                        · intro w'
                          go_simp
                          with_reducible rfl
                        rotate_left
                        · simp only [Act.put, List.setIfInBounds_toArray, List.set_cons_zero, List.set_cons_succ, i64_w, i32_w]
                          rfl
                        refine pure_ (i := 2) (N := some 238) (v := ?_) (a' := ?_) #[false, true, true, false, false, false, false, false, false, false, false] rfl rfl (by kernel_rfl) (fun _ _ _ h => h) (Or.inl ⟨by rfl, ?_⟩) ?_ ?_
                        rotate_left
                        · intro w'
                          go_simp
                          with_reducible rfl
                        rotate_left
                        · simp only [Act.put, List.setIfInBounds_toArray, List.set_cons_zero, List.set_cons_succ, i64_w, i32_w]
                          rfl
                        refine pure_ (i := 3) (N := some 239) (v := ?_) (a' := ?_) #[false, true, true, true, false, false, false, false, false, false, false] rfl rfl (by kernel_rfl) (fun _ _ _ h => h) (Or.inl ⟨by rfl, ?_⟩) ?_ ?_
                        rotate_left
                        · intro w'
                          refine yields_slice 28 (.tmp 237) none (some (.tmp 238)) none ?_ (.slice (some ⟨g7, 0, none⟩) j c7) ?_ none (some (.int .i64 (i : Int))) none ?_ ?_ ?_ (.slice (some ⟨g7, 0, none⟩) i c7) (hto7 _) <;> rfl
                        rotate_left
                        · simp only [Act.put, List.setIfInBounds_toArray, List.set_cons_zero, List.set_cons_succ, i64_w, i32_w]
                          rfl
                        refine pure_ (i := 5) (N := some 241) (v := ?_) (a' := ?_) #[false, true, true, true, false, true, false, false, false, false, false] rfl rfl (by kernel_rfl) (fun _ _ _ h => h) (Or.inl ⟨by rfl, ?_⟩) ?_ ?_
                        rotate_left
                        · intro w'
                          go_simp
                          with_reducible rfl
                        rotate_left
                        · simp only [Act.put, List.setIfInBounds_toArray, List.set_cons_zero, List.set_cons_succ, i64_w, i32_w]
                          rfl
                        refine pure_ (i := 6) (N := some 242) (v := ?_) (a' := ?_) #[false, true, true, true, false, true, true, false, false, false, false] rfl rfl (by kernel_rfl) (fun _ _ _ h => h) (Or.inl ⟨by rfl, ?_⟩) ?_ ?_
                        rotate_left
                        · intro w'
                          go_simp
                          with_reducible rfl
                        rotate_left
                        · simp only [Act.put, List.setIfInBounds_toArray, List.set_cons_zero, List.set_cons_succ, i64_w, i32_w]
                          rfl
                        refine pure_ (i := 7) (N := some 243) (v := ?_) (a' := ?_) #[false, true, true, true, false, true, true, true, false, false, false] rfl rfl (by kernel_rfl) (fun _ _ _ h => h) (Or.inl ⟨by rfl, ?_⟩) ?_ ?_
                        rotate_left
                        · intro w'
                          go_simp
                          with_reducible rfl
                        rotate_left
                        · simp only [Act.put, List.setIfInBounds_toArray, List.set_cons_zero, List.set_cons_succ, i64_w, i32_w]
                          rfl
                        refine pure_ (i := 8) (N := some 244) (v := ?_) (a' := ?_) #[false, true, true, true, false, true, true, true, true, false, false] rfl rfl (by kernel_rfl) (fun _ _ _ h => h) (Or.inl ⟨by rfl, ?_⟩) ?_ ?_
                        rotate_left
                        · intro w'
                          refine yields_slice 28 (.tmp 241) (some (.tmp 243)) none none ?_ (.slice (some ⟨g7, 0, none⟩) j c7) ?_ (some (.int .i64 ((i : Int) + 1))) none none ?_ ?_ ?_ (.slice (some ad7) (j - (i + 1)) cc7) (hcut7 _) <;> rfl
                        rotate_left
                        · simp only [Act.put, List.setIfInBounds_toArray, List.set_cons_zero, List.set_cons_succ, i64_w, i32_w]
                          rfl
                        refine one_ (i := 0) (N := some 236) #[true, true, true, true, false, true, true, true, true, false, false] rfl rfl (by kernel_rfl) (by decide) (fun K hK => ?_)
                        refine value_ (w1 := ?_) (v := ?_) (by rfl) rfl ?_ ?_
                        rotate_left 2
                        · go_simp
                          constructor
                          · rfl
                          · rfl
                        refine hK.out _ _ trivial (fun hHeld => ?_)
                        clear hK K
                        refine norm_ (a' := ?_) ?_ ?_
                        rotate_left
                        · show Act.put _ (some 236) _ = _
                          simp only [Act.put, List.setIfInBounds_toArray, List.set_cons_zero, List.set_cons_succ, i64_w, i32_w]
                          rfl
                        refine one_ (i := 4) (N := some 240) #[true, true, true, true, true, true, true, true, true, false, false] rfl rfl (by kernel_rfl) (by decide) (fun K hK => ?_)
                        refine step7 rfl _ _ rfl W6.heap.size _ 0 [] (own_zeroI (Blk.new W6.drew 3 #[]) (Nat.le_refl _)) (by rfl) ⟨g7, 0, none⟩ i c7 ((ks.map (Value.int .i64)).take i) (by rfl) Hn1.out (Hna7.out _ (((Ext.refl W6).drew).alloc _)) Hone7.out.1 (by have := Hj60.out; omega) (by simp) ?_
                        intro va Wa hownva hgrowva
                        have hEva : Ext W6 Wa := Ext.grown (((Ext.refl W6).drew).alloc _) hgrowva (fun b hb => by simp [Value.ownBlock] at hb; omega)
                        refine hK.out _ _ trivial (fun hHeld => ?_)
                        clear hK K
                        refine norm_ (a' := ?_) ?_ ?_
                        rotate_left
                        · show Act.put _ (some 240) _ = _
                          simp only [Act.put, List.setIfInBounds_toArray, List.set_cons_zero, List.set_cons_succ, i64_w, i32_w]
                          rfl
                        refine one_ (i := 9) (N := some 245) #[true, true, true, true, true, true, true, true, true, true, false] rfl rfl (by kernel_rfl) (by decide) (fun K hK => ?_)
                        refine step7 rfl _ _ rfl W6.heap.size va (0 + i) ([] ++ (ks.map (Value.int .i64)).take i) hownva (by rfl) ad7 (j - (i + 1)) cc7 ((ks.map (Value.int .i64)).drop (i + 1)) (by rfl) Hn2.out (Hnb7.out _ hEva) Hone7.out.2 (by have := Hj60.out; omega) hEva.size ?_
                        intro vb Wb hownvb hgrowvb
                        have hEvb : Ext W6 Wb := Ext.grown hEva hgrowvb (fun b hb => (hownva.lt b hb).1)
                        refine hK.out _ _ trivial (fun hHeld => ?_)
                        clear hK K
                        refine norm_ (a' := ?_) ?_ ?_
                        rotate_left
                        · show Act.put _ (some 245) _ = _
                          simp only [Act.put, List.setIfInBounds_toArray, List.set_cons_zero, List.set_cons_succ, i64_w, i32_w]
                          rfl
                        refine pure_ (i := 10) (N := some 7) (v := ?_) (a' := ?_) #[true, true, true, true, true, true, true, true, true, true, true] rfl rfl (by kernel_rfl) (fun _ _ _ h => h) (Or.inl ⟨by rfl, ?_⟩) ?_ ?_
                        rotate_left
                        · intro w'
                          go_simp
                          with_reducible rfl
                        rotate_left
                        · simp only [Act.put, List.setIfInBounds_toArray, List.set_cons_zero, List.set_cons_succ, i64_w, i32_w]
                          rfl
                        refine done_ (by kernel_rfl) ?_

                        have hk' : Wb.ownsRow W6.heap.size 3 1 vb (ks.eraseIdx i).length ((ks.eraseIdx i).map (Value.int .i64)) := by
                          have e1 : (ks.eraseIdx i).map (Value.int .i64) = [] ++ (ks.map (Value.int .i64)).take i ++ (ks.map (Value.int .i64)).drop (i + 1) := by
                            rw [List.eraseIdx_eq_take_drop_succ, List.map_append, List.map_take, List.map_drop, List.nil_append]
                          have e2 : (ks.eraseIdx i).length = 0 + i + (j - (i + 1)) := by
                            have h1 := congrArg List.length e1
                            rw [List.length_map, List.length_append, List.nil_append, Hn1.out, Hn2.out] at h1
                            omega
                          rw [e1, e2]
                          exact hownvb
                        have hst9 := Hst6.out.new7 hEvb hk'
                        have Hst9 := Lib.hid hst9
                        have hr8c := own_ext Hr8b.out hEvb
                        have Hr8c := Lib.hid hr8c
                        clear hk' hst9 hownva hgrowva hEva hownvb hgrowvb hr8c
                        go_upto_region 51 with fail
                        have hto8 : ∀ w, (Instr.sliceAt 29 (.slice (some ⟨g8, 0, none⟩) j c8) none (some (.int .i64 (i : Int))) none).run Tryz.prog w = .ok (.slice (some ⟨g8, 0, none⟩) i c8) w := fun w => by simp [go_sem, hi1, hic8]
                        have hna8 : ∀ W, Ext Wb W → ∀ t u, ((ds.map Value.string).take i)[t]? = some u → W.cell? ((⟨g8, 0, none⟩ : Addr).add t) = some u := fun W h t u ht => by
                          have h1 := (List.getElem?_eq_some_iff.1 ht).1
                          rw [Hm1.out] at h1
                          rw [Addr.add_lit, Nat.zero_add, (own_ext Hr8c.out h).cellAt t (by omega), ← ht, List.getElem?_take, if_pos h1]
                        have hnb8 : ∀ W, Ext Wb W → ∀ t u, ((ds.map Value.string).drop (i + 1))[t]? = some u → W.cell? (ad8.add t) = some u := fun W h t u ht => by
                          have h1 := (List.getElem?_eq_some_iff.1 ht).1
                          rw [Hm2.out] at h1
                          rw [Had8.out t h1, (own_ext Hr8c.out h).cellAt (i + 1 + t) (by omega), ← ht, List.getElem?_drop]
                        have hone8 : (∀ u ∈ (ds.map Value.string).take i, u.oneCell' = true) ∧ ∀ u ∈ (ds.map Value.string).drop (i + 1), u.oneCell' = true :=
                          ⟨fun u hu => by obtain ⟨y, _, rfl⟩ := List.mem_map.1 (List.mem_of_mem_take hu); rfl, fun u hu => by obtain ⟨y, _, rfl⟩ := List.mem_map.1 (List.mem_of_mem_drop hu); rfl⟩
                        have Hna8 := Lib.hid hna8
                        have Hnb8 := Lib.hid hnb8
                        have Hone8 := Lib.hid hone8
                        clear hna8 hnb8 hone8
                        refine start_ (n := 11) (S := fun w' => True) (ds := []) #[false, false, false, false, false, false, false, false, false, false, false] (by kernel_rfl) rfl rfl trivial (fun hHeld => ?_)
                        refine pure_ (i := 1) (N := some 247) (v := ?_) (a' := ?_) #[false, true, false, false, false, false, false, false, false, false, false] rfl rfl (by kernel_rfl) (fun _ _ _ h => h) (Or.inl ⟨by rfl, ?_⟩) ?_ ?_
                        rotate_left
                        · intro w'
                          go_simp
                          with_reducible rfl
                        rotate_left
                        · simp only [Act.put, List.setIfInBounds_toArray, List.set_cons_zero, List.set_cons_succ, i64_w, i32_w]
                          rfl
                        refine pure_ (i := 2) (N := some 248) (v := ?_) (a' := ?_) #[false, true, true, false, false, false, false, false, false, false, false] rfl rfl (by kernel_rfl) (fun _ _ _ h => h) (Or.inl ⟨by rfl, ?_⟩) ?_ ?_
                        rotate_left
                        · intro w'
                          go_simp
                          with_reducible rfl
                        rotate_left
                        · simp only [Act.put, List.setIfInBounds_toArray, List.set_cons_zero, List.set_cons_succ, i64_w, i32_w]
                          rfl
                        refine pure_ (i := 3) (N := some 249) (v := ?_) (a' := ?_) #[false, true, true, true, false, false, false, false, false, false, false] rfl rfl (by kernel_rfl) (fun _ _ _ h => h) (Or.inl ⟨by rfl, ?_⟩) ?_ ?_
                        rotate_left
                        · intro w'
                          refine yields_slice 29 (.tmp 247) none (some (.tmp 248)) none ?_ (.slice (some ⟨g8, 0, none⟩) j c8) ?_ none (some (.int .i64 (i : Int))) none ?_ ?_ ?_ (.slice (some ⟨g8, 0, none⟩) i c8) (hto8 _) <;> rfl
                        rotate_left
                        · simp only [Act.put, List.setIfInBounds_toArray, List.set_cons_zero, List.set_cons_succ, i64_w, i32_w]
                          rfl
                        refine pure_ (i := 5) (N := some 251) (v := ?_) (a' := ?_) #[false, true, true, true, false, true, false, false, false, false, false] rfl rfl (by kernel_rfl) (fun _ _ _ h => h) (Or.inl ⟨by rfl, ?_⟩) ?_ ?_
                        rotate_left
                        · intro w'
                          go_simp
                          with_reducible rfl
                        rotate_left
                        · simp only [Act.put, List.setIfInBounds_toArray, List.set_cons_zero, List.set_cons_succ, i64_w, i32_w]
                          rfl
                        refine pure_ (i := 6) (N := some 252) (v := ?_) (a' := ?_) #[false, true, true, true, false, true, true, false, false, false, false] rfl rfl (by kernel_rfl) (fun _ _ _ h => h) (Or.inl ⟨by rfl, ?_⟩) ?_ ?_
                        rotate_left
                        · intro w'
                          go_simp
                          with_reducible rfl
                        rotate_left
                        · simp only [Act.put, List.setIfInBounds_toArray, List.set_cons_zero, List.set_cons_succ, i64_w, i32_w]
                          rfl
                        refine pure_ (i := 7) (N := some 253) (v := ?_) (a' := ?_) #[false, true, true, true, false, true, true, true, false, false, false] rfl rfl (by kernel_rfl) (fun _ _ _ h => h) (Or.inl ⟨by rfl, ?_⟩) ?_ ?_
                        rotate_left
                        · intro w'
                          go_simp
                          with_reducible rfl
                        rotate_left
                        · simp only [Act.put, List.setIfInBounds_toArray, List.set_cons_zero, List.set_cons_succ, i64_w, i32_w]
                          rfl
                        refine pure_ (i := 8) (N := some 254) (v := ?_) (a' := ?_) #[false, true, true, true, false, true, true, true, true, false, false] rfl rfl (by kernel_rfl) (fun _ _ _ h => h) (Or.inl ⟨by rfl, ?_⟩) ?_ ?_
                        rotate_left
                        · intro w'
                          refine yields_slice 29 (.tmp 251) (some (.tmp 253)) none none ?_ (.slice (some ⟨g8, 0, none⟩) j c8) ?_ (some (.int .i64 ((i : Int) + 1))) none none ?_ ?_ ?_ (.slice (some ad8) (j - (i + 1)) cc8) (hcut8 _) <;> rfl
                        rotate_left
                        · simp only [Act.put, List.setIfInBounds_toArray, List.set_cons_zero, List.set_cons_succ, i64_w, i32_w]
                          rfl
                        refine one_ (i := 0) (N := some 246) #[true, true, true, true, false, true, true, true, true, false, false] rfl rfl (by kernel_rfl) (by decide) (fun K hK => ?_)
                        refine value_ (w1 := ?_) (v := ?_) (by rfl) rfl ?_ ?_
                        rotate_left 2
                        · go_simp
                          constructor
                          · rfl
                          · rfl
                        refine hK.out _ _ trivial (fun hHeld => ?_)
                        clear hK K
                        refine norm_ (a' := ?_) ?_ ?_
                        rotate_left
                        · show Act.put _ (some 246) _ = _
                          simp only [Act.put, List.setIfInBounds_toArray, List.set_cons_zero, List.set_cons_succ, i64_w, i32_w]
                          rfl
                        refine one_ (i := 4) (N := some 250) #[true, true, true, true, true, true, true, true, true, false, false] rfl rfl (by kernel_rfl) (by decide) (fun K hK => ?_)
                        refine step8 rfl _ _ rfl Wb.heap.size _ 0 [] (own_zeroS (Blk.new Wb.drew 9 #[]) (Nat.le_refl _)) (by rfl) ⟨g8, 0, none⟩ i c8 ((ds.map Value.string).take i) (by rfl) Hm1.out (Hna8.out _ (((Ext.refl Wb).drew).alloc _)) Hone8.out.1 (by have := Hj60.out; omega) (by simp) ?_
                        intro vc Wc hownvc hgrowvc
                        have hEvc : Ext Wb Wc := Ext.grown (((Ext.refl Wb).drew).alloc _) hgrowvc (fun b hb => by simp [Value.ownBlock] at hb; omega)
                        refine hK.out _ _ trivial (fun hHeld => ?_)
                        clear hK K
                        refine norm_ (a' := ?_) ?_ ?_
                        rotate_left
                        · show Act.put _ (some 250) _ = _
                          simp only [Act.put, List.setIfInBounds_toArray, List.set_cons_zero, List.set_cons_succ, i64_w, i32_w]
                          rfl
                        refine one_ (i := 9) (N := some 255) #[true, true, true, true, true, true, true, true, true, true, false] rfl rfl (by kernel_rfl) (by decide) (fun K hK => ?_)
                        refine step8 rfl _ _ rfl Wb.heap.size vc (0 + i) ([] ++ (ds.map Value.string).take i) hownvc (by rfl) ad8 (j - (i + 1)) cc8 ((ds.map Value.string).drop (i + 1)) (by rfl) Hm2.out (Hnb8.out _ hEvc) Hone8.out.2 (by have := Hj60.out; omega) hEvc.size ?_
                        intro vd Wd hownvd hgrowvd
                        have hEvd : Ext Wb Wd := Ext.grown hEvc hgrowvd (fun b hb => (hownvc.lt b hb).1)
                        refine hK.out _ _ trivial (fun hHeld => ?_)
                        clear hK K
                        refine norm_ (a' := ?_) ?_ ?_
                        rotate_left
                        · show Act.put _ (some 255) _ = _
                          simp only [Act.put, List.setIfInBounds_toArray, List.set_cons_zero, List.set_cons_succ, i64_w, i32_w]
                          rfl
                        refine pure_ (i := 10) (N := some 8) (v := ?_) (a' := ?_) #[true, true, true, true, true, true, true, true, true, true, true] rfl rfl (by kernel_rfl) (fun _ _ _ h => h) (Or.inl ⟨by rfl, ?_⟩) ?_ ?_
                        rotate_left
                        · intro w'
                          go_simp
                          with_reducible rfl
                        rotate_left
                        · simp only [Act.put, List.setIfInBounds_toArray, List.set_cons_zero, List.set_cons_succ, i64_w, i32_w]
                          rfl
                        refine done_ (by kernel_rfl) ?_

                        have hd' : Wd.ownsRow Wb.heap.size 9 1 vd (ds.eraseIdx i).length ((ds.eraseIdx i).map Value.string) := by
                          have e1 : (ds.eraseIdx i).map Value.string = [] ++ (ds.map Value.string).take i ++ (ds.map Value.string).drop (i + 1) := by
                            rw [List.eraseIdx_eq_take_drop_succ, List.map_append, List.map_take, List.map_drop, List.nil_append]
                          have e2 : (ds.eraseIdx i).length = 0 + i + (j - (i + 1)) := by
                            have h1 := congrArg List.length e1
                            rw [List.length_map, List.length_append, List.nil_append, Hm1.out, Hm2.out] at h1
                            omega
                          rw [e1, e2]
                          exact hownvd
                        have hst10 := Hst9.out.new8 hEvd hd'
                        go_wp2
                        go_meet
                        exact ⟨L, l.eraseIdx i, ks.eraseIdx i, ds.eraseIdx i, rfl, by omega, Lib.hid (hnum.out.less i), Lib.hid hst10⟩
                · as_aux_lemma =>
                    have hd2 : (dm == 2) = false := by simpa using h2
                    have hd3 : (dm == 3) = false := by simpa using h3
                    have hps : x.p.size ≤ 140737488355328 := Hxf.out.2.2.1
                    have hLw : IntKind.i64.wrap ((L : Int) + 1) = (L : Int) + 1 := by rw [IntKind.wrap_i64]; omega
                    have HQ := fun W => refs22_any ((L : Int) + 1) W (by omega) (by omega)
                    have HR := fun W h => RStack_any (.slice A s.length c) s W h
                    clear h2 h3 hdm1
                    rcases open_cases s x.p with ⟨hso, hlk⟩ | ⟨hso, cc, hc0, hlk, hat⟩ | ⟨hso, xx, hlk, hat⟩
                    · as_aux_lemma =>
                        have HO := fun W r h => open_bad tb (.slice A s.length c) r s x.p 16 W h hps hlk
                        rw [hso] at HR
                        clear hlk hso hps
                        go_upto_region 20 with fail
                        go_region_held3 (fun w' => w'.cell? ⟨xb, 1, none⟩ = some (.string x.p))
                          (first | go_keep | exact y1 | exact hE9.cell y1 | exact hE10.cell y1)
                          (first
                            | (go_at_call 11; refine (HQ _).mono ?_; rintro e W9 ⟨b9, rfl, hb9, hs9, hE9'⟩; have hE9 : Ext wr W9 := Ext.trans (by exact (by repeat (first | exact Ext.refl _ | assumption | refine Ext.alloc ?_ _ | refine Ext.drew ?_ | refine Ext.drewN ?_ _ | refine Ext.setCell ?_ (by first | omega | (simp; done) | (simp; omega)) _ | refine Ext.trans ?_ (by assumption)))) hE9')
                            | (go_at_call 12; refine (HO _ _ (Hv.out.ext (HE4.out.trans (by exact (by repeat (first | exact Ext.refl _ | assumption | refine Ext.alloc ?_ _ | refine Ext.drew ?_ | refine Ext.drewN ?_ _ | refine Ext.setCell ?_ (by first | omega | (simp; done) | (simp; omega)) _ | refine Ext.trans ?_ (by assumption))))))).mono ?_; rintro e W10 ⟨a10, rfl, hEr, hE10'⟩; have hE10 : Ext wr W10 := hE9.trans (Ext.trans (by exact (by repeat (first | exact Ext.refl _ | assumption | refine Ext.alloc ?_ _ | refine Ext.drew ?_ | refine Ext.drewN ?_ _ | refine Ext.setCell ?_ (by first | omega | (simp; done) | (simp; omega)) _ | refine Ext.trans ?_ (by assumption)))) hE10'); have HC10 := code22 hEr (HLr.out.ext hE10)))
                        all_goals clear HQ HO hEr hE10' hb9 hs9
                        all_goals go_wp2_with (first
                          | (go_at_call 13; refine (HR _ (Hv.out.ext (HE4.out.trans (by exact (by repeat (first | exact Ext.refl _ | assumption | refine Ext.alloc ?_ _ | refine Ext.drew ?_ | refine Ext.drewN ?_ _ | refine Ext.setCell ?_ (by first | omega | (simp; done) | (simp; omega)) _ | refine Ext.trans ?_ (by assumption))))))).mono ?_; rintro e W11 ⟨rfl, hE11⟩)
                          | (go_at_call 8; (with_reducible refine (HC10 _ ?h).mono ?_); (case h => exact (by repeat (first | exact Ext.refl _ | assumption | refine Ext.alloc ?_ _ | refine Ext.drew ?_ | refine Ext.drewN ?_ _ | refine Ext.setCell ?_ (by first | omega | (simp; done) | (simp; omega)) _ | refine Ext.trans ?_ (by assumption)))); rintro e W12 ⟨rfl, hE12⟩)
                          | fail)
                        all_goals go_meet
                        all_goals exact ⟨L, l, ks, ds, rfl, by omega, hnum, Lib.hid (hst4.out.step (by exact (by repeat (first | exact Ext.refl _ | assumption | refine Ext.alloc ?_ _ | refine Ext.drew ?_ | refine Ext.drewN ?_ _ | refine Ext.setCell ?_ (by first | omega | (simp; done) | (simp; omega)) _ | refine Ext.trans ?_ (by assumption)))))⟩
                    · as_aux_lemma =>
                        have HO := fun W r h => open_bad tb (.slice A s.length c) r s x.p cc W h hps hlk
                        have HT := fun W h => RAt_any (.slice A s.length c) s x.p W h hso hps
                        have hc1 : (cc == 0) = false := by simpa using hc0
                        have hc2 : (cc != 0) = true := by simpa using hc0
                        rw [hso] at HR
                        rw [hat] at HT
                        clear hlk hso hps hat hc0
                        go_upto_region 20 with fail
                        go_region_held3 (fun w' => w'.cell? ⟨xb, 1, none⟩ = some (.string x.p))
                          (first | go_keep | exact y1 | exact hE9.cell y1 | exact hE10.cell y1)
                          (first
                            | (go_at_call 11; refine (HQ _).mono ?_; rintro e W9 ⟨b9, rfl, hb9, hs9, hE9'⟩; have hE9 : Ext wr W9 := Ext.trans (by exact (by repeat (first | exact Ext.refl _ | assumption | refine Ext.alloc ?_ _ | refine Ext.drew ?_ | refine Ext.drewN ?_ _ | refine Ext.setCell ?_ (by first | omega | (simp; done) | (simp; omega)) _ | refine Ext.trans ?_ (by assumption)))) hE9')
                            | (go_at_call 12; refine (HO _ _ (Hv.out.ext (HE4.out.trans (by exact (by repeat (first | exact Ext.refl _ | assumption | refine Ext.alloc ?_ _ | refine Ext.drew ?_ | refine Ext.drewN ?_ _ | refine Ext.setCell ?_ (by first | omega | (simp; done) | (simp; omega)) _ | refine Ext.trans ?_ (by assumption))))))).mono ?_; rintro e W10 ⟨a10, rfl, hEr, hE10'⟩; have hE10 : Ext wr W10 := hE9.trans (Ext.trans (by exact (by repeat (first | exact Ext.refl _ | assumption | refine Ext.alloc ?_ _ | refine Ext.drew ?_ | refine Ext.drewN ?_ _ | refine Ext.setCell ?_ (by first | omega | (simp; done) | (simp; omega)) _ | refine Ext.trans ?_ (by assumption)))) hE10'); have HC10 := code22 hEr (HLr.out.ext hE10); have q1 := hE10.cell y1))
                        all_goals clear HQ HO hEr hE10' hb9 hs9
                        all_goals go_wp2_with (first
                          | (go_at_call 13; refine (HR _ (Hv.out.ext (HE4.out.trans (by exact (by repeat (first | exact Ext.refl _ | assumption | refine Ext.alloc ?_ _ | refine Ext.drew ?_ | refine Ext.drewN ?_ _ | refine Ext.setCell ?_ (by first | omega | (simp; done) | (simp; omega)) _ | refine Ext.trans ?_ (by assumption))))))).mono ?_; rintro e W11 ⟨rfl, hE11⟩; have r1 := hE11.cell q1)
                          | (go_at_call 14; refine (HT _ (Hv.out.ext (HE4.out.trans (by exact (by repeat (first | exact Ext.refl _ | assumption | refine Ext.alloc ?_ _ | refine Ext.drew ?_ | refine Ext.drewN ?_ _ | refine Ext.setCell ?_ (by first | omega | (simp; done) | (simp; omega)) _ | refine Ext.trans ?_ (by assumption))))))).mono ?_; rintro e W13 ⟨rfl, hE13⟩)
                          | (go_at_call 8; (with_reducible refine (HC10 _ ?h).mono ?_); (case h => exact (by repeat (first | exact Ext.refl _ | assumption | refine Ext.alloc ?_ _ | refine Ext.drew ?_ | refine Ext.drewN ?_ _ | refine Ext.setCell ?_ (by first | omega | (simp; done) | (simp; omega)) _ | refine Ext.trans ?_ (by assumption)))); rintro e W12 ⟨rfl, hE12⟩)
                          | fail)
                        all_goals go_meet
                        all_goals exact ⟨L, l, ks, ds, rfl, by omega, hnum, Lib.hid (hst4.out.step (by exact (by repeat (first | exact Ext.refl _ | assumption | refine Ext.alloc ?_ _ | refine Ext.drew ?_ | refine Ext.drewN ?_ _ | refine Ext.setCell ?_ (by first | omega | (simp; done) | (simp; omega)) _ | refine Ext.trans ?_ (by assumption)))))⟩
                    · have hsz := at_size hso hat
                      have HT := fun W h => RAt_any (.slice A s.length c) s x.p W h hso hps
                      rw [hat] at HT
                      rw [hso] at HR
                      by_cases hk2 : xx.1.kind = 2
                      · as_aux_lemma =>
                          have HO := fun W r h => open_dir tb (.slice A s.length c) r s x.p xx W h hps hlk hk2
                          obtain ⟨xd, hxd⟩ : ∃ xd, xx.1.data = xd := ⟨_, rfl⟩
                          rw [hxd, hk2] at HT
                          clear hlk hso hps hat hk2 hsz hxd
                          go_upto_region 20 with fail
                          go_region_held3 (fun w' => w'.cell? ⟨xb, 1, none⟩ = some (.string x.p))
                            (first | go_keep | exact y1 | exact hE9.cell y1 | exact hE10.cell y1)
                            (first
                              | (go_at_call 11; refine (HQ _).mono ?_; rintro e W9 ⟨b9, rfl, hb9, hs9, hE9'⟩; have hE9 : Ext wr W9 := Ext.trans (by exact (by repeat (first | exact Ext.refl _ | assumption | refine Ext.alloc ?_ _ | refine Ext.drew ?_ | refine Ext.drewN ?_ _ | refine Ext.setCell ?_ (by first | omega | (simp; done) | (simp; omega)) _ | refine Ext.trans ?_ (by assumption)))) hE9')
                              | (go_at_call 12; refine (HO _ _ (Hv.out.ext (HE4.out.trans (by exact (by repeat (first | exact Ext.refl _ | assumption | refine Ext.alloc ?_ _ | refine Ext.drew ?_ | refine Ext.drewN ?_ _ | refine Ext.setCell ?_ (by first | omega | (simp; done) | (simp; omega)) _ | refine Ext.trans ?_ (by assumption))))))).mono ?_; rintro e W10 ⟨a10, rfl, hEr, hE10'⟩; have hE10 : Ext wr W10 := hE9.trans (Ext.trans (by exact (by repeat (first | exact Ext.refl _ | assumption | refine Ext.alloc ?_ _ | refine Ext.drew ?_ | refine Ext.drewN ?_ _ | refine Ext.setCell ?_ (by first | omega | (simp; done) | (simp; omega)) _ | refine Ext.trans ?_ (by assumption)))) hE10'); have HC10 := code22 hEr (HLr.out.ext hE10); have q1 := hE10.cell y1))
                          all_goals clear HQ HO hEr hE10' hb9 hs9
                          all_goals go_wp2_with (first
                            | (go_at_call 13; refine (HR _ (Hv.out.ext (HE4.out.trans (by exact (by repeat (first | exact Ext.refl _ | assumption | refine Ext.alloc ?_ _ | refine Ext.drew ?_ | refine Ext.drewN ?_ _ | refine Ext.setCell ?_ (by first | omega | (simp; done) | (simp; omega)) _ | refine Ext.trans ?_ (by assumption))))))).mono ?_; rintro e W11 ⟨rfl, hE11⟩; have r1 := hE11.cell q1)
                            | (go_at_call 14; refine (HT _ (Hv.out.ext (HE4.out.trans (by exact (by repeat (first | exact Ext.refl _ | assumption | refine Ext.alloc ?_ _ | refine Ext.drew ?_ | refine Ext.drewN ?_ _ | refine Ext.setCell ?_ (by first | omega | (simp; done) | (simp; omega)) _ | refine Ext.trans ?_ (by assumption))))))).mono ?_; rintro e W13 ⟨rfl, hE13⟩)
                            | (go_at_call 8; (with_reducible refine (HC10 _ ?h).mono ?_); (case h => exact (by repeat (first | exact Ext.refl _ | assumption | refine Ext.alloc ?_ _ | refine Ext.drew ?_ | refine Ext.drewN ?_ _ | refine Ext.setCell ?_ (by first | omega | (simp; done) | (simp; omega)) _ | refine Ext.trans ?_ (by assumption)))); rintro e W12 ⟨rfl, hE12⟩)
                            | fail)
                          all_goals go_meet
                          all_goals exact ⟨L, l, ks, ds, rfl, by omega, hnum, Lib.hid (hst4.out.step (by exact (by repeat (first | exact Ext.refl _ | assumption | refine Ext.alloc ?_ _ | refine Ext.drew ?_ | refine Ext.drewN ?_ _ | refine Ext.setCell ?_ (by first | omega | (simp; done) | (simp; omega)) _ | refine Ext.trans ?_ (by assumption)))))⟩
                      · as_aux_lemma =>
                          have HO := fun W r h ht hr hro => open_yes tb bm L (L : Int) l (.slice A s.length c) r s x.p xx (refsOf ((L : Int) + 1)) W h hps hlk hk2 ht hr hro (by decide : (2 : Nat) ≤ 5000000000000) (by omega) (by omega) (by omega) hnum.out.low
                          have hkk : (xx.1.kind == 2) = false := by simpa using hk2
                          obtain ⟨xd, hxd⟩ : ∃ xd, xx.1.data = xd := ⟨_, rfl⟩
                          obtain ⟨xk, hxk⟩ : ∃ xk, xx.1.kind = xk := ⟨_, rfl⟩
                          rw [hxd] at HO HT hsz
                          rw [hxk] at HT hkk
                          have hoff : Hid (∀ b9, wr.heap.size ≤ b9 → Off (Two tb bm) (.slice (some ⟨b9, 0, none⟩) 2 2)) := Lib.hid fun b9 h9 b o n c e hb => by
                            cases e
                            have := (Hfx.out.two _ hb).2
                            have := hst4.out.bas
                            omega
                          have hxt : Hid (¬ Two tb bm xb) := Lib.hid fun hb => by
                            have := (Hfx.out.two _ hb).2
                            have := Hxb.out
                            omega
                          clear hlk hso hps hat hk2 hxd hxk
                          go_upto_region 20 with fail
                          go_region_held3 (fun w' => w'.cell? ⟨xb, 1, none⟩ = some (.string x.p))
                            (first | go_keep | exact y1 | exact hE9.cell y1 | exact q1)
                            (first
                              | (go_at_call 11; refine (HQ _).mono ?_; rintro e W9 ⟨b9, rfl, hb9, hs9, hE9'⟩; have hE9 : Ext wr W9 := Ext.trans (by exact (by repeat (first | exact Ext.refl _ | assumption | refine Ext.alloc ?_ _ | refine Ext.drew ?_ | refine Ext.drewN ?_ _ | refine Ext.setCell ?_ (by first | omega | (simp; done) | (simp; omega)) _ | refine Ext.trans ?_ (by assumption)))) hE9'; have hs9' : wr.heap.size ≤ b9 := Nat.le_trans (Ext.size (by exact (by repeat (first | exact Ext.refl _ | assumption | refine Ext.alloc ?_ _ | refine Ext.drew ?_ | refine Ext.drewN ?_ _ | refine Ext.setCell ?_ (by first | omega | (simp; done) | (simp; omega)) _ | refine Ext.trans ?_ (by assumption))))) hs9)
                              | (go_at_call 12; refine (HO _ _ (Hv.out.ext (HE4.out.trans (by exact (by repeat (first | exact Ext.refl _ | assumption | refine Ext.alloc ?_ _ | refine Ext.drew ?_ | refine Ext.drewN ?_ _ | refine Ext.setCell ?_ (by first | omega | (simp; done) | (simp; omega)) _ | refine Ext.trans ?_ (by assumption)))))) (Hpt.out.ext (by exact (by repeat (first | exact Ext.refl _ | assumption | refine Ext.alloc ?_ _ | refine Ext.drew ?_ | refine Ext.drewN ?_ _ | refine Ext.setCell ?_ (by first | omega | (simp; done) | (simp; omega)) _ | refine Ext.trans ?_ (by assumption))))) (refs_rd (hb9.ext (by exact (by repeat (first | exact Ext.refl _ | assumption | refine Ext.alloc ?_ _ | refine Ext.drew ?_ | refine Ext.drewN ?_ _ | refine Ext.setCell ?_ (by first | omega | (simp; done) | (simp; omega)) _ | refine Ext.trans ?_ (by assumption)))))) (hoff.out _ hs9')).mono ?_; rintro e W10 ⟨A10, c10, rfl, ht10, hr10, ho10, hn10, hw10, hB10⟩; have hst10 := StM.more Hfx.out (hst4.out.step (by exact (by repeat (first | exact Ext.refl _ | assumption | refine Ext.alloc ?_ _ | refine Ext.drew ?_ | refine Ext.drewN ?_ _ | refine Ext.setCell ?_ (by first | omega | (simp; done) | (simp; omega)) _ | refine Ext.trans ?_ (by assumption))))) (d := xd) ht10 hB10 hr10 ho10 hn10 hw10; have q1 := ((hX4.ext (by exact (by repeat (first | exact Ext.refl _ | assumption | refine Ext.alloc ?_ _ | refine Ext.drew ?_ | refine Ext.drewN ?_ _ | refine Ext.setCell ?_ (by first | omega | (simp; done) | (simp; omega)) _ | refine Ext.trans ?_ (by assumption))))).but hB10 hxt.out).cell 1 rfl))
                          have Hst10 := Lib.hid hst10
                          have HE10 := Lib.hid (HW.out.trans hst10.ext)
                          clear hst10 ht10 hr10 ho10 hn10 hw10 hB10 HO HQ hb9 hs9 hs9' hoff hxt
                          go_upto_region 30 with (first
                            | (go_at_call 13; refine (HR _ (Hv.out.ext (HE10.out.trans (by exact (by repeat (first | exact Ext.refl _ | assumption | refine Ext.alloc ?_ _ | refine Ext.drew ?_ | refine Ext.drewN ?_ _ | refine Ext.setCell ?_ (by first | omega | (simp; done) | (simp; omega)) _ | refine Ext.trans ?_ (by assumption))))))).mono ?_; rintro e W11 ⟨rfl, hE11⟩; have r1 := hE11.cell q1)
                            | (go_at_call 14; refine (HT _ (Hv.out.ext (HE10.out.trans (by exact (by repeat (first | exact Ext.refl _ | assumption | refine Ext.alloc ?_ _ | refine Ext.drew ?_ | refine Ext.drewN ?_ _ | refine Ext.setCell ?_ (by first | omega | (simp; done) | (simp; omega)) _ | refine Ext.trans ?_ (by assumption))))))).mono ?_; rintro e W13 ⟨rfl, hE13⟩)
                            | (go_at_call 8; ((with_reducible refine (Code_nil _).mono ?_)); rintro e W12 ⟨rfl, hE12⟩)
                            | fail)
                          go_upto_region 31 with fail
                          have hst12 := Hst10.out.step (show Ext W10 W12 by exact (by repeat (first | exact Ext.refl _ | assumption | refine Ext.alloc ?_ _ | refine Ext.drew ?_ | refine Ext.drewN ?_ _ | refine Ext.setCell ?_ (by first | omega | (simp; done) | (simp; omega)) _ | refine Ext.trans ?_ (by assumption))))
                          have hb12 := hst12.bas
                          have hj7 : ks.length ≤ 1000000 := by have := Hm.out; omega
                          have hj8 : ds.length ≤ 1000000 := by have := Hdl.out; omega
                          go_wp2_with (first
                            | (at_builtin; refine app7 rfl _ _ rfl base (Nat.le_trans hb12 (by simp)) _ _ _ rfl (own_ext hst12.r7 ((Ext.refl W12).alloc _)) ⟨W12.heap.size, 0, none⟩ 1 ((L : Int) + 1) rfl (World.news_of_block (cs := #[.int .i64 ((L : Int) + 1)]) (t := 3) (fr := (0, 0)) (Blk.new W12 _ _)) hj7 ?_; intro v14 W14 hown14 hg14 hat14; have hst14 := StM.put7 Hfx.out (hst12.step ((Ext.refl W12).alloc _)) hg14 hat14 hown14; obtain ⟨A14, c14, rfl⟩ := own_form hown14)
                            | (at_builtin; refine app8 rfl _ _ rfl base (Nat.le_trans hst14.bas (by simp)) _ _ _ rfl (own_ext hst14.r8 ((Ext.refl W14).alloc _)) ⟨W14.heap.size, 0, none⟩ 1 xd rfl (World.news_of_block (cs := #[.string xd]) (t := 9) (fr := (0, 0)) (Blk.new W14 _ _)) hj8 ?_; intro v15 W15 hown15 hg15 hat15; have hst15 := StM.put8 Hfx.out (hst14.step ((Ext.refl W14).alloc _)) hg15 hat15 hown15)
                            | fail)
                          go_meet
                          exact ⟨L + 1, _, _, _, by simp, by omega, Lib.hid (hnum.out.snoc xd hsz _), Lib.hid hst15⟩
            case rest =>
              as_aux_lemma =>
                clear Hr74 Hr84 Hxf hX4 y0 y1 y2 y3 y4 hst4 Hm Hdl hm60 hnum hp hp' hd0 hd1 Hj
                obtain ⟨L', l', ks', ds', rfl, hL', hnum', hst'⟩ := hcut
                have hlen' := num_len hnum'.out
                obtain ⟨m', hm'⟩ : ∃ m', l'.length = m' := ⟨_, rfl⟩
                have hks' : ks'.length = m' := by rw [hnum'.out.ek, List.length_map, hm']
                have hds' : ds'.length = m' := by rw [hnum'.out.ed, List.length_map, hm']
                have hr7' := hst'.out.r7
                have hr8' := hst'.out.r8
                rw [hks'] at hr7'
                rw [hds'] at hr8'
                obtain ⟨B7, e7, rfl⟩ := own_form hr7'
                obtain ⟨B8, e8, rfl⟩ := own_form hr8'
                have HR := plays_refs hnum'.out hst'.out.pt hst'.out.hs (by omega)
                have HC := fun W h => Count_any tb bm L' (L' : Int) l' W h
                rw [hm'] at HC hlen'
                have hflat := flat_len l'
                rw [hm'] at hflat
                obtain ⟨rl, hrl⟩ : ∃ rl, 2 * m' = rl := ⟨_, rfl⟩
                rw [hrl] at hflat
                have Hpt := Lib.hid hst'.out.pt
                have Hr7' := Lib.hid hr7'
                have HE5 := Lib.hid (HW.out.trans hst'.out.ext)
                have h2m : IntKind.i64.wrap (2 * (m' : Int)) = (rl : Int) := by rw [IntKind.wrap_i64]; omega
                have Hk' := Lib.hid hnum'.out.ek
                have Hm' := Lib.hid hm'
                clear hr7' hr8' hks' hds' hm'
                go_upto_region 55 with (first | (go_at_call 15; refine HR.mono ?_; rintro e W5 ⟨v24, rfl, hg, hE5⟩; obtain ⟨Ag, cg, rfl, hg1, hg2, Hgc⟩ := rdR_form hg hflat.symm) | (go_at_call 16; refine (HC _ (Hpt.out.ext (by exact (by repeat (first | exact Ext.refl _ | assumption | refine Ext.alloc ?_ _ | refine Ext.drew ?_ | refine Ext.drewN ?_ _ | refine Ext.setCell ?_ (by first | omega | (simp; done) | (simp; omega)) _ | refine Ext.trans ?_ (by assumption)))))).mono ?_; rintro e W6 ⟨rfl, rfl⟩))
                go_upto_region 56 with (fail)
                have HW6 := Lib.hid (show Ext wc W5 by exact (by repeat (first | exact Ext.refl _ | assumption | refine Ext.alloc ?_ _ | refine Ext.drew ?_ | refine Ext.drewN ?_ _ | refine Ext.setCell ?_ (by first | omega | (simp; done) | (simp; omega)) _ | refine Ext.trans ?_ (by assumption))))
                have Hgl := Lib.hid hflat
                have Hhnum := Lib.hid hnum'
                clear hE5 HR HC hflat hg
                go_loopw [25] (fun v25 wr => ∃ q : Nat, v25 = .int .i64 q ∧ q ≤ m' ∧ Ext W5 wr) (fun v25 _ => m' - (intOf v25).toNat)
                case atStart => exact ⟨0, rfl, Nat.zero_le _, Ext.refl _⟩
                case round =>
                  obtain ⟨q, rfl, hqm, hEq⟩ := hrel
                  by_cases hqlt : q < m'
                  · as_aux_lemma =>
                      have hql : q < l'.length := by have := Hm'.out; omega
                      obtain ⟨hf1, hf2⟩ := flat_at hql
                      obtain ⟨g7, rfl, _⟩ := own_slice22 Hr7'.out (by omega)
                      have hWr := HW6.out.trans hEq
                      obtain ⟨y, hy⟩ : ∃ y, (l'[q]'hql).1 = y := ⟨_, rfl⟩
                      rw [hy] at hf1 hf2
                      have c7 : wc.cell? ⟨g7, q, none⟩ = some (.int .i64 y) := (Hr7'.out.cellAt q (by omega)).trans (by rw [Hk'.out, List.map_map, List.getElem?_map, List.getElem?_eq_getElem hql]; simp [hy])
                      have c7 := hWr.cell c7
                      have hyr := Hhnum.out.out.rng _ (List.getElem_mem hql)
                      rw [hy] at hyr
                      have hy0 := hyr.1
                      have hy1 := hyr.2
                      obtain ⟨i2, hi2⟩ : ∃ i2, 2 * q = i2 := ⟨_, rfl⟩
                      rw [hi2] at hf1 hf2
                      obtain ⟨hf1a, hf1b⟩ := List.getElem?_eq_some_iff.1 hf1
                      obtain ⟨hf2a, hf2b⟩ := List.getElem?_eq_some_iff.1 hf2
                      obtain ⟨bg, og, rfl, hgc⟩ := Hgc.out (List.ne_nil_of_length_pos (by omega))
                      obtain ⟨p0, p1, p2⟩ := hgc i2 hf1a
                      obtain ⟨p3, p4, p5⟩ := hgc (i2 + 1) hf2a
                      rw [hf1b] at p0 p1 p2
                      rw [hf2b] at p3 p4 p5
                      have hEg : Ext W5 wr := hEq
                      have p0 := hEg.cell p0
                      have p1 := hEg.cell p1
                      have p2 := hEg.cell p2
                      have p3 := hEg.cell p3
                      have p4 := hEg.cell p4
                      have p5 := hEg.cell p5
                      have hw1 : IntKind.i64.wrap (2 * (q : Int)) = (i2 : Int) := by rw [IntKind.wrap_i64]; omega
                      have hw2 : IntKind.i64.wrap ((i2 : Int) + 1) = (i2 : Int) + 1 := by rw [IntKind.wrap_i64]; omega
                      have hi2l : i2 + 1 < rl := by omega
                      have hi2a : (i2 : Int) < (rl : Int) := by omega
                      have hi2c : (0 : Int) ≤ (i2 : Int) + 1 := by omega
                      have hi2d : ((i2 : Int) + 1).toNat = i2 + 1 := by omega
                      have hi2b : (i2 : Int) + 1 < (rl : Int) := by omega
                      have HQ := fun W => refs22_any y W (by omega) (by omega)
                      have HN1 : ∀ w, (binOp .neq 44 (.agg #[.int .i64 y, .int .i64 1, .int .u32 y]) (.agg #[.int .i64 y, .int .i64 1, .int .u32 y])).run Tryz.prog w = .ok (.bool false) w := neq_ref ⟨y, 1, y⟩
                      have HN2 : ∀ w, (binOp .neq 44 (.agg #[.int .i64 y, .int .i64 2, .int .u32 0]) (.agg #[.int .i64 y, .int .i64 2, .int .u32 0])).run Tryz.prog w = .ok (.bool false) w := neq_ref ⟨y, 2, 0⟩
                      have Hqlt := Lib.hid hqlt
                      clear hf1 hf2 hf1a hf1b hf2a hf2b hgc hy hi2
                      go_upto_region 58 with (fail)
                      refine start_ (n := 29) (S := fun w' => w'.cell? ⟨bg, og + i2 * 3, none⟩ = some (.int .i64 y) ∧ w'.cell? ⟨bg, og + i2 * 3 + 1, none⟩ = some (.int .i64 1) ∧ w'.cell? ⟨bg, og + i2 * 3 + 2, none⟩ = some (.int .u32 y) ∧ w'.cell? ⟨bg, og + (i2 + 1) * 3, none⟩ = some (.int .i64 y) ∧ w'.cell? ⟨bg, og + (i2 + 1) * 3 + 1, none⟩ = some (.int .i64 2) ∧ w'.cell? ⟨bg, og + (i2 + 1) * 3 + 2, none⟩ = some (.int .u32 0) ∧ w'.cell? ⟨g7, q, none⟩ = some (.int .i64 y)) (ds := []) #[false, false, false, false, false, false, false, false, false, false, false, false, false, false, false, false, false, false, false, false, false, false, false, false, false, false, false, false, false] (by kernel_rfl) rfl rfl ⟨p0, p1, p2, p3, p4, p5, c7⟩ (fun hHeld => ?_)
                      refine pure_ (i := 0) (N := some 277) (v := ?_) (a' := ?_) #[true, false, false, false, false, false, false, false, false, false, false, false, false, false, false, false, false, false, false, false, false, false, false, false, false, false, false, false, false] rfl rfl (by kernel_rfl) (fun _ _ _ h => h) (Or.inl ⟨by rfl, ?_⟩) ?_ ?_
                      rotate_left
                      · intro w'
                        go_simp
                        with_reducible rfl
                      rotate_left
                      · simp only [Act.put, List.setIfInBounds_toArray, List.set_cons_zero, List.set_cons_succ, i64_w, i32_w]
                        rfl
                      refine pure_ (i := 1) (N := some 278) (v := ?_) (a' := ?_) #[true, true, false, false, false, false, false, false, false, false, false, false, false, false, false, false, false, false, false, false, false, false, false, false, false, false, false, false, false] rfl rfl (by kernel_rfl) (fun _ _ _ h => h) (Or.inl ⟨by rfl, ?_⟩) ?_ ?_
                      rotate_left
                      · intro w'
                        go_simp
                        with_reducible rfl
                      rotate_left
                      · simp only [Act.put, List.setIfInBounds_toArray, List.set_cons_zero, List.set_cons_succ, i64_w, i32_w]
                        rfl
                      refine pure_ (i := 2) (N := some 279) (v := ?_) (a' := ?_) #[true, true, true, false, false, false, false, false, false, false, false, false, false, false, false, false, false, false, false, false, false, false, false, false, false, false, false, false, false] rfl rfl (by kernel_rfl) (fun _ _ _ h => h) (Or.inl ⟨by rfl, ?_⟩) ?_ ?_
                      rotate_left
                      · intro w'
                        go_simp
                        with_reducible rfl
                      rotate_left
                      · simp only [Act.put, List.setIfInBounds_toArray, List.set_cons_zero, List.set_cons_succ, i64_w, i32_w]
                        rfl
                      refine pure_ (i := 3) (N := some 280) (v := ?_) (a' := ?_) #[true, true, true, true, false, false, false, false, false, false, false, false, false, false, false, false, false, false, false, false, false, false, false, false, false, false, false, false, false] rfl rfl (by kernel_rfl) (fun _ _ _ h => h) (Or.inl ⟨by rfl, ?_⟩) ?_ ?_
                      rotate_left
                      · intro w'
                        go_simp
                        with_reducible rfl
                      rotate_left
                      · simp only [Act.put, List.setIfInBounds_toArray, List.set_cons_zero, List.set_cons_succ, i64_w, i32_w]
                        rfl
                      refine pure_ (i := 5) (N := some 282) (v := ?_) (a' := ?_) #[true, true, true, true, false, true, false, false, false, false, false, false, false, false, false, false, false, false, false, false, false, false, false, false, false, false, false, false, false] rfl rfl (by kernel_rfl) (fun _ _ _ h => h) (Or.inl ⟨by rfl, ?_⟩) ?_ ?_
                      rotate_left
                      · intro w'
                        go_simp
                        with_reducible rfl
                      rotate_left
                      · simp only [Act.put, List.setIfInBounds_toArray, List.set_cons_zero, List.set_cons_succ, i64_w, i32_w]
                        rfl
                      refine pure_ (i := 6) (N := some 283) (v := ?_) (a' := ?_) #[true, true, true, true, false, true, true, false, false, false, false, false, false, false, false, false, false, false, false, false, false, false, false, false, false, false, false, false, false] rfl rfl (by kernel_rfl) (fun _ _ _ h => h) (Or.inl ⟨by rfl, ?_⟩) ?_ ?_
                      rotate_left
                      · intro w'
                        go_simp
                        with_reducible rfl
                      rotate_left
                      · simp only [Act.put, List.setIfInBounds_toArray, List.set_cons_zero, List.set_cons_succ, i64_w, i32_w]
                        rfl
                      refine pure_ (i := 7) (N := some 284) (v := ?_) (a' := ?_) #[true, true, true, true, false, true, true, true, false, false, false, false, false, false, false, false, false, false, false, false, false, false, false, false, false, false, false, false, false] rfl rfl (by kernel_rfl) (fun _ _ _ h => h) (Or.inl ⟨by rfl, ?_⟩) ?_ ?_
                      rotate_left
                      · intro w'
                        go_simp
                        with_reducible rfl
                      rotate_left
                      · simp only [Act.put, List.setIfInBounds_toArray, List.set_cons_zero, List.set_cons_succ, i64_w, i32_w]
                        rfl
                      refine take_ (i := 4) (N := some 281) (v := ?_) (a' := ?_) #[true, true, true, true, true, true, true, true, false, false, false, false, false, false, false, false, false, false, false, false, false, false, false, false, false, false, false, false, false] rfl rfl (by kernel_rfl) (fun _ _ _ h => h) (Or.inl ⟨by rfl, ?_⟩) hHeld ?_ ?_
                      rotate_left
                      · rintro w' ⟨s0, s1, s2, s3, s4, s5, s6⟩
                        go_simp
                        with_reducible rfl
                      rotate_left
                      · simp only [Act.put, List.setIfInBounds_toArray, List.set_cons_zero, List.set_cons_succ, i64_w, i32_w]
                        rfl
                      refine take_ (i := 8) (N := some 285) (v := ?_) (a' := ?_) #[true, true, true, true, true, true, true, true, true, false, false, false, false, false, false, false, false, false, false, false, false, false, false, false, false, false, false, false, false] rfl rfl (by kernel_rfl) (fun _ _ _ h => h) (Or.inl ⟨by rfl, ?_⟩) hHeld ?_ ?_
                      rotate_left
                      · rintro w' ⟨s0, s1, s2, s3, s4, s5, s6⟩
                        go_simp
                        with_reducible rfl
                      rotate_left
                      · simp only [Act.put, List.setIfInBounds_toArray, List.set_cons_zero, List.set_cons_succ, i64_w, i32_w]
                        rfl
                      refine one_ (i := 9) (N := some 286) #[true, true, true, true, true, true, true, true, true, true, false, false, false, false, false, false, false, false, false, false, false, false, false, false, false, false, false, false, false] rfl rfl (by kernel_rfl) (by decide) (fun K hK => ?_)
                      refine goes_ Tryz.func11 (by kernel_rfl) rfl #[.int .i64 y] (by rfl) rfl rfl (by simp only [List.map_toArray, List.map_cons, List.map_nil]; rfl) ?_
                      with_reducible refine (HQ _).mono ?_
                      rintro e W9 ⟨b9, rfl, hb9, hs9, hE9'⟩
                      have hE9 : Ext wr W9 := ((Ext.refl wr).drew).trans hE9'
                      have z0 : W9.cell? ⟨b9, 0, none⟩ = some (.int .i64 y) := hb9.cell 0 rfl
                      have z1 : W9.cell? ⟨b9, 1, none⟩ = some (.int .i64 1) := hb9.cell 1 rfl
                      have z2 : W9.cell? ⟨b9, 2, none⟩ = some (.int .u32 y) := hb9.cell 2 rfl
                      refine ⟨_, rfl, ?_⟩
                      refine hK.out _ _ ⟨(hE9.cell p0), (hE9.cell p1), (hE9.cell p2), (hE9.cell p3), (hE9.cell p4), (hE9.cell p5), (hE9.cell c7)⟩ (fun hHeld => ?_)
                      clear hK K
                      refine norm_ (a' := ?_) ?_ ?_
                      rotate_left
                      · show Act.put _ (some 286) _ = _
                        simp only [Act.put, List.setIfInBounds_toArray, List.set_cons_zero, List.set_cons_succ, i64_w, i32_w]
                        rfl
                      refine pure_ (i := 10) (N := some 287) (v := ?_) (a' := ?_) #[true, true, true, true, true, true, true, true, true, true, true, false, false, false, false, false, false, false, false, false, false, false, false, false, false, false, false, false, false] rfl rfl (by kernel_rfl) (fun _ _ _ h => h) (Or.inl ⟨by rfl, ?_⟩) ?_ ?_
                      rotate_left
                      · intro w'
                        go_simp
                        with_reducible rfl
                      rotate_left
                      · simp only [Act.put, List.setIfInBounds_toArray, List.set_cons_zero, List.set_cons_succ, i64_w, i32_w]
                        rfl
                      refine one_ (i := 11) (N := some 288) #[true, true, true, true, true, true, true, true, true, true, true, true, false, false, false, false, false, false, false, false, false, false, false, false, false, false, false, false, false] rfl rfl (by kernel_rfl) (by decide) (fun K hK => ?_)
                      refine value_ (w1 := ?_) (v := ?_) (by rfl) rfl ?_ ?_
                      rotate_left 2
                      · go_simp
                        constructor
                        · rfl
                        · rfl
                      refine hK.out _ _ ⟨(hE9.cell p0), (hE9.cell p1), (hE9.cell p2), (hE9.cell p3), (hE9.cell p4), (hE9.cell p5), (hE9.cell c7)⟩ (fun hHeld => ?_)
                      clear hK K
                      refine norm_ (a' := ?_) ?_ ?_
                      rotate_left
                      · show Act.put _ (some 288) _ = _
                        simp only [Act.put, List.setIfInBounds_toArray, List.set_cons_zero, List.set_cons_succ, i64_w, i32_w]
                        rfl
                      refine pure_ (i := 12) (N := some 289) (v := ?_) (a' := ?_) #[true, true, true, true, true, true, true, true, true, true, true, true, true, false, false, false, false, false, false, false, false, false, false, false, false, false, false, false, false] rfl rfl (by kernel_rfl) (fun _ _ _ h => h) (Or.inl ⟨by rfl, ?_⟩) ?_ ?_
                      rotate_left
                      · intro w'
                        go_simp
                        with_reducible rfl
                      rotate_left
                      · simp only [Act.put, List.setIfInBounds_toArray, List.set_cons_zero, List.set_cons_succ, i64_w, i32_w]
                        rfl
                      refine pure_ (i := 13) (N := some 290) (v := ?_) (a' := ?_) #[true, true, true, true, true, true, true, true, true, true, true, true, true, true, false, false, false, false, false, false, false, false, false, false, false, false, false, false, false] rfl rfl (by kernel_rfl) (fun _ _ _ h => h) (Or.inl ⟨by rfl, ?_⟩) ?_ ?_
                      rotate_left
                      · intro w'
                        go_simp
                        with_reducible rfl
                      rotate_left
                      · simp only [Act.put, List.setIfInBounds_toArray, List.set_cons_zero, List.set_cons_succ, i64_w, i32_w]
                        rfl
                      refine pure_ (i := 14) (N := some 291) (v := ?_) (a' := ?_) #[true, true, true, true, true, true, true, true, true, true, true, true, true, true, true, false, false, false, false, false, false, false, false, false, false, false, false, false, false] rfl rfl (by kernel_rfl) (fun _ _ _ h => h) (Or.inl ⟨by rfl, ?_⟩) ?_ ?_
                      rotate_left
                      · intro w'
                        go_simp
                        with_reducible rfl
                      rotate_left
                      · simp only [Act.put, List.setIfInBounds_toArray, List.set_cons_zero, List.set_cons_succ, i64_w, i32_w]
                        rfl
                      refine pure_ (i := 15) (N := some 292) (v := ?_) (a' := ?_) #[true, true, true, true, true, true, true, true, true, true, true, true, true, true, true, true, false, false, false, false, false, false, false, false, false, false, false, false, false] rfl rfl (by kernel_rfl) (fun _ _ _ h => h) (Or.inl ⟨by rfl, ?_⟩) ?_ ?_
                      rotate_left
                      · intro w'
                        go_simp
                        with_reducible rfl
                      rotate_left
                      · simp only [Act.put, List.setIfInBounds_toArray, List.set_cons_zero, List.set_cons_succ, i64_w, i32_w]
                        rfl
                      refine pure_ (i := 16) (N := some 293) (v := ?_) (a' := ?_) #[true, true, true, true, true, true, true, true, true, true, true, true, true, true, true, true, true, false, false, false, false, false, false, false, false, false, false, false, false] rfl rfl (by kernel_rfl) (fun _ _ _ h => h) (Or.inl ⟨by rfl, ?_⟩) ?_ ?_
                      rotate_left
                      · intro w'
                        go_simp
                        with_reducible rfl
                      rotate_left
                      · simp only [Act.put, List.setIfInBounds_toArray, List.set_cons_zero, List.set_cons_succ, i64_w, i32_w]
                        rfl
                      refine pure_ (i := 17) (N := some 294) (v := ?_) (a' := ?_) #[true, true, true, true, true, true, true, true, true, true, true, true, true, true, true, true, true, true, false, false, false, false, false, false, false, false, false, false, false] rfl rfl (by kernel_rfl) (fun _ _ _ h => h) (Or.inl ⟨by rfl, ?_⟩) ?_ ?_
                      rotate_left
                      · intro w'
                        go_simp
                        with_reducible rfl
                      rotate_left
                      · simp only [Act.put, List.setIfInBounds_toArray, List.set_cons_zero, List.set_cons_succ, i64_w, i32_w]
                        rfl
                      refine pure_ (i := 18) (N := some 295) (v := ?_) (a' := ?_) #[true, true, true, true, true, true, true, true, true, true, true, true, true, true, true, true, true, true, true, false, false, false, false, false, false, false, false, false, false] rfl rfl (by kernel_rfl) (fun _ _ _ h => h) (Or.inl ⟨by rfl, ?_⟩) ?_ ?_
                      rotate_left
                      · intro w'
                        go_simp
                        with_reducible rfl
                      rotate_left
                      · simp only [Act.put, List.setIfInBounds_toArray, List.set_cons_zero, List.set_cons_succ, i64_w, i32_w]
                        rfl
                      refine pure_ (i := 20) (N := some 297) (v := ?_) (a' := ?_) #[true, true, true, true, true, true, true, true, true, true, true, true, true, true, true, true, true, true, true, false, true, false, false, false, false, false, false, false, false] rfl rfl (by kernel_rfl) (fun _ _ _ h => h) (Or.inl ⟨by rfl, ?_⟩) ?_ ?_
                      rotate_left
                      · intro w'
                        go_simp
                        with_reducible rfl
                      rotate_left
                      · simp only [Act.put, List.setIfInBounds_toArray, List.set_cons_zero, List.set_cons_succ, i64_w, i32_w]
                        rfl
                      refine pure_ (i := 21) (N := some 298) (v := ?_) (a' := ?_) #[true, true, true, true, true, true, true, true, true, true, true, true, true, true, true, true, true, true, true, false, true, true, false, false, false, false, false, false, false] rfl rfl (by kernel_rfl) (fun _ _ _ h => h) (Or.inl ⟨by rfl, ?_⟩) ?_ ?_
                      rotate_left
                      · intro w'
                        go_simp
                        with_reducible rfl
                      rotate_left
                      · simp only [Act.put, List.setIfInBounds_toArray, List.set_cons_zero, List.set_cons_succ, i64_w, i32_w]
                        rfl
                      refine pure_ (i := 22) (N := some 299) (v := ?_) (a' := ?_) #[true, true, true, true, true, true, true, true, true, true, true, true, true, true, true, true, true, true, true, false, true, true, true, false, false, false, false, false, false] rfl rfl (by kernel_rfl) (fun _ _ _ h => h) (Or.inl ⟨by rfl, ?_⟩) ?_ ?_
                      rotate_left
                      · intro w'
                        go_simp
                        with_reducible rfl
                      rotate_left
                      · simp only [Act.put, List.setIfInBounds_toArray, List.set_cons_zero, List.set_cons_succ, i64_w, i32_w]
                        rfl
                      refine take_ (i := 19) (N := some 296) (v := ?_) (a' := ?_) #[true, true, true, true, true, true, true, true, true, true, true, true, true, true, true, true, true, true, true, true, true, true, true, false, false, false, false, false, false] rfl rfl (by kernel_rfl) (fun _ _ _ h => h) (Or.inl ⟨by rfl, ?_⟩) hHeld ?_ ?_
                      rotate_left
                      · rintro w' ⟨s0, s1, s2, s3, s4, s5, s6⟩
                        go_simp
                        with_reducible rfl
                      rotate_left
                      · simp only [Act.put, List.setIfInBounds_toArray, List.set_cons_zero, List.set_cons_succ, i64_w, i32_w]
                        rfl
                      refine take_ (i := 23) (N := some 300) (v := ?_) (a' := ?_) #[true, true, true, true, true, true, true, true, true, true, true, true, true, true, true, true, true, true, true, true, true, true, true, true, false, false, false, false, false] rfl rfl (by kernel_rfl) (fun _ _ _ h => h) (Or.inl ⟨by rfl, ?_⟩) hHeld ?_ ?_
                      rotate_left
                      · rintro w' ⟨s0, s1, s2, s3, s4, s5, s6⟩
                        go_simp
                        with_reducible rfl
                      rotate_left
                      · simp only [Act.put, List.setIfInBounds_toArray, List.set_cons_zero, List.set_cons_succ, i64_w, i32_w]
                        rfl
                      refine one_ (i := 24) (N := some 301) #[true, true, true, true, true, true, true, true, true, true, true, true, true, true, true, true, true, true, true, true, true, true, true, true, true, false, false, false, false] rfl rfl (by kernel_rfl) (by decide) (fun K hK => ?_)
                      refine goes_ Tryz.func11 (by kernel_rfl) rfl #[.int .i64 y] (by rfl) rfl rfl (by simp only [List.map_toArray, List.map_cons, List.map_nil]; rfl) ?_
                      with_reducible refine (HQ _).mono ?_
                      rintro e W10 ⟨b10, rfl, hb10, hs10, hE10'⟩
                      have hE10 : Ext wr W10 := hE9.trans hE10'
                      have x3 : W10.cell? ⟨b10, 3, none⟩ = some (.int .i64 y) := hb10.cell 3 rfl
                      have x4 : W10.cell? ⟨b10, 4, none⟩ = some (.int .i64 2) := hb10.cell 4 rfl
                      have x5 : W10.cell? ⟨b10, 5, none⟩ = some (.int .u32 0) := hb10.cell 5 rfl
                      refine ⟨_, rfl, ?_⟩
                      refine hK.out _ _ ⟨(hE10.cell p0), (hE10.cell p1), (hE10.cell p2), (hE10.cell p3), (hE10.cell p4), (hE10.cell p5), (hE10.cell c7)⟩ (fun hHeld => ?_)
                      clear hK K
                      refine norm_ (a' := ?_) ?_ ?_
                      rotate_left
                      · show Act.put _ (some 301) _ = _
                        simp only [Act.put, List.setIfInBounds_toArray, List.set_cons_zero, List.set_cons_succ, i64_w, i32_w]
                        rfl
                      refine pure_ (i := 25) (N := some 302) (v := ?_) (a' := ?_) #[true, true, true, true, true, true, true, true, true, true, true, true, true, true, true, true, true, true, true, true, true, true, true, true, true, true, false, false, false] rfl rfl (by kernel_rfl) (fun _ _ _ h => h) (Or.inl ⟨by rfl, ?_⟩) ?_ ?_
                      rotate_left
                      · intro w'
                        go_simp
                        with_reducible rfl
                      rotate_left
                      · simp only [Act.put, List.setIfInBounds_toArray, List.set_cons_zero, List.set_cons_succ, i64_w, i32_w]
                        rfl
                      refine one_ (i := 26) (N := some 303) #[true, true, true, true, true, true, true, true, true, true, true, true, true, true, true, true, true, true, true, true, true, true, true, true, true, true, true, false, false] rfl rfl (by kernel_rfl) (by decide) (fun K hK => ?_)
                      refine value_ (w1 := ?_) (v := ?_) (by rfl) rfl ?_ ?_
                      rotate_left 2
                      · go_simp
                        constructor
                        · rfl
                        · rfl
                      refine hK.out _ _ ⟨(hE10.cell p0), (hE10.cell p1), (hE10.cell p2), (hE10.cell p3), (hE10.cell p4), (hE10.cell p5), (hE10.cell c7)⟩ (fun hHeld => ?_)
                      clear hK K
                      refine norm_ (a' := ?_) ?_ ?_
                      rotate_left
                      · show Act.put _ (some 303) _ = _
                        simp only [Act.put, List.setIfInBounds_toArray, List.set_cons_zero, List.set_cons_succ, i64_w, i32_w]
                        rfl
                      refine pure_ (i := 27) (N := some 304) (v := ?_) (a' := ?_) #[true, true, true, true, true, true, true, true, true, true, true, true, true, true, true, true, true, true, true, true, true, true, true, true, true, true, true, true, false] rfl rfl (by kernel_rfl) (fun _ _ _ h => h) (Or.inl ⟨by rfl, ?_⟩) ?_ ?_
                      rotate_left
                      · intro w'
                        go_simp
                        with_reducible rfl
                      rotate_left
                      · simp only [Act.put, List.setIfInBounds_toArray, List.set_cons_zero, List.set_cons_succ, i64_w, i32_w]
                        rfl
                      refine pure_ (i := 28) (N := some 305) (v := ?_) (a' := ?_) #[true, true, true, true, true, true, true, true, true, true, true, true, true, true, true, true, true, true, true, true, true, true, true, true, true, true, true, true, true] rfl rfl (by kernel_rfl) (fun _ _ _ h => h) (Or.inl ⟨by rfl, ?_⟩) ?_ ?_
                      rotate_left
                      · intro w'
                        go_simp
                        with_reducible rfl
                      rotate_left
                      · simp only [Act.put, List.setIfInBounds_toArray, List.set_cons_zero, List.set_cons_succ, i64_w, i32_w]
                        rfl
                      refine done_ (by kernel_rfl) ?_

                      all_goals go_wp2
                      all_goals exact ⟨⟨q + 1, by simp, by omega, by exact (by repeat (first | exact Ext.refl _ | assumption | refine Ext.alloc ?_ _ | refine Ext.drew ?_ | refine Ext.drewN ?_ _ | refine Ext.setCell ?_ (by first | omega | (simp; done) | (simp; omega)) _ | refine Ext.trans ?_ (by assumption)))⟩, by simp [intOf]; omega⟩
                  · have hqm2 : q = m' := by omega
                    have hst6 := Lib.hid (hst'.out.step (HW6.out.trans hEq))
                    go_wp2
                    exact ⟨⟨k + 1, L', l', ks', ds', by simp, rfl, by omega, hL', Hhnum.out, hst6⟩, by simp [intOf]; omega⟩
      · have hp' : (100 : Int) < (x.p.size : Int) := by omega
        go_wp2
        go_ret
        exact ⟨rfl, HE3.out⟩
    · have HEw := HW.out.trans hst.out.ext
      go_wp2
      go_ret
      exact ⟨rfl, HEw⟩
end Go.Proofs.YthadldnojdjlnaaGreatDoor
