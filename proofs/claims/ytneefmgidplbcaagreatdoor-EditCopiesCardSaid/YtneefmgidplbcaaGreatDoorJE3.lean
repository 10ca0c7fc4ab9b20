/- Joined: fold; Entries as cells of a row; slices; Worlds that have grown, where some blocks may have turned; slices; tree; tree; strings -/
import Derived.Test.YtneefmgidplbcaaGreatDoorJE1
import Derived.Test.YtneefmgidplbcaaGreatDoorJE2
import Derived.Maps.OwnSet
import Derived.Maps.OwnOps
import Derived.StringKeys
import Derived.WalkKit
import Derived.Deep.RegionHeld3
import Derived.Test.YtneefmgidplbcaaGreatDoorShelf
import Derived.Lib.Hide
import Derived.Sort.OwnSorted
import Derived.Test.YtneefmgidplbcaaGreatDoorLayB
import Derived.Shelf.SlSortCmp.WholeK
import Derived.Test.YtneefmgidplbcaaGreatDoorJE0
import Derived.Laws.OwnMore
import Derived.Lib.SliceRun
import Derived.Maps.AppendAt
import Derived.Laws.IdiomCopy
import Derived.Deep.QuietTactic
import Derived.BigQuiet
import Derived.Shelf.Strings.Builder2
import Derived.BigCall
import Derived.BigGuard
/-! FoldTree -/
namespace Go.Proofs.YtneefmgidplbcaaGreatDoor
open Go Go.RowKit Go.Shelf Go.Proofs Go.Maps

theorem map_ext {H : Type} {w w' : World} {k : TypeId} {R : Value → Option (DataW H × List MemPlace)} {b n : Nat} {D : DataW H} (h : w.ownsMap Tryz.prog k R b n D) (he : Ext w w') : w'.ownsMap Tryz.prog k R b n D := by
  have hlt := World.ownsMap.lt h
  obtain ⟨es, clock, hh, r⟩ := h
  exact ⟨es, clock, (Below.block he b hlt).trans hh, r⟩
theorem map_turned {w0 w w' : World} {b : Nat} (h : Ext w0 w) (hb : w0.heap.size ≤ b) (ht : w.mapTurned w' b) : Ext w0 w' := Below.grown h ht.grown h.size (fun k e => by cases e; exact hb)
theorem blk_turned {w w' : World} {b mb : Nat} {t : TypeId} {cs : Array Value} (h : Blk w b t cs) (ht : w.mapTurned w' mb) (hne : b ≠ mb) : Blk w' b t cs := (ht.grown.block b h.lt (fun e => hne (by cases e; rfl))).trans h
theorem law_strT : Keyed Tryz.prog 9 := string_keyed Tryz.underlying9
theorem keyST (s : ByteArray) (h : s.size ≤ maxLen) : keyOf Tryz.prog 9 (.string s) = some (.string s.data.toList) := WideMaps.keyOf_string_mk Tryz.underlying9 h
theorem zero_bool (w : World) : (zeroValue 4).run Tryz.prog w = .ok (.bool false) w := by kernel_rfl

/-- What a map says at each key. -/
def Says (D : DataW Value) (f : ByteArray → Bool) : Prop := IsMap D ∧ ∀ z : List UInt8, D.atKey (.string z) (.held (.bool false)) = .held (.bool (f (B z)))

theorem says_put {D : DataW Value} {f : ByteArray → Bool} (h : Says D f) (p : ByteArray) (b : Bool) : Says (D.put (.string p.data.toList) (.held (.bool b))) (fun z => if z = p then b else f z) := by
  refine ⟨h.1.put _ _, fun z => ?_⟩
  by_cases e : z = p.data.toList
  · subst e
    rw [atKey_put_same h.1 (isKey _)]
    simp [B_toList]
  · have e2 : B z ≠ p := fun e2 => e (by rw [← e2, toList_B])
    rw [atKey_put_other (fun e3 => e (by simpa using e3)), h.2]
    simp [e2]

theorem says_congr {D : DataW Value} {f g : ByteArray → Bool} (h : Says D f) (hfg : ∀ z, f z = g z) : Says D g := ⟨h.1, fun z => by rw [h.2, hfg]⟩

theorem says_look {w : World} {mb n : Nat} {D : DataW Value} {f : ByteArray → Bool} (hown : w.ownsMap Tryz.prog 9 RH mb n D) (hs : Says D f) (p : ByteArray) (hp : p.size ≤ maxLen) (b : Bool) (hb : f p = b) :
    (Instr.lookup 114 (.map (some mb)) (.string p) false).run Tryz.prog w = .ok (.bool b) w := by
  obtain ⟨u, ps, hrun, hu⟩ := hown.lookup (t := 114) (e := 4) law_strT Tryz.underlying114 (zero_bool w) (zd := .held (.bool false)) (zp := []) rfl (key := .string p) (keyST p hp)
  rw [hs.2, B_toList, hb] at hu
  have : u = .bool b := by
    simp [RH] at hu
    exact hu.1
  rw [hrun, this]

theorem Parent_dir (p : ByteArray) (w : World) (hs : p.size ≤ 140737488355328) : Calls Tryz.prog 57 #[.string p] w fun e w' => ∃ z u, e = .returned (.tuple #[.string (dirOf p), .string z, u]) ∧ Ext w w' := by
  rcases hn : names p with _ | xs
  · have hd : dirOf p = ⟨#[]⟩ := by rw [dirOf, hn]
    rw [hd]
    exact (Parent_none p w hs hn).mono fun e w' ⟨a, h, _, hE⟩ => ⟨_, _, h, hE⟩
  · by_cases h0 : xs = []
    · subst h0
      have hd : dirOf p = ⟨#[]⟩ := by rw [dirOf, hn]; rfl
      rw [hd]
      exact (Parent_root p w hs hn).mono fun e w' ⟨a, h, _, hE⟩ => ⟨_, _, h, hE⟩
    · have hd : dirOf p = pathOf xs.dropLast := by rw [dirOf, hn]; exact if_neg h0
      rw [hd]
      exact (Parent_some p xs.dropLast (xs.getLast h0) w hs (by rw [hn, List.dropLast_concat_getLast])).mono fun e w' ⟨h, hE⟩ => ⟨_, _, h, hE⟩

theorem dirOf_size (p : ByteArray) : (dirOf p).size ≤ 55 := by
  rw [dirOf]
  split
  · decide
  · rename_i xs hn
    split
    · decide
    · obtain ⟨h1, h2, _⟩ := names_some hn
      refine pathOf_size ?_ ?_
      · rw [List.all_eq_true]
        exact fun x hx => List.all_eq_true.1 h1 x (List.dropLast_subset _ hx)
      · rw [List.length_dropLast]
        omega

/-- The loop's relation. -/
def TreeRel (l : List Ent) (n : Nat) (w : World) (mb : Nat) (i : Value) (wr : World) : Prop :=
  ∃ (k m : Nat) (D : DataW Value), i = .int .i64 k ∧ k ≤ n ∧ m ≤ k + 1 ∧ wr.ownsMap Tryz.prog 9 RH mb m D ∧ Says D (heldB l k) ∧ Hid (∀ (t : Nat) (h : t < l.length), t < k → tokAt l t l[t] = true) ∧ Ext w wr

theorem tree_next {l : List Ent} {n k m : Nat} {w w' : World} {mb : Nat} {D : DataW Value} {x : Ent} (hlt : k < n) (hm : m ≤ k + 1) (hh : k < l.length) (hx : Hid (l[k]'hh = x)) (hok : tokAt l k x = true)
    (hall : Hid (∀ (t : Nat) (h : t < l.length), t < k → tokAt l t l[t] = true)) (hs : Says D (heldB l k)) (ho : w'.ownsMap Tryz.prog 9 RH mb (m + 1) (D.put (.string x.path.data.toList) (.held (.bool (holds x))))) (hE : Ext w w') :
    TreeRel l n w mb (.int .i64 ((k : Int) + 1)) w' ∧ n - (intOf (.int .i64 ((k : Int) + 1))).toNat < n - (intOf (.int .i64 (k : Int))).toNat := by
  have hall2 : ∀ (t : Nat) (h : t < l.length), t < k + 1 → tokAt l t l[t] = true := fun t ht htk => by
    by_cases e : t = k
    · subst e; rw [hx.out]; exact hok
    · exact hall.out t ht (by omega)
  refine ⟨⟨k + 1, m + 1, _, by simp, by omega, by omega, ho, ?_, Lib.hid hall2, hE⟩, by simp [intOf]; omega⟩
  have hr : Rising (l.take (k + 1)) := rising_of fun t ht htk => by
    have := hall2 t ht htk
    rw [tokAt, Bool.and_eq_true] at this
    exact this.1
  have he : entOk l[k] = true := by
    have := hall2 k hh (by omega)
    rw [tokAt, Bool.and_eq_true, okAt, Bool.and_eq_true] at this
    exact headOk_ent this.1.1
  have hown := heldB_own hh hr he
  refine says_congr (says_put hs x.path (holds x)) fun z => ?_
  rw [heldB_succ hh, hx.out]
  rw [hx.out] at hown
  by_cases e : z = x.path
  · rw [if_pos e, e, hown]
    simp
  · rw [if_neg e, decide_eq_false (fun e2 => e e2.symm)]
    simp

set_option maxRecDepth 20000 in
set_option maxHeartbeats 8000000 in
theorem Tree_any (v : Value) (l : List Ent) (w : World) (hv : RdE w v l) :
    Calls Tryz.prog 25 #[v] w fun e w' => e = .returned (.bool (treeOk l)) ∧ Ext w w' := by
  obtain ⟨n, hn⟩ : ∃ n, n = l.length := ⟨_, rfl⟩
  have Hn := Lib.hid hn
  have hlen := Rd.len hv
  obtain ⟨A, c, rfl, hc1, hc2, Hcell⟩ := rdE_form hv hn
  rw [← hn] at hlen
  clear hn hv
  by_cases h1024 : n ≤ 1024
  · have h1024' : ¬ (1024 : Int) < (n : Int) := by omega
    have hmm := @run_makeMap Tryz.prog
    have o0 : (w.alloc (.map #[] 0)).ownsMap Tryz.prog 9 RH w.heap.size 0 (.map []) := World.ownsMap_made w _ _ _
    have e0 : Ext w (w.alloc (.map #[] 0)) := (by repeat (first | exact Ext.refl _ | assumption | refine Ext.alloc ?_ _ | refine Ext.drew ?_ | refine Ext.drewN ?_ _ | refine Ext.setCell ?_ (by first | omega | (simp; done) | (simp; omega)) _ | refine Ext.trans ?_ (by assumption)))
    have s0 : Says (.map []) (fun _ => false) := ⟨isMap_empty, fun z => rfl⟩
    obtain ⟨w1, r1, o1, t1⟩ := o0.store (e := 4) (t := 114) law_strT Tryz.underlying114 (by unfold maxLen; omega) (key := .string ⟨#[47]⟩) (val := .bool true) (keyST _ (by decide)) (d := .held (.bool true)) (ps := []) rfl
    have e1 := map_turned e0 (Nat.le_refl _) t1
    have s1 : Says ((DataW.map []).put (.string (⟨#[47]⟩ : ByteArray).data.toList) (.held (.bool true))) (heldB l 0) := says_congr (says_put s0 ⟨#[47]⟩ true) fun z => by
      rw [heldB]
      by_cases e : z = ⟨#[47]⟩ <;> simp [e]
    have S1 := Lib.hid s1
    clear o0 e0 s0 t1 s1
    obtain ⟨mb, hmb⟩ : ∃ mb, w.heap.size = mb := ⟨_, rfl⟩
    rw [hmb] at r1 o1
    go_enter Tryz.func25, Tryz.ntmps25
    go_wp2
    clear hmm r1
    have hmw : w.heap.size ≤ mb := by omega
    have Hmb := Lib.hid hmb
    clear hmb
    go_loopw [16] (fun i wr => TreeRel l n w mb i wr) (fun i _ => n - (intOf i).toNat)
    case atStart => exact ⟨0, 1, _, rfl, Nat.zero_le _, by omega, o1, S1.out, Lib.hid fun t _ h => absurd h (Nat.not_lt_zero t), e1⟩
    case round =>
      obtain ⟨k, m, D, rfl, hkn, hmk, hown, hsays, hall, hE⟩ := hrel
      by_cases hlt : k < n
      · have hh : k < l.length := by have := Hn.out; omega
        obtain ⟨b, o, rfl, hcell⟩ := Hcell.out (List.ne_nil_of_length_pos (by omega))
        obtain ⟨q0, q1, q2, hf⟩ := hcell k hh
        obtain ⟨x, hx⟩ : ∃ x, l[k]'hh = x := ⟨_, rfl⟩
        rw [hx] at q0 q1 q2 hf
        have g0 := hE.cell q0
        have g1 := hE.cell q1
        have g2 := hE.cell q2
        have Hx := Lib.hid hx
        have Hs := Lib.hid hsays
        have hf1 := hf.1
        have Hf := Lib.hid hf
        have Hown := Lib.hid hown
        clear q0 q1 q2 hx hsays hf hown
        have HP := fun w => Parent_dir x.path w hf1
        go_upto_region 8 with (go_at_call 57; refine (HP _).mono ?_; rintro e W7 ⟨zn, un, rfl, hE7⟩)
        have hds := dirOf_size x.path
        have hE7' : Ext wr W7 := Ext.trans (by exact (by repeat (first | exact Ext.refl _ | assumption | refine Ext.alloc ?_ _ | refine Ext.drew ?_ | refine Ext.drewN ?_ _ | refine Ext.setCell ?_ (by first | omega | (simp; done) | (simp; omega)) _ | refine Ext.trans ?_ (by assumption)))) hE7
        have hB := (Blk.new wr 66 #[.string x.path, .int .i64 x.kind, .string x.data]).ext hE7
        obtain ⟨eb, heb⟩ : ∃ eb, wr.heap.size = eb := ⟨_, rfl⟩
        have hew : w.heap.size ≤ eb := by have := hE.size; omega
        have hme : eb ≠ mb := by have := Hown.out.lt; omega
        rw [heb] at hB ⊢
        have h0 := hE7'.cell g0
        have h1 := hE7'.cell g1
        have h2 := hE7'.cell g2
        have hown7 := Lib.hid (map_ext Hown.out hE7')
        have Heb := Lib.hid heb
        have HE7 := Lib.hid hE7'
        clear heb hE7 hE7' g0 g1 g2 HP
        obtain ⟨⟨z0, f0⟩, ⟨z1, f1⟩, ⟨z2, f2⟩⟩ := hB.three
        go_cut [55] (fun s55 wx => s55 = .bool (!tokAt l k x) ∧ Ext W7 wx)
        case first =>
          have HR := fun w => EntRight_any x w Hf.out
          have z0' := fun d os => cell_regrown z0 d os
          have z1' := fun d os => cell_regrown z1 d os
          have z2' := fun d os => cell_regrown z2 d os
          rcases hok : entOk x with _ | _
          · have hh2 : tokAt l k x = false := by rw [tokAt, okAt]; unfold headOk; rw [hok]; simp
            rw [hok] at HR
            clear hok
            (refine wp_region_quiet_below (by kernel_rfl) (by kernel_rfl) ?_; (repeat (go_big_quiet_step ((go_at_call 58; exact Calls.regrown_of (HR _))))); refine wpQuiet_nil ?_; intro _ hq; obtain ⟨⟨dq, osq⟩, hq2⟩ := hq; subst hq2)
            go_wp2
            go_meet
            exact ⟨by rw [hh2]; rfl, below_regrown W7 dq osq⟩
          · rw [hok] at HR
            by_cases hk2 : x.kind ≤ 2
            · have hk2' : ¬ (2 : Int) < x.kind := by omega
              have hk2d : decide ((2 : Int) < x.kind) = false := decide_eq_false hk2'
              obtain ⟨hb, hhb⟩ : ∃ hb, dirOk l k x = hb := ⟨_, rfl⟩
              have hlook : ∀ d os, (Instr.lookup 114 (.map (some mb)) (.string (dirOf x.path)) false).run Tryz.prog (Sort.grow (redrawn W7 d) os) = .ok (.bool hb) (Sort.grow (redrawn W7 d) os) := fun d os =>
                says_look (map_ext hown7.out (below_regrown W7 d os)) Hs.out (dirOf x.path) (by unfold maxLen; omega) hb (by rw [heldB_dir, hhb])
              cases hb
              · have hh2 : tokAt l k x = false := by rw [tokAt, okAt, hhb]; simp
                clear hok hhb
                (refine wp_region_quiet_below (by kernel_rfl) (by kernel_rfl) ?_; (repeat (go_big_quiet_step ((go_at_call 58; exact Calls.regrown_of (HR _))))); refine wpQuiet_nil ?_; intro _ hq; obtain ⟨⟨dq, osq⟩, hq2⟩ := hq; subst hq2)
                go_wp2
                go_meet
                exact ⟨by rw [hh2]; rfl, below_regrown W7 dq osq⟩
              · rcases k with _ | j
                · have hh2 : tokAt l 0 x = true := by rw [tokAt, okAt, headOk_zero, hok, hhb, decide_eq_true hk2]; rfl
                  clear hok hhb
                  (refine wp_region_quiet_below (by kernel_rfl) (by kernel_rfl) ?_; (repeat (go_big_quiet_step ((go_at_call 58; exact Calls.regrown_of (HR _))))); refine wpQuiet_nil ?_; intro _ hq; obtain ⟨⟨dq, osq⟩, hq2⟩ := hq; subst hq2)
                  go_wp2
                  go_meet
                  exact ⟨by rw [hh2]; rfl, below_regrown W7 dq osq⟩
                · have hj : j < l.length := by omega
                  have hh2 : tokAt l (j + 1) x = lt l[j].path x.path := by rw [tokAt, okAt, headOk_succ hj, hok, hhb, decide_eq_true hk2]; simp
                  obtain ⟨q0, q1, q2, _⟩ := hcell j hj
                  obtain ⟨y, hy⟩ : ∃ y, l[j]'hj = y := ⟨_, rfl⟩
                  rw [hy] at q0 q1 q2 hh2
                  have hEw : Ext w W7 := hE.trans HE7.out
                  have y0' := fun d os => cell_regrown (hEw.cell q0) d os
                  have y1' := fun d os => cell_regrown (hEw.cell q1) d os
                  have y2' := fun d os => cell_regrown (hEw.cell q2) d os
                  have HL := fun w => Less_any y x w
                  clear hok hhb q0 q1 q2 hcell hy
                  have hsub : IntKind.i64.wrap ((↑(j + 1) : Int) - 1) = (j : Int) := by
                    have : ((↑(j + 1) : Int) - 1) = (j : Int) := by omega
                    rw [this]
                    exact IntWalk.i64_in _ ⟨by omega, by omega⟩
                  have hjn : j < n := by omega
                  (refine wp_region_quiet_below (by kernel_rfl) (by kernel_rfl) ?_; (repeat (go_big_quiet_step ((first | (go_at_call 58; exact Calls.regrown_of (HR _)) | (go_at_call 59; exact Calls.regrown_of (HL _)))))); refine wpQuiet_nil ?_; intro _ hq; obtain ⟨⟨dq, osq⟩, hq2⟩ := hq; subst hq2)
                  go_wp2
                  go_meet
                  exact ⟨by rw [hh2], below_regrown W7 dq osq⟩
            · have hk2' : (2 : Int) < x.kind := by omega
              have hk2d : decide ((2 : Int) < x.kind) = true := decide_eq_true hk2'
              have hh2 : tokAt l k x = false := by rw [tokAt, decide_eq_false hk2]; simp
              clear hok
              (refine wp_region_quiet_below (by kernel_rfl) (by kernel_rfl) ?_; (repeat (go_big_quiet_step ((go_at_call 58; exact Calls.regrown_of (HR _))))); refine wpQuiet_nil ?_; intro _ hq; obtain ⟨⟨dq, osq⟩, hq2⟩ := hq; subst hq2)
              go_wp2
              go_meet
              exact ⟨by rw [hh2]; rfl, below_regrown W7 dq osq⟩
        case rest =>
          obtain ⟨rfl, hE8⟩ := hcut
          clear z0 z1 z2 f0 f1 f2 h0 h1 h2
          rcases htok : tokAt l k x with _ | _
          · have hbad := treeOk_not hh (by rw [Hx.out]; exact htok)
            clear htok hcell
            go_wp2
            all_goals (try contradiction)
            go_ret
            exact ⟨by first | rfl | (rw [hbad]; rfl), hE.trans (HE7.out.trans hE8)⟩
          · have Htok := Lib.hid htok
            obtain ⟨⟨z0, f0⟩, ⟨z1, f1⟩, ⟨z2, f2⟩⟩ := (hB.ext hE8).three
            have hown8 := Lib.hid (map_ext hown7.out hE8)
            have HH := fun w => Holds_any x w
            clear htok hcell
            go_upto_region 10 with (fail)
            go_region_held3 (fun w' => w'.cell? ⟨eb, 0, none⟩ = some (.string x.path) ∧ w'.cell? ⟨eb, 1, none⟩ = some (.int .i64 x.kind) ∧ w'.cell? ⟨eb, 2, none⟩ = some (.string x.data))
              (first | go_keep | exact ⟨hE9.cell z0, hE9.cell z1, hE9.cell z2⟩ | exact ⟨c0, c1, c2⟩)
              (first | (go_at_call 60; refine (HH _).mono ?_; rintro e W9 ⟨rfl, hE9'⟩; have hE9 : Ext wc W9 := Ext.trans (by exact (by repeat (first | exact Ext.refl _ | assumption | refine Ext.alloc ?_ _ | refine Ext.drew ?_ | refine Ext.drewN ?_ _ | refine Ext.setCell ?_ (by first | omega | (simp; done) | (simp; omega)) _ | refine Ext.trans ?_ (by assumption)))) hE9'; obtain ⟨W10, hrun, hown10, hturn⟩ := (map_ext hown8.out hE9).store (e := 4) (t := 114) law_strT Tryz.underlying114 (by unfold maxLen; omega) (key := .string x.path) (val := .bool (holds x)) (keyST x.path (by unfold maxLen; omega)) (d := .held (.bool (holds x))) (ps := []) rfl; have hE10 := map_turned (hE.trans (HE7.out.trans (hE8.trans hE9))) (by omega) hturn; obtain ⟨⟨c0, _⟩, ⟨c1, _⟩, ⟨c2, _⟩⟩ := (blk_turned (hB.ext (hE8.trans hE9)) hturn hme).three))
            go_wp2
            exact tree_next hlt hmk hh Hx Htok.out hall Hs.out hown10 hE10
      · have hkn2 : k = n := by omega
        have hok : treeOk l = true := treeOk_of (by have := Hn.out; omega) fun t ht => hall.out t ht (by have := Hn.out; omega)
        clear hown hsays
        go_wp2
        go_ret
        exact ⟨by first | rfl | (rw [hok]; rfl), hE⟩
  · have h1024' : (1024 : Int) < (n : Int) := by omega
    have hbad : treeOk l = false := treeOk_long (by have := Hn.out; omega)
    go_enter Tryz.func25, Tryz.ntmps25
    go_wp2
    go_ret
    exact ⟨by first | rfl | (rw [hbad]; rfl), Ext.refl _⟩
end Go.Proofs.YtneefmgidplbcaaGreatDoor

/-! EntW -/
namespace Go.Proofs.YtneefmgidplbcaaGreatDoor
open Go Go.RowKit Go.Shelf Go.Proofs Go.Sort

def Ent.cells (x : Ent) : List Value := [.string x.path, .int .i64 x.kind, .string x.data]
/-- The cells of entries. -/
def flatE (l : List Ent) : List Value := l.flatMap Ent.cells

theorem ents_cells (xs : List Ent) (j : Nat) (x : Ent) (hj : xs[j]? = some x) : ∀ (i : Nat) u, x.cells[i]? = some u → (flatE xs)[j * 3 + i]? = some u := by
  induction xs generalizing j with
  | nil => simp at hj
  | cons y ys ih =>
    intro i u hi
    rw [flatE, List.flatMap_cons]
    have hy : y.cells.length = 3 := rfl
    have hi3 : i < 3 := (List.getElem?_eq_some_iff.1 hi).1
    rcases j with _ | j
    · simp at hj
      subst hj
      rw [List.getElem?_append_left (by omega)]
      simpa using hi
    · rw [List.getElem?_append_right (by omega), hy, show (j + 1) * 3 + i - 3 = j * 3 + i by omega]
      exact ih j (by simpa using hj) i u hi
theorem ents_length (xs : List Ent) : (flatE xs).length = xs.length * 3 := by
  induction xs with
  | nil => rfl
  | cons x xs ih =>
    rw [flatE] at ih ⊢
    rw [List.flatMap_cons, List.length_append, ih, List.length_cons]
    show 3 + _ = _
    omega
theorem ents_one (xs : List Ent) : ∀ u ∈ flatE xs, u.oneCell' = true := by
  intro u hu
  obtain ⟨x, _, hx⟩ := List.mem_flatMap.1 hu
  simp [Ent.cells] at hx
  rcases hx with rfl | rfl | rfl <;> rfl
theorem ents_at (xs : List Ent) (k : Nat) (u : Value) (hk : (flatE xs)[k]? = some u) : ∃ j x i, xs[j]? = some x ∧ x.cells[i]? = some u ∧ k = j * 3 + i := by
  induction xs generalizing k with
  | nil => simp [flatE] at hk
  | cons y ys ih =>
    rw [flatE, List.flatMap_cons] at hk
    have hy : y.cells.length = 3 := rfl
    rcases Nat.lt_or_ge k 3 with h | h
    · rw [List.getElem?_append_left (by omega)] at hk
      exact ⟨0, y, k, rfl, hk, by omega⟩
    · rw [List.getElem?_append_right (by omega), hy] at hk
      obtain ⟨j, x, i, h1, h2, h3⟩ := ih (k - 3) hk
      exact ⟨j + 1, x, i, by simpa using h1, h2, by omega⟩

theorem info_ent : (Tryz.prog.info? 66).map (fun i => (i.zero, i.size, i.bytes)) = some (some (.agg #[.string ⟨#[]⟩, .int .i64 0, .string ⟨#[]⟩]), 3, 40) := by kernel_rfl

theorem RdE.of_own {w : World} {base e : Nat} {v : Value} {xs : List Ent} (h : w.ownsRow base e 3 v xs.length (flatE xs)) (hl : xs.length ≤ 1000000000) (hf : ∀ x ∈ xs, x.fits) : RdE w v xs :=
  Rd.of_own h (by omega) fun j x hj => ⟨x.cells, ⟨rfl, hf x (List.mem_of_getElem? hj)⟩, ents_cells xs j x hj⟩
theorem RdE.fits {w : World} {v : Value} {xs : List Ent} (h : RdE w v xs) : ∀ x ∈ xs, x.fits := by
  intro x hx
  obtain ⟨j, hj, rfl⟩ := List.getElem_of_mem hx
  obtain ⟨b, o, c, _, _, _, hc⟩ := RdE.open_ h (List.ne_nil_of_mem hx)
  exact (hc j hj).2.2.2

variable {xs : List Ent} {x : Ent}
theorem flatI_snoc : flatE (xs ++ [x]) = flatE xs ++ [.string x.path, .int .i64 x.kind, .string x.data] := by simp [flatE, Ent.cells]
end Go.Proofs.YtneefmgidplbcaaGreatDoor

/-! SortE -/
namespace Go.Proofs.YtneefmgidplbcaaGreatDoor
open Go Go.RowKit Go.Shelf Go.Proofs Go.Sort

theorem flatK_flatE (xs : List Ent) [Inhabited Ent] : (flatK Ent.cells 3 xs.toArray).toList = flatE xs := by
  apply List.ext_getElem?
  intro t
  by_cases ht : t < xs.length * 3
  · have h1 : (flatK Ent.cells 3 xs.toArray).toList[t]? = some ((flatK Ent.cells 3 xs.toArray)[t]!) := by
      rw [Array.getElem?_toList, getElem!_pos (flatK Ent.cells 3 xs.toArray) t (by simpa using ht), Array.getElem?_eq_getElem]
    rw [h1, get_flatK _ _ _ _ (by simpa using ht)]
    have hj : t / 3 < xs.length := by omega
    have hx : xs.toArray[t / 3]! = xs[t / 3] := by
      rw [getElem!_pos xs.toArray (t / 3) (by simpa using hj)]
      simp
    rw [hx]
    have hi : t % 3 < (xs[t / 3]).cells.length := by show t % 3 < 3; omega
    have := ents_cells xs (t / 3) xs[t / 3] (List.getElem?_eq_getElem hj) (t % 3) _ (List.getElem?_eq_getElem hi)
    rw [show t / 3 * 3 + t % 3 = t by omega] at this
    rw [this, getElem!_pos (xs[t / 3]).cells (t % 3) hi]
  · rw [List.getElem?_eq_none (by simp; omega), List.getElem?_eq_none (by rw [ents_length]; omega)]

theorem take_putId (cur F : Array Value) (h : F.size ≤ cur.size) : (putCells id 0 F cur).toList.take F.size = F.toList := by
  apply List.ext_getElem?
  intro j
  by_cases hj : j < F.size
  · rw [List.getElem?_take_of_lt hj, Array.getElem?_toList]
    simp [putCells, hj, show j < cur.size by omega]
  · rw [List.getElem?_take_eq_none (by omega), List.getElem?_eq_none (by simp; omega)]

theorem heap_sortedK [Inhabited Ent] {w : World} {g n : Nat} {os : Array Obj} {cur : Array Value} {e : TypeId} {fr : Nat × Nat} (d : Array Ent) (hb : w.heap[g]? = some (.cells cur e fr)) :
    (sortWorldK Ent.cells 3 w g 0 n d os).heap[g]? = some (.cells (putCells id 0 (flatK Ent.cells 3 d) cur) e fr) := by
  have hg : g < w.heap.size := (Array.getElem?_eq_some_iff.1 hb).1
  rw [sortWorldK, putRowK, heap_grow_old _ _ (by simpa using hg)]
  simp [putRow, mapBlock, Sort.ahead, Array.getElem?_modify, hb, onCells]

theorem grownBy_sortedK [Inhabited Ent] {w : World} {g n : Nat} {os : Array Obj} (d : Array Ent) : w.grownBy (sortWorldK Ent.cells 3 w g 0 n d os) (some g) := by
  refine ⟨rfl, rfl, rfl, by simp [sortWorldK, putRowK], fun k hk hne => ?_⟩
  rw [sortWorldK, putRowK, heap_grow_old _ _ (by simpa using hk)]
  have : g ≠ k := fun e => hne (by rw [e])
  simp [putRow, mapBlock, Sort.ahead, Array.getElem?_modify, this]

/-- The order of entries. -/
def cmpE (a b : Ent) : Int := Lib.compareBytes a.path.data.toList b.path.data.toList
theorem ltOf_cmpE (a b : Ent) : ltOf cmpE a b = lt a.path b.path := by
  rw [Bool.eq_iff_iff, ltOf, decide_eq_true_eq, lt, decide_eq_true_eq, cmpE, compare_lt]
theorem swo_cmpE : SWO (ltOf cmpE) where
  irrefl x := by rw [ltOf_cmpE, lt_irrefl]
  trans x y z h1 h2 := by rw [ltOf_cmpE] at *; exact lt_trans h1 h2
  ntrans x y z h1 h2 := by
    rw [ltOf_cmpE] at *
    rcases h3 : lt x.path z.path with _ | _
    · rfl
    · rcases h4 : lt y.path x.path with _ | _
      · rw [lt_total h1 h4] at h3
        rw [h3] at h2
        cases h2
      · have := lt_trans h4 h3
        rw [this] at h2
        cases h2

/-- A closure that compares entries by their paths. -/
def CmpPaths (g : Nat) : Prop := ∀ (x y : Ent) (W : World), Calls Tryz.prog g #[.agg x.cells.toArray, .agg y.cells.toArray] W fun e w' => e = .returned (.int .i64 (cmpE x y)) ∧ ∃ q os', w' = grow (W.drewN q) os'

def SortAnsE (base : Nat) (v : Value) (xs : List Ent) (w : World) (e : Ending) (w' : World) : Prop :=
  e = .returned (.tuple #[]) ∧ ∃ ys, ys.Perm xs ∧ (ys.Pairwise fun a b => lt b.path a.path = false) ∧ w'.ownsRow base 66 3 v xs.length (flatE ys) ∧ (∀ row, v.ownBlock = row → w.grownBy w' row)

theorem sortE_any [Inhabited Ent] (g : Nat) (hg : CmpPaths g) (eg : ∀ args w, (callFunc g args).run Tryz.prog w = .ok (.enter g args) w) (base : Nat) (v : Value) (xs : List Ent) (w : World) (hrow : w.ownsRow base 66 3 v xs.length (flatE xs)) (hl : xs.length ≤ 1000000) :
    Calls Tryz.prog 88 #[v, .func (.func g) #[] #[]] w (SortAnsE base v xs w) := by
  rcases hrow.2 with ⟨rfl, hz⟩ | ⟨gb, cap, cur, rfl, hbase, hgb, r1, r2, r3, r4⟩
  · have hss : xs = [] := List.eq_nil_of_length_eq_zero hz
    subst hss
    have h := AnyF.slices_SortFunc_none Tryz.sortE none 0 (.func (.func g) #[] #[]) w
    change Calls Tryz.prog 88 _ _ _ at h
    refine h.mono ?_
    rintro e w' ⟨rfl, rfl⟩
    refine ⟨rfl, [], List.Perm.refl _, List.Pairwise.nil, hrow, fun row _ => ⟨rfl, rfl, rfl, Nat.le_refl _, fun _ _ _ => rfl⟩⟩
  · have hsz3 : (flatK Ent.cells 3 xs.toArray).size = xs.length * 3 := by simp
    have hH : HoldsK Ent.cells 3 w gb 0 xs.toArray := by
      intro j hj
      rw [hsz3] at hj
      refine ⟨?_, by simp [World.frozen?, hgb]⟩
      have h1 : (cur.toList.take (xs.length * 3))[j]? = (flatE xs)[j]? := by rw [r4]
      rw [List.getElem?_take_of_lt hj] at h1
      simp only [World.cell?, hgb, Nat.zero_add]
      simp only [Option.isSome_none, Bool.false_eq_true, if_false]
      rw [← Array.getElem?_toList, h1, ← flatK_flatE, Array.getElem?_toList, getElem!_pos (flatK Ent.cells 3 xs.toArray) j (by omega), Array.getElem?_eq_getElem]
      rfl
    have hgl : gb < w.heap.size := (Array.getElem?_eq_some_iff.1 hgb).1
    have h := AnyQ.slices_SortFunc Tryz.sortE 3 Tryz.isAgg66 Tryz.sizeOf66 Ent.cells (fun _ => rfl) (fun x v hv => by simp [Ent.cells] at hv; rcases hv with rfl | rfl | rfl <;> rfl) cmpE swo_cmpE g #[] gb 0 cap xs.toArray w eg (fun m os dk _ x y => by simpa using hg x y _) hH hgl (by simp; omega)
    change Calls Tryz.prog 88 _ _ _ at h
    rw [show xs.toArray.size = xs.length by simp] at h
    refine h.mono ?_
    rintro e w' ⟨rfl, d', nn, os, hp, hs, rfl⟩
    have hds : d'.size = xs.length := by have := hp.1; simpa using this
    have hperm : d'.toList.Perm xs := by
      have := hp.2.2
      rw [Array.extract_eq_self_of_le (by omega), Array.extract_eq_self_of_le (by simp)] at this
      simpa using this
    refine ⟨rfl, d'.toList, hperm, ?_, ⟨by rw [ents_length]; simp [hds], .inr ⟨gb, cap, _, rfl, hbase, heap_sortedK d' hgb, r1, r2, by simp [putCells, r3], ?_⟩⟩, fun row hr => ?_⟩
    · rw [List.pairwise_iff_getElem]
      intro i j hi hj hij
      have := hs i j (Nat.zero_le _) hij (by rw [Array.length_toList] at hj; omega)
      rw [ltOf_cmpE] at this
      rw [Array.length_toList] at hi hj
      rw [getElem!_pos d' j hj, getElem!_pos d' i hi] at this
      simpa using this
    · have h1 := take_putId cur (flatK Ent.cells 3 d') (by rw [size_flatK, hds, r3]; exact Nat.mul_le_mul_right 3 r1)
      rw [size_flatK, hds] at h1
      rw [h1]
      have := flatK_flatE d'.toList
      simpa using this
    · have : row = some gb := by rw [← hr]; rfl
      subst this
      exact grownBy_sortedK _
end Go.Proofs.YtneefmgidplbcaaGreatDoor

/-! But -/
namespace Go.Proofs.YtneefmgidplbcaaGreatDoor
open Go Go.RowKit

/-- All that lay in w lies in w', but for the blocks that S names. -/
structure But (S : Nat → Prop) (w w' : World) : Prop where
  os : w'.os = w.os
  tape : w'.tape = w.tape
  output : w'.output = w.output
  size : w.heap.size ≤ w'.heap.size
  block : ∀ k, k < w.heap.size → ¬ S k → w'.heap[k]? = w.heap[k]?

theorem But.of_ext {S : Nat → Prop} {w w' : World} (h : Ext w w') : But S w w' := ⟨Below.os h, Below.tape h, Below.output h, h.size, fun k hk _ => Below.block h k hk⟩
theorem But.refl (S : Nat → Prop) (w : World) : But S w w := .of_ext (Ext.refl w)
theorem But.trans {S : Nat → Prop} {a b c : World} (h : But S a b) (k : But S b c) : But S a c :=
  ⟨k.os.trans h.os, k.tape.trans h.tape, k.output.trans h.output, Nat.le_trans h.size k.size, fun i hi hs => (k.block i (Nat.lt_of_lt_of_le hi h.size) hs).trans (h.block i hi hs)⟩
theorem But.alloc {S : Nat → Prop} {a w : World} (h : But S a w) (o : Obj) : But S a (w.alloc o) := h.trans (.of_ext ((Ext.refl w).alloc o))
theorem But.ext {S : Nat → Prop} {a b c : World} (h : But S a b) (k : Ext b c) : But S a c := h.trans (.of_ext k)
theorem But.cell {S : Nat → Prop} {w w' : World} (h : But S w w') {p : Addr} {v : Value} (hp : ¬ S p.block) (hc : w.cell? p = some v) : w'.cell? p = some v := by
  have := h.block p.block (World.block_lt_of_cell? w p hc) hp
  rw [World.cell?] at hc ⊢
  rw [this]
  exact hc
theorem Blk.but {S : Nat → Prop} {w w' : World} {b : Nat} {t : TypeId} {cs : Array Value} (h : Blk w b t cs) (hb : But S w w') (hs : ¬ S b) : Blk w' b t cs := (hb.block b h.lt hs).trans h
/-- What was there before S's blocks is as it was. -/
theorem But.old {S : Nat → Prop} {a w w' : World} (he : Ext a w) (h : But S w w') (hs : ∀ k, S k → a.heap.size ≤ k) : Ext a w' :=
  ⟨h.os.trans (Below.os he), h.tape.trans (Below.tape he), h.output.trans (Below.output he), Nat.le_trans he.size h.size, fun k hk => (h.block k (Nat.lt_of_lt_of_le hk he.size) fun e => Nat.not_lt.2 (hs k e) hk).trans (Below.block he k hk)⟩
theorem But.setCell {S : Nat → Prop} {a w : World} (h : But S a w) {p : Addr} (hp : S p.block) (v : Value) : But S a (w.setCell p v) := by
  refine h.trans ⟨rfl, rfl, rfl, by simp [World.setCell], fun k hk hs => ?_⟩
  show (w.heap.modify p.block _)[k]? = _
  rw [Array.getElem?_modify, if_neg fun e => hs (by rw [← e]; exact hp)]
theorem But.setNew {S : Nat → Prop} {a w : World} (h : But S a w) {p : Addr} (hp : a.heap.size ≤ p.block) (v : Value) : But S a (w.setCell p v) := by
  refine ⟨h.os, h.tape, h.output, Nat.le_trans h.size (by simp [World.setCell]), fun k hk hs => ?_⟩
  rw [← h.block k hk hs]
  show (w.heap.modify p.block _)[k]? = _
  rw [Array.getElem?_modify, if_neg (by omega)]
theorem But.grown {S : Nat → Prop} {a w w' : World} {row : Option Nat} (h : But S a w) (hg : w.grownBy w' row) (hr : ∀ k, row = some k → S k ∨ a.heap.size ≤ k) : But S a w' := by
  refine ⟨hg.os.trans h.os, hg.tape.trans h.tape, hg.output.trans h.output, Nat.le_trans h.size hg.size, fun k hk hs => ?_⟩
  rw [← h.block k hk hs]
  refine hg.block k (Nat.lt_of_lt_of_le hk h.size) fun e => ?_
  rcases hr k e.symm with h1 | h1
  · exact hs h1
  · omega
theorem But.mono {S S' : Nat → Prop} {w w' : World} (h : But S w w') (hs : ∀ k, k < w.heap.size → S k → S' k) : But S' w w' := ⟨h.os, h.tape, h.output, h.size, fun k hk hn => h.block k hk fun e => hn (hs k hk e)⟩

/-- A slice that lies in none of S's blocks. -/
def Off (S : Nat → Prop) (v : Value) : Prop := ∀ b o n c, v = .slice (some ⟨b, o, none⟩) n c → ¬ S b
theorem Rd.but {α : Type} {R : World → α → List Value → Prop} {sz : Nat} {S : Nat → Prop} {w w' : World} {v : Value} {xs : List α} (hR : ∀ w w' x cs, R w x cs → R w' x cs) (h : Rd R sz w v xs) (hb : But S w w') (ho : Off S v) : Rd R sz w' v xs := by
  obtain ⟨A, c, rfl, h1, h2, hl, h3⟩ := h
  refine ⟨A, c, rfl, h1, h2, hl, fun hne => ?_⟩
  obtain ⟨b, o, rfl, hc⟩ := h3 hne
  have hs := ho b o _ _ rfl
  refine ⟨b, o, rfl, fun j x hj => ?_⟩
  obtain ⟨cs, hr, hu⟩ := hc j x hj
  exact ⟨cs, hR _ _ _ _ hr, fun i u hi => hb.cell hs (hu i u hi)⟩
theorem Off.none {S : Nat → Prop} (n c : Nat) : Off S (.slice none n c) := fun _ _ _ _ h => by cases h
/-- A row of blocks that are new lies off S, if S's blocks are old. -/
theorem Off.own {S : Nat → Prop} {w : World} {base e sz n : Nat} {v : Value} {xs : List Value} (h : w.ownsRow base e sz v n xs) (hs : ∀ k, S k → k < base) : Off S v := by
  intro b o n' c hv hb
  rcases h.2 with ⟨rfl, h0⟩ | ⟨g, cap, cur, rfl, hg, r⟩
  · cases hv
  · cases hv
    have := hs _ hb
    omega
end Go.Proofs.YtneefmgidplbcaaGreatDoor

/-! DelE -/
namespace Go.Proofs.YtneefmgidplbcaaGreatDoor
open Go Go.RowKit Go.Shelf Go.Proofs

/-- A closure that asks entries, with one thing bound; what it leans on stays. -/
structure Asks (g cb : Nat) (p : Ent → Bool) (Q : World → Prop) : Prop where
  enter : ∀ args w, (callFunc g args).run Tryz.prog w = .ok (.enter g args) w
  call : ∀ (x : Ent) (W : World), x.fits → Q W → Calls Tryz.prog g #[.agg #[.string x.path, .int .i64 x.kind, .string x.data], .pointer (some ⟨cb, 0, none⟩)] W fun e w' => e = .returned (.bool (p x)) ∧ Ext W w'
  ext : ∀ W W', Q W → Ext W W' → Q W'

/-- The first that is meant, or -1. -/
def idxP (p : Ent → Bool) (l : List Ent) : Int := match l.findIdx? p with
  | some k => k
  | none => -1

theorem idxP_none {p : Ent → Bool} {l : List Ent} (h : ∀ x ∈ l, p x = false) : idxP p l = -1 := by
  have : l.findIdx? p = none := List.findIdx?_eq_none_iff.2 fun x hx => by simpa using h x hx
  rw [idxP, this]
theorem idxP_some {p : Ent → Bool} {l : List Ent} {k : Nat} (hk : k < l.length) (h : p l[k] = true) (hb : ∀ (t : Nat) (h : t < l.length), t < k → p l[t] = false) : idxP p l = k := by
  have : l.findIdx? p = some k := by
    rw [List.findIdx?_eq_some_iff_getElem]
    refine ⟨hk, h, fun j hj => ?_⟩
    simp [hb j (by omega) hj]
  rw [idxP, this]

set_option maxHeartbeats 2000000 in
theorem IdxE_any {g cb : Nat} {p : Ent → Bool} {Q : World → Prop} (hA : Asks g cb p Q) (v : Value) (l : List Ent) (w : World) (hv : RdE w v l) (hQ : Q w) :
    Calls Tryz.prog 115 #[v, .func (.func g) #[] #[.pointer (some ⟨cb, 0, none⟩)]] w fun e w' => e = .returned (.int .i64 (idxP p l)) ∧ Ext w w' := by
  obtain ⟨n, hn⟩ : ∃ n, n = l.length := ⟨_, rfl⟩
  have Hn := Lib.hid hn
  have hlen := Rd.len hv
  obtain ⟨A, c, rfl, hc1, hc2, Hcell⟩ := rdE_form hv hn
  rw [← hn] at hlen
  have eg := hA.enter
  clear hn hv
  go_enter Tryz.func115, Tryz.ntmps115
  go_wp2
  go_loopw [8] (fun i wr => ∃ k : Nat, i = .int .i64 k ∧ k ≤ n ∧ Hid (∀ (t : Nat) (h : t < l.length), t < k → p l[t] = false) ∧ Ext w wr) (fun i _ => n - (intOf i).toNat)
  case atStart => exact ⟨0, rfl, Nat.zero_le _, Lib.hid fun t _ h => absurd h (Nat.not_lt_zero t), Ext.refl _⟩
  case round =>
    obtain ⟨k, rfl, hkn, hall, hE⟩ := hrel
    by_cases hlt : k < n
    · have hh : k < l.length := by have := Hn.out; omega
      obtain ⟨b, o, rfl, hcell⟩ := Hcell.out (List.ne_nil_of_length_pos (by omega))
      obtain ⟨q0, q1, q2, hf⟩ := hcell k hh
      obtain ⟨x, hx⟩ : ∃ x, l[k]'hh = x := ⟨_, rfl⟩
      rw [hx] at q0 q1 q2 hf
      have g0 := hE.cell q0
      have g1 := hE.cell q1
      have g2 := hE.cell q2
      have Hx := Lib.hid hx
      have HC := hA.call x wr hf (hA.ext _ _ hQ hE)
      clear q0 q1 q2 hx hcell
      rcases hp : p x with _ | _
      · rw [hp] at HC
        have Hp := Lib.hid hp
        clear hp
        go_wp2_with (go_at_fn g; refine HC.mono ?_; rintro e W2 ⟨rfl, hE2⟩)
        refine ⟨⟨k + 1, by simp, by omega, Lib.hid fun t ht htk => ?_, hE.trans hE2⟩, by simp [intOf]; omega⟩
        by_cases e : t = k
        · subst e; rw [Hx.out]; exact Hp.out
        · exact hall.out t ht (by omega)
      · rw [hp] at HC
        have hi : idxP p l = k := idxP_some hh (by rw [Hx.out]; exact hp) hall.out
        clear hp
        go_wp2_with (go_at_fn g; refine HC.mono ?_; rintro e W2 ⟨rfl, hE2⟩)
        go_ret
        exact ⟨by first | rfl | (rw [hi]; rfl), hE.trans hE2⟩
    · have hi : idxP p l = -1 := idxP_none fun x hx => by
        obtain ⟨t, ht, rfl⟩ := List.getElem_of_mem hx
        exact hall.out t ht (by have := Hn.out; omega)
      go_wp2
      go_ret
      exact ⟨by first | rfl | (rw [hi]; rfl), hE⟩

/-- What Clone answers. -/
def CloneE (xs : List Ent) (w : World) (e : Ending) (w' : World) : Prop := ∃ v, e = .returned v ∧ w'.ownsRow w.heap.size 66 3 v xs.length (flatE xs) ∧ Ext w w'

set_option maxHeartbeats 4000000 in
theorem CloneE_any (v : Value) (xs : List Ent) (w : World) (hv : RdE w v xs) (hl : xs.length ≤ 1000000000) :
    Calls Tryz.prog 55 #[v] w (CloneE xs w) := by
  have q := fun (w : World) (a : Option Addr) (n c n' c' : Nat) => Lib.run_eql_slice_nil (P := Tryz.prog) w _ _ a n c n' c' Tryz.underlying54
  obtain ⟨A, c, rfl, h1, h2, h3, hne⟩ := id hv
  rcases A with _ | ad
  · have h0 : xs = [] := Classical.byContradiction fun e => by obtain ⟨b, o, h, _⟩ := hne e; cases h
    subst h0
    clear hv hne
    go_enter Tryz.func55, Tryz.ntmps55
    go_wp2
    go_ret
    exact ⟨_, rfl, World.ownsRow_nil _ _ _ _, Ext.refl _⟩
  · obtain ⟨i0, hi, hz0, hz1, hz2⟩ := info_parts info_ent
    have hnews : ∀ (j : Nat) u, (flatE xs)[j]? = some u → w.cell? (ad.add j) = some u := by
      intro j u hj
      obtain ⟨j', x, i, hx, hxi, rfl⟩ := ents_at xs j u hj
      obtain ⟨b, o, e, hc⟩ := hne (by rintro rfl; simp at hx)
      cases e
      obtain ⟨cs, ⟨rfl, _⟩, hu⟩ := hc j' x hx
      have := hu i u hxi
      rw [Addr.add_lit, ← Nat.add_assoc]
      exact this
    have Hnews := Lib.hid hnews
    obtain ⟨n, hn⟩ : ∃ n, n = xs.length := ⟨_, rfl⟩
    have Hn := Lib.hid hn
    have hlen := ents_length xs
    rw [← hn] at h1 h3 hl hlen ⊢
    clear hv hne hnews hn
    go_enter Tryz.func55, Tryz.ntmps55
    go_wp2_with (at_builtin; refine wpList_append_own _ rfl _ _ 54 rfl w.heap.size 66 i0 (.agg #[.string ⟨#[]⟩, .int .i64 0, .string ⟨#[]⟩]) 3 40 Tryz.underlying54 hi hz0 hz1 hz2 rfl (by decide) _ _ _ rfl (World.ownsRow_made w #[] 0 (Nat.le_refl _) (Nat.zero_le _) rfl) ad n c (flatE xs) rfl ?qc1 ?qc2 ?qc3 ?qc4 ?qc5 ?qc6 ?_)
    case qc1 => exact hlen
    case qc2 =>
      intro j u hj
      exact Lib.cell?_alloc_some _ (Hnews.out j u hj)
    case qc3 => exact ents_one xs
    case qc4 => unfold maxLen; omega
    case qc5 => omega
    case qc6 => simp
    intro v' w1 hown hgrow hnil
    have hown' : w1.ownsRow w.heap.size 66 3 v' n (flatE xs) := by simpa using hown
    obtain ⟨A', c', rfl⟩ := own_form hown'
    go_wp2
    go_ret
    refine ⟨_, rfl, by rw [← Hn.out]; exact hown', Ext.grown (by exact (by repeat (first | exact Ext.refl _ | assumption | refine Ext.alloc ?_ _ | refine Ext.drew ?_ | refine Ext.drewN ?_ _ | refine Ext.setCell ?_ (by first | omega | (simp; done) | (simp; omega)) _ | refine Ext.trans ?_ (by assumption)))) hgrow (by intro k hk; simp [Value.ownBlock] at hk; omega)⟩

/-! ### DeleteFunc -/

theorem own_cut {w : World} {base e g n cap i : Nat} {xs : List Value} (h : w.ownsRow base e 3 (.slice (some ⟨g, 0, none⟩) n cap) n xs) (hi : i ≤ n) : w.ownsRow base e 3 (.slice (some ⟨g, 0, none⟩) i cap) i (xs.take (i * 3)) := by
  obtain ⟨h1, h2⟩ := h
  rcases h2 with ⟨e1, _⟩ | ⟨g', cap', cur, e1, hb, hh, h3, h4, h5, h6⟩
  · cases e1
  · cases e1
    refine ⟨by rw [List.length_take, h1]; omega, .inr ⟨g, cap, cur, rfl, hb, hh, by omega, h4, h5, ?_⟩⟩
    rw [← h6, List.take_take, Nat.min_eq_left (by omega)]

theorem own_setCells {base e g n cap : Nat} : ∀ (L : List Value) (o : Nat) (w : World) (xs : List Value), w.ownsRow base e 3 (.slice (some ⟨g, 0, none⟩) n cap) n xs →
    ∃ xs', (w.setCells g o L).ownsRow base e 3 (.slice (some ⟨g, 0, none⟩) n cap) n xs' ∧ xs'.take o = xs.take o ∧ w.grownBy (w.setCells g o L) (some g)
  | [], o, w, xs, h => ⟨xs, h, rfl, ⟨rfl, rfl, rfl, Nat.le_refl _, fun _ _ _ => rfl⟩⟩
  | u :: L, o, w, xs, h => by
    obtain ⟨h1, h2⟩ := h.stored o u
    obtain ⟨xs', h3, h4, h5⟩ := own_setCells L (o + 1) _ _ h1
    refine ⟨xs', h3, ?_, h2.trans h5⟩
    have h6 := congrArg (List.take o) h4
    rw [List.take_take, List.take_take, Nat.min_eq_left (by omega), List.take_set_of_le (by omega)] at h6
    exact h6

/-- The zero cells of so many entries. -/
def zerosE (n : Nat) : List Value := (Builtin.zeroCells #[.string ⟨#[]⟩, .int .i64 0, .string ⟨#[]⟩] n).toList
theorem zerosE_len (n : Nat) : (zerosE n).length = n * 3 := by simp [zerosE, Builtin.zeroCells]
theorem zerosE_one (n : Nat) : ∀ v ∈ zerosE n, v.oneCell' = true := by
  intro v hv
  simp only [zerosE, Builtin.zeroCells, Array.toList_map, List.mem_map] at hv
  obtain ⟨i, _, rfl⟩ := hv
  have h3 : i % 3 = 0 ∨ i % 3 = 1 ∨ i % 3 = 2 := by omega
  rcases h3 with h | h | h <;> simp [h, Value.oneCell']

theorem run_clear_ents {w : World} {base g i n cap : Nat} {xs : List Value} (h : w.ownsRow base 66 3 (.slice (some ⟨g, 0, none⟩) n cap) n xs) (hi : i < n) (ty : TypeId) :
    (Builtin.clear_ #[54] ty #[.slice (some ⟨g, i * 3, none⟩) (n - i) (cap - i)]).run Tryz.prog w = .ok (.tuple #[]) (w.setCells g (i * 3) (zerosE (n - i))) := by
  have hv : ∀ w, (zeroValue 66).run Tryz.prog w = .ok (.agg #[.string ⟨#[]⟩, .int .i64 0, .string ⟨#[]⟩]) w := fun w => by kernel_rfl
  have hlen : xs.length = n * 3 := h.1
  have hst := run_storeCells_cells (P := Tryz.prog) g (i * 3) (zerosE (n - i)) 0 w (fun j hj => by
    rw [zerosE_len] at hj
    rw [Nat.add_zero, h.cellAt (i * 3 + j) (by omega), List.getElem?_eq_getElem (by omega)]
    rfl) (fun j hj => h.frozenAt _) (zerosE_one _)
  simp only [Nat.add_zero] at hst
  obtain ⟨m, hm⟩ : ∃ m, n - i = m + 1 := ⟨n - i - 1, by omega⟩
  rw [hm] at hst ⊢
  simp only [zerosE] at hst ⊢
  simp [Builtin.clear_, run_underlying Tryz.underlying54, hv, hst, Value.cells]

theorem flatE_cons (x : Ent) (xs : List Ent) : flatE (x :: xs) = x.cells ++ flatE xs := rfl
theorem flat_take (xs : List Ent) : ∀ i : Nat, (flatE xs).take (i * 3) = flatE (xs.take i) := by
  induction xs with
  | nil => intro i; simp [flatE]
  | cons x xs ih =>
    intro i
    rcases i with _ | i
    · simp [flatE]
    · have : x.cells.length = 3 := rfl
      rw [flatE_cons, List.take_succ_cons, flatE_cons, List.take_append, List.take_of_length_le (by omega), this, show (i + 1) * 3 - 3 = i * 3 by omega, ih]
theorem flat_set (xs : List Ent) (x : Ent) : ∀ i : Nat, i < xs.length → flatE (xs.set i x) = (((flatE xs).set (i * 3) (.string x.path)).set (i * 3 + 1) (.int .i64 x.kind)).set (i * 3 + 2) (.string x.data) := by
  induction xs with
  | nil => intro i h; simp at h
  | cons y xs ih =>
    intro i h
    rcases i with _ | i
    · rfl
    · have h1 := ih i (by simpa using h)
      rw [List.set_cons_succ, flatE_cons, h1, flatE_cons]
      have e1 : (i + 1) * 3 = i * 3 + 1 + 1 + 1 := by omega
      rw [e1]
      rfl

/-- The loop's relation. -/
def DelRel (p : Ent → Bool) (Q : World → Prop) (xs : List Ent) (base g n cap : Nat) (w0 : World) (s5 s6 : Value) (wr : World) : Prop :=
  ∃ (i j : Nat) (ys : List Ent), s5 = .int .i64 i ∧ s6 = .int .i64 j ∧ i < j ∧ j ≤ n ∧ ys.length = n ∧ wr.ownsRow base 66 3 (.slice (some ⟨g, 0, none⟩) n cap) n (flatE ys) ∧ Hid (ys.take i = (xs.take j).filter (fun x => !p x)) ∧ Hid (ys.drop j = xs.drop j) ∧ Ext w0 wr ∧ Q wr

theorem del_skip {p : Ent → Bool} {Q : World → Prop} {xs ys : List Ent} {base g n cap i j : Nat} {w0 w : World} (hij : i < j) (hlt : j < n) (hys : ys.length = n) (Hn : Hid (xs.length = n)) (hrow : w.ownsRow base 66 3 (.slice (some ⟨g, 0, none⟩) n cap) n (flatE ys))
    (ht : Hid (ys.take i = (xs.take j).filter (fun x => !p x))) (hd : Hid (ys.drop j = xs.drop j)) (hE : Ext w0 w) (hQ : Q w) {x : Ent} (hx : Hid (xs[j]? = some x)) (hp : p x = true) :
    DelRel p Q xs base g n cap w0 (.int .i64 i) (.int .i64 ((j : Int) + 1)) w ∧ n - (intOf (.int .i64 ((j : Int) + 1))).toNat < n - (intOf (.int .i64 (j : Int))).toNat := by
  have hj : j < xs.length := by rw [Hn.out]; exact hlt
  have hxj : xs[j] = x := by have := hx.out; rw [List.getElem?_eq_getElem hj] at this; exact Option.some.inj this
  refine ⟨⟨i, j + 1, ys, rfl, by simp, by omega, by omega, hys, hrow, Lib.hid ?_, Lib.hid ?_, hE, hQ⟩, by simp [intOf]; omega⟩
  · rw [← List.take_append_getElem hj, List.filter_append, ht.out, hxj]
    simp [hp]
  · rw [← List.drop_drop, ← List.drop_drop, hd.out]

theorem del_keep {p : Ent → Bool} {Q : World → Prop} {xs ys : List Ent} {base g n cap i j : Nat} {w0 w : World} (hij : i < j) (hlt : j < n) (hys : ys.length = n) (Hn : Hid (xs.length = n)) {x : Ent} (hrow : w.ownsRow base 66 3 (.slice (some ⟨g, 0, none⟩) n cap) n (flatE (ys.set i x)))
    (ht : Hid (ys.take i = (xs.take j).filter (fun x => !p x))) (hd : Hid (ys.drop j = xs.drop j)) (hE : Ext w0 w) (hQ : Q w) (hx : Hid (xs[j]? = some x)) (hp : p x = false) :
    DelRel p Q xs base g n cap w0 (.int .i64 ((i : Int) + 1)) (.int .i64 ((j : Int) + 1)) w ∧ n - (intOf (.int .i64 ((j : Int) + 1))).toNat < n - (intOf (.int .i64 (j : Int))).toNat := by
  have hj : j < xs.length := by rw [Hn.out]; exact hlt
  have hxj : xs[j] = x := by have := hx.out; rw [List.getElem?_eq_getElem hj] at this; exact Option.some.inj this
  refine ⟨⟨i + 1, j + 1, ys.set i x, by simp, by simp, by omega, by omega, by rw [List.length_set, hys], hrow, Lib.hid ?_, Lib.hid ?_, hE, hQ⟩, by simp [intOf]; omega⟩
  · rw [← List.take_append_getElem hj, List.filter_append, ← ht.out, hxj, ← List.take_append_getElem (by rw [List.length_set]; omega : i < (ys.set i x).length), List.take_set_of_le (Nat.le_refl i)]
    simp [hp]
  · rw [List.drop_set_of_lt (by omega : i < j + 1), ← List.drop_drop, ← List.drop_drop, hd.out]

theorem q_setCells {Q : World → Prop} {g : Nat} (h : ∀ (W : World) (j : Nat) (u : Value), Q W → Q (W.setCell ⟨g, j, none⟩ u)) : ∀ (L : List Value) (o : Nat) (W : World), Q W → Q (W.setCells g o L)
  | [], _, _, hq => hq
  | u :: L, o, W, hq => q_setCells h L (o + 1) _ (h W o u hq)

def DelAns (p : Ent → Bool) (Q : World → Prop) (xs : List Ent) (base : Nat) (w0 : World) (e : Ending) (w' : World) : Prop :=
  ∃ v', e = .returned v' ∧ w'.ownsRow base 66 3 v' (xs.filter fun x => !p x).length (flatE (xs.filter fun x => !p x)) ∧ Ext w0 w' ∧ Q w'
def DelAnsF (p : Ent → Bool) (Q : World → Prop) (xs : List Ent) (base : Nat) (w0 : World) (v : Value) (e : Ending) (w' : World) : Prop :=
  ∃ v', e = .returned v' ∧ w'.ownsRow base 66 3 v' (xs.filter fun x => !p x).length (flatE (xs.filter fun x => !p x)) ∧ Ext w0 w' ∧ Q w' ∧ v'.ownBlock = v.ownBlock

set_option maxHeartbeats 8000000 in
set_option maxRecDepth 20000 in
theorem DelF_any {g cb : Nat} {p : Ent → Bool} {Q : World → Prop} (hA : Asks g cb p Q) (base : Nat) (v : Value) (hQs : ∀ (W : World) (gb j : Nat) (u : Value), v.ownBlock = some gb → Q W → Q (W.setCell ⟨gb, j, none⟩ u)) (xs : List Ent) (w0 w : World) (hE0 : Ext w0 w) (hb0 : w0.heap.size ≤ base)
    (hrow : w.ownsRow base 66 3 v xs.length (flatE xs)) (hl : xs.length ≤ 1000000) (hf : ∀ x ∈ xs, x.fits) (hQ : Q w) :
    Calls Tryz.prog 112 #[v, .func (.func g) #[] #[.pointer (some ⟨cb, 0, none⟩)]] w (DelAnsF p Q xs base w0 v) := by
  have hI := IdxE_any hA v xs w (RdE.of_own hrow (by omega) hf) hQ
  rcases hi : xs.findIdx? p with _ | k0
  · have hnone : ∀ x ∈ xs, p x = false := fun x hx => by simpa using List.findIdx?_eq_none_iff.1 hi x hx
    rw [idxP_none hnone] at hI
    have hfil : xs.filter (fun x => !p x) = xs := List.filter_eq_self.2 fun x hx => by simp [hnone x hx]
    have Hrow := Lib.hid hrow
    have Hfil := Lib.hid hfil
    obtain ⟨A, c, rfl⟩ := own_form hrow
    clear hi hnone hrow hfil
    go_enter Tryz.func112, Tryz.ntmps112
    go_wp2_with (go_at_call 115; refine hI.mono ?_; rintro e W1 ⟨rfl, hE1⟩)
    go_ret
    exact ⟨_, rfl, by rw [Hfil.out]; exact own_ext Hrow.out hE1, hE0.trans hE1, hA.ext _ _ hQ hE1, rfl⟩
  · obtain ⟨hk, hpk, hbef⟩ := List.findIdx?_eq_some_iff_getElem.1 hi
    have hI2 : idxP p xs = (k0 : Int) := by rw [idxP, hi]
    rw [hI2] at hI
    have hne1 : ((k0 : Int) == -1) = false := beq_eq_false_iff_ne.2 (by omega)
    obtain ⟨n, hn⟩ : ∃ n, xs.length = n := ⟨_, rfl⟩
    rw [hn] at hrow hl hk
    obtain ⟨A, cap, rfl⟩ := own_form hrow
    obtain ⟨gb, rfl⟩ : ∃ gb, A = some ⟨gb, 0, none⟩ := by
      rcases hrow.2 with ⟨e, h0⟩ | ⟨gb, _, _, e, _⟩
      · cases e; omega
      · cases e; exact ⟨_, rfl⟩
    have hstart : Hid (xs.take k0 = (xs.take (k0 + 1)).filter fun x => !p x) := Lib.hid (by
      rw [← List.take_append_getElem (by omega : k0 < xs.length), List.filter_append, List.filter_eq_self.2 (fun x hx => by
        obtain ⟨t, ht, rfl⟩ := List.getElem_of_mem hx
        rw [List.length_take] at ht
        rw [List.getElem_take]
        have := hbef t (by omega)
        simpa using this)]
      simp [hpk])
    have Hn := Lib.hid hn
    have Hrow := Lib.hid hrow
    have hcap : n ≤ cap := by
      rcases hrow.2 with ⟨e, _⟩ | ⟨_, _, _, e, _, _, h, _⟩
      · cases e
      · cases e; exact h
    have hcapm : cap ≤ 9223372036854775807 := by
      rcases hrow.2 with ⟨e, _⟩ | ⟨_, _, _, e, _, _, _, h, _⟩
      · cases e
      · cases e; simpa [maxLen] using h
    have eg := hA.enter
    have hgb : base ≤ gb := (hrow.lt gb rfl).1
    clear hi hpk hbef hI2 hn hrow
    go_enter Tryz.func112, Tryz.ntmps112
    go_wp2_with (go_at_call 115; refine hI.mono ?_; rintro e W1 ⟨rfl, hE1⟩)
    go_loopw [5, 6] (fun s5 s6 wr => DelRel p Q xs base gb n cap w0 s5 s6 wr) (fun _ s6 _ => n - (intOf s6).toNat)
    case atStart => exact ⟨k0, k0 + 1, xs, rfl, by simp, by omega, by omega, Hn.out, own_ext Hrow.out hE1, hstart, Lib.hid rfl, hE0.trans hE1, hA.ext _ _ hQ hE1⟩
    case round =>
      obtain ⟨i, j, ys, rfl, rfl, hij, hjn, hys, hrow, ht, hd, hE, hQ⟩ := hrel
      by_cases hlt : j < n
      · have hjy : j < ys.length := by omega
        have hiy : i < ys.length := by omega
        obtain ⟨x, hx⟩ : ∃ x, ys[j] = x := ⟨_, rfl⟩
        have hxs : xs[j]? = some x := by
          have h1 := congrArg (fun l => l[0]?) hd.out
          simp only [List.getElem?_drop, Nat.add_zero] at h1
          rw [← h1, List.getElem?_eq_getElem hjy, hx]
        obtain ⟨y, hy⟩ : ∃ y, ys[i] = y := ⟨_, rfl⟩
        have hj0 := ents_cells ys j x (by rw [List.getElem?_eq_getElem hjy, hx])
        have hi0 := ents_cells ys i y (by rw [List.getElem?_eq_getElem hiy, hy])
        have c0 : wr.cell? ⟨gb, j * 3, none⟩ = some (.string x.path) := (hrow.cellAt (j * 3) (by omega)).trans (hj0 0 _ rfl)
        have c1 : wr.cell? ⟨gb, j * 3 + 1, none⟩ = some (.int .i64 x.kind) := (hrow.cellAt (j * 3 + 1) (by omega)).trans (hj0 1 _ rfl)
        have c2 : wr.cell? ⟨gb, j * 3 + 2, none⟩ = some (.string x.data) := (hrow.cellAt (j * 3 + 2) (by omega)).trans (hj0 2 _ rfl)
        have Hxs := Lib.hid hxs
        have Hi0 := Lib.hid hi0
        have Hrw := Lib.hid hrow
        have hxf := hf x (List.mem_of_getElem? hxs)
        have HCl := fun W hQ => hA.call x W hxf hQ
        have HQ := hA.ext
        clear hj0 hi0 hx hxs hy hrow
        rcases hp : p x with _ | _
        · rw [hp] at HCl
          have Hp := Lib.hid hp
          clear hp
          go_wp2_with (go_at_fn g; refine (HCl _ (HQ _ _ hQ (by exact (by repeat (first | exact Ext.refl _ | assumption | refine Ext.alloc ?_ _ | refine Ext.drew ?_ | refine Ext.drewN ?_ _ | refine Ext.setCell ?_ (by first | omega | (simp; done) | (simp; omega)) _ | refine Ext.trans ?_ (by assumption)))))).mono ?_; rintro e W2 ⟨rfl, hE2'⟩; have hE2 : Ext wr W2 := Ext.trans (by exact (by repeat (first | exact Ext.refl _ | assumption | refine Ext.alloc ?_ _ | refine Ext.drew ?_ | refine Ext.drewN ?_ _ | refine Ext.setCell ?_ (by first | omega | (simp; done) | (simp; omega)) _ | refine Ext.trans ?_ (by assumption)))) hE2'; obtain ⟨⟨b0, _⟩, ⟨b1, _⟩, ⟨b2, _⟩⟩ := ((Blk.new wr 66 #[.string x.path, .int .i64 x.kind, .string x.data]).ext hE2').three; have hrw2 := own_ext Hrw.out hE2; have d0 : W2.cell? ⟨gb, i * 3, none⟩ = some (.string y.path) := (hrw2.cellAt (i * 3) (by omega)).trans (Hi0.out 0 _ rfl); have d1 : W2.cell? ⟨gb, i * 3 + 1, none⟩ = some (.int .i64 y.kind) := (hrw2.cellAt (i * 3 + 1) (by omega)).trans (Hi0.out 1 _ rfl); have d2 : W2.cell? ⟨gb, i * 3 + 2, none⟩ = some (.string y.data) := (hrw2.cellAt (i * 3 + 2) (by omega)).trans (Hi0.out 2 _ rfl); have f0 := hrw2.frozenAt (i * 3); have f1 := hrw2.frozenAt (i * 3 + 1); have f2 := hrw2.frozenAt (i * 3 + 2))
          have s1 := hrw2.stored (i * 3) (.string x.path)
          have s2 := s1.1.stored (i * 3 + 1) (.int .i64 x.kind)
          have s3 := s2.1.stored (i * 3 + 2) (.string x.data)
          have s4 := s3.1
          rw [← flat_set ys x i hiy] at s4
          refine del_keep hij hlt hys Hn s4 ht hd ?_ (hQs _ _ _ _ rfl (hQs _ _ _ _ rfl (hQs _ _ _ _ rfl (HQ _ _ hQ hE2)))) Hxs Hp.out
          exact (((hE.trans hE2).setCell (p := ⟨gb, i * 3, none⟩) (Nat.le_trans hb0 hgb) _).setCell (p := ⟨gb, i * 3 + 1, none⟩) (Nat.le_trans hb0 hgb) _).setCell (p := ⟨gb, i * 3 + 2, none⟩) (Nat.le_trans hb0 hgb) _
        · rw [hp] at HCl
          have Hp := Lib.hid hp
          clear hp
          go_wp2_with (go_at_fn g; refine (HCl _ (HQ _ _ hQ (by exact (by repeat (first | exact Ext.refl _ | assumption | refine Ext.alloc ?_ _ | refine Ext.drew ?_ | refine Ext.drewN ?_ _ | refine Ext.setCell ?_ (by first | omega | (simp; done) | (simp; omega)) _ | refine Ext.trans ?_ (by assumption)))))).mono ?_; rintro e W2 ⟨rfl, hE2'⟩)
          have hE2 : Ext wr W2 := Ext.trans (by exact (by repeat (first | exact Ext.refl _ | assumption | refine Ext.alloc ?_ _ | refine Ext.drew ?_ | refine Ext.drewN ?_ _ | refine Ext.setCell ?_ (by first | omega | (simp; done) | (simp; omega)) _ | refine Ext.trans ?_ (by assumption)))) hE2'
          exact del_skip hij hlt hys Hn (own_ext Hrw.out hE2) ht hd (hE.trans hE2) (HQ _ _ hQ hE2) Hxs Hp.out
      · have hjn2 : j = n := by omega
        subst hjn2
        have hcl := fun ty => run_clear_ents hrow hij ty
        have hfl : ys.take i = xs.filter fun x => !p x := by rw [ht.out, List.take_of_length_le (by rw [Hn.out]; omega)]
        have hil : i = (xs.filter fun x => !p x).length := by rw [← hfl, List.length_take, hys]; omega
        have Hfl := Lib.hid hfl
        have Hil := Lib.hid hil
        have Hrw := Lib.hid hrow
        clear hfl hil hrow
        go_wp2
        go_ret
        obtain ⟨xs', h1, h2, h3⟩ := own_setCells (zerosE (j - i)) (i * 3) wr (flatE ys) Hrw.out
        have h4 := own_cut h1 (Nat.le_of_lt hij)
        rw [h2, flat_take, Hfl.out] at h4
        refine ⟨_, rfl, by rw [← Hil.out]; exact h4, Ext.grown hE h3 (fun k hk => by cases hk; omega), q_setCells (fun W j u h => hQs W gb j u rfl h) _ _ _ hQ, rfl⟩

theorem DelE_any {g cb : Nat} {p : Ent → Bool} {Q : World → Prop} (hA : Asks g cb p Q) (base : Nat) (hQs : ∀ (W : World) (gb j : Nat) (u : Value), base ≤ gb → Q W → Q (W.setCell ⟨gb, j, none⟩ u)) (v : Value) (xs : List Ent) (w0 w : World) (hE0 : Ext w0 w) (hb0 : w0.heap.size ≤ base)
    (hrow : w.ownsRow base 66 3 v xs.length (flatE xs)) (hl : xs.length ≤ 1000000) (hf : ∀ x ∈ xs, x.fits) (hQ : Q w) :
    Calls Tryz.prog 112 #[v, .func (.func g) #[] #[.pointer (some ⟨cb, 0, none⟩)]] w (DelAns p Q xs base w0) :=
  (DelF_any hA base v (fun W gb j u h => hQs W gb j u (hrow.lt gb h).1) xs w0 w hE0 hb0 hrow hl hf hQ).mono fun _ _ ⟨v', h1, h2, h3, h4, _⟩ => ⟨v', h1, h2, h3, h4⟩
end Go.Proofs.YtneefmgidplbcaaGreatDoor

/-! TreeAt -/
namespace Go.Proofs.YtneefmgidplbcaaGreatDoor
open Go Go.RowKit Go.Shelf Go.Proofs

theorem beq_path (a b : ByteArray) : (a.toList == b.toList) = decide (a = b) := by
  rw [Bool.eq_iff_iff, beq_iff_eq, decide_eq_true_eq]
  exact ⟨fun e => data_inj (by rw [← toList_eq, e, toList_eq]), fun e => by rw [e]⟩

theorem at1_any (cb : Nat) (p : ByteArray) (x : Ent) (W : World) (hq : W.cell? ⟨cb, 0, none⟩ = some (.string p)) :
    Calls Tryz.prog 116 #[.agg #[.string x.path, .int .i64 x.kind, .string x.data], .pointer (some ⟨cb, 0, none⟩)] W fun e w' => e = .returned (.bool (decide (x.path = p))) ∧ Ext W w' := by
  have hq2 := Lib.cell?_alloc_some (.cells #[.string x.path, .int .i64 x.kind, .string x.data] 66) hq
  go_enter Tryz.func116, Tryz.ntmps116
  go_wp2
  go_ret
  exact ⟨congrArg (fun b => Ending.returned (.bool b)) (beq_path x.path p), (by repeat (first | exact Ext.refl _ | assumption | refine Ext.alloc ?_ _ | refine Ext.drew ?_ | refine Ext.drewN ?_ _ | refine Ext.setCell ?_ (by first | omega | (simp; done) | (simp; omega)) _ | refine Ext.trans ?_ (by assumption)))⟩

theorem asks_at (cb : Nat) (p : ByteArray) : Asks 116 cb (fun x => decide (x.path = p)) (fun W => W.cell? ⟨cb, 0, none⟩ = some (.string p)) where
  enter := enters_of Tryz.func116 (by kernel_rfl) rfl
  call := fun x W _ hq => at1_any cb p x W hq
  ext := fun W W' h he => he.cell h

theorem blk3_set {w : World} {b : Nat} {t : TypeId} {a0 a1 a2 : Value} (h : Blk w b t #[a0, a1, a2]) (x y z : Value) : Blk (((w.setCell ⟨b, 0, none⟩ x).setCell ⟨b, 1, none⟩ y).setCell ⟨b, 2, none⟩ z) b t #[x, y, z] := by
  have h1 := ((h.set 0 x).set 1 y).set 2 z
  exact h1

/-- tree.at's answers. -/
def AtTOk (x : Ent) (w : World) (e : Ending) (w' : World) : Prop := e = .returned (.tuple #[.agg #[.string x.path, .int .i64 x.kind, .string x.data], .nilIface]) ∧ Ext w w'
def AtTBad (c : Int) (w : World) (e : Ending) (w' : World) : Prop := e = .returned (.tuple #[.agg #[.string ⟨#[]⟩, .int .i64 0, .string ⟨#[]⟩], .iface 88 (.int .i64 c)]) ∧ Ext w w'
def AtTAns (r : Except Int Ent) (w : World) (e : Ending) (w' : World) : Prop := match r with
  | .ok x => AtTOk x w e w'
  | .error c => AtTBad c w e w'

theorem deep_none {p : ByteArray} (h : names p = none) : deep p = -1 := by rw [deep, h]
theorem deep_some {p : ByteArray} {ys : List ByteArray} (h : names p = some ys) : deep p = ys.length := by rw [deep, h]

theorem idxP_find {t : List Ent} {p : ByteArray} {x : Ent} (h : findT t p = some x) : ∃ k, ∃ hk : k < t.length, idxP (fun x => decide (x.path = p)) t = (k : Int) ∧ t[k] = x := by
  rcases hi : t.findIdx? (fun x => decide (x.path = p)) with _ | k
  · rw [List.findIdx?_eq_none_iff] at hi
    obtain ⟨h1, h2⟩ := findT_some h
    have := hi x h1
    simp [h2] at this
  · obtain ⟨hk, h1, h2⟩ := List.findIdx?_eq_some_iff_getElem.1 hi
    refine ⟨k, hk, by rw [idxP, hi], ?_⟩
    have h3 : findT t p = some t[k] := by
      rw [findT, List.find?_eq_some_iff_getElem]
      exact ⟨h1, k, hk, rfl, fun j hj => by simpa using h2 j hj⟩
    rw [h] at h3
    exact (Option.some.inj h3).symm
theorem idxP_nofind {t : List Ent} {p : ByteArray} (h : findT t p = none) : idxP (fun x => decide (x.path = p)) t = -1 :=
  idxP_none fun x hx => decide_eq_false (findT_none h x hx)

set_option maxHeartbeats 4000000 in
theorem tAt_any (v : Value) (t : List Ent) (p : ByteArray) (w : World) (hv : RdE w v t) (hp : p.size ≤ 140737488355328) :
    Calls Tryz.prog 69 #[v, .string p] w (AtTAns (atT t p) w) := by
  have HD := fun w => Deep_any p w hp
  have Hv := Lib.hid hv
  obtain ⟨n, hn⟩ : ∃ n, n = t.length := ⟨_, rfl⟩
  have Hn := Lib.hid hn
  obtain ⟨A, c, rfl, hc1, hc2, Hcell⟩ := rdE_form hv hn
  have hlen := Rd.len hv
  rw [← hn] at hlen
  clear hv hn
  rcases hnm : names p with _ | ys
  · have hat : atT t p = .error 2 := by rw [atT, hnm]
    rw [hat]
    show Calls _ _ _ _ (AtTBad 2 w)
    rw [deep_none hnm] at HD
    clear hnm hat
    go_enter Tryz.func69, Tryz.ntmps69
    go_wp2_with (go_at_call 36; refine (HD _).mono ?_; rintro e W1 ⟨rfl, hE1⟩; have hX := ((Blk.new (w.alloc (.cells #[.string p] 9)) 66 #[.string ⟨#[]⟩, .int .i64 0, .string ⟨#[]⟩]).ext hE1); rw [World.size_alloc] at hX; obtain ⟨⟨z0, f0⟩, ⟨z1, f1⟩, ⟨z2, f2⟩⟩ := hX.three)
    rw [setCell_same z0, setCell_same z1, setCell_same z2]
    refine bodyPost_ret (v := .tuple #[.agg #[.string ⟨#[]⟩, .int .i64 0, .string ⟨#[]⟩], .iface 88 (.int .i64 2)]) (by simp [results, Tryz.f69, go_sem, z0, z1, z2]) rfl ?_
    exact ⟨rfl, Ext.trans (by exact (by repeat (first | exact Ext.refl _ | assumption | refine Ext.alloc ?_ _ | refine Ext.drew ?_ | refine Ext.drewN ?_ _ | refine Ext.setCell ?_ (by first | omega | (simp; done) | (simp; omega)) _ | refine Ext.trans ?_ (by assumption)))) hE1⟩
  · rw [deep_some hnm] at HD
    by_cases h0 : ys = []
    · have hroot : p = ⟨#[47]⟩ := by rw [← (names_some hnm).2.2, h0]; rfl
      have hat : atT t p = .ok ⟨p, 2, ⟨#[]⟩⟩ := by rw [atT, hnm]; exact if_pos h0
      rw [hat]
      show Calls _ _ _ _ (AtTOk ⟨p, 2, ⟨#[]⟩⟩ w)
      have hr : (p.toList == [47]) = true := by rw [hroot, toList_eq]; rfl
      have hl0 : (ys.length : Int) = 0 := by rw [h0]; rfl
      rw [hl0] at HD
      clear hnm hat hroot h0 hl0
      go_enter Tryz.func69, Tryz.ntmps69
      go_wp2_with (go_at_call 36; refine (HD _).mono ?_; rintro e W1 ⟨rfl, hE1⟩; have hX := ((Blk.new (w.alloc (.cells #[.string p] 9)) 66 #[.string ⟨#[]⟩, .int .i64 0, .string ⟨#[]⟩]).ext hE1); rw [World.size_alloc] at hX; obtain ⟨⟨z0, f0⟩, ⟨z1, f1⟩, ⟨z2, f2⟩⟩ := hX.three; have hP := (Blk.new w 9 #[.string p]).ext (Ext.trans (Ext.alloc (Ext.refl _) _) hE1); obtain ⟨x0, y0⟩ := hP.one)
      obtain ⟨⟨u0, _⟩, ⟨u1, _⟩, ⟨u2, _⟩⟩ := (blk3_set hX (.string p) (.int .i64 2) (.string ⟨#[]⟩)).three
      refine bodyPost_ret (v := .tuple #[.agg #[.string p, .int .i64 2, .string ⟨#[]⟩], .nilIface]) (by simp [results, Tryz.f69, go_sem, u0, u1, u2]) rfl ?_
      have hE2 : Ext w W1 := Ext.trans (by exact (by repeat (first | exact Ext.refl _ | assumption | refine Ext.alloc ?_ _ | refine Ext.drew ?_ | refine Ext.drewN ?_ _ | refine Ext.setCell ?_ (by first | omega | (simp; done) | (simp; omega)) _ | refine Ext.trans ?_ (by assumption)))) hE1
      exact ⟨rfl, (by repeat (first | exact Ext.refl _ | assumption | refine Ext.alloc ?_ _ | refine Ext.drew ?_ | refine Ext.drewN ?_ _ | refine Ext.setCell ?_ (by first | omega | (simp; done) | (simp; omega)) _ | refine Ext.trans ?_ (by assumption)))⟩
    · have hroot : (p.toList == [47]) = false := by
        rw [beq_eq_false_iff_ne]
        exact fun e => names_ne_root hnm h0 (data_inj (by rw [← toList_eq, e]))
      have hdeep := atT_deep (t := t) hnm h0
      have hnn : ¬ (ys.length : Int) < 0 := by omega
      have hnm' := Lib.hid hnm
      clear hnm h0
      rcases hf : findT t p with _ | x
      · have hat : atT t p = .error 3 := by rw [hdeep, hf]
        rw [hat]
        show Calls _ _ _ _ (AtTBad 3 w)
        have HI := fun W h h2 => IdxE_any (asks_at w.heap.size p) (.slice A n c) t W h h2
        rw [idxP_nofind hf] at HI
        clear hdeep hf hat
        go_enter Tryz.func69, Tryz.ntmps69
        go_wp2_with (first | (go_at_call 36; refine (HD _).mono ?_; rintro e W1 ⟨rfl, hE1⟩; have hX := ((Blk.new (w.alloc (.cells #[.string p] 9)) 66 #[.string ⟨#[]⟩, .int .i64 0, .string ⟨#[]⟩]).ext hE1); rw [World.size_alloc] at hX; have hP := (Blk.new w 9 #[.string p]).ext (Ext.trans (Ext.alloc (Ext.refl _) _) hE1); obtain ⟨x0, y0⟩ := hP.one; have hE2 : Ext w W1 := Ext.trans (by exact (by repeat (first | exact Ext.refl _ | assumption | refine Ext.alloc ?_ _ | refine Ext.drew ?_ | refine Ext.drewN ?_ _ | refine Ext.setCell ?_ (by first | omega | (simp; done) | (simp; omega)) _ | refine Ext.trans ?_ (by assumption)))) hE1) | (go_at_call 115; refine (HI _ (Hv.out.ext hE2) x0).mono ?_; rintro e W3 ⟨rfl, hE3⟩; have hX3 := hX.ext hE3; obtain ⟨⟨z0, f0⟩, ⟨z1, f1⟩, ⟨z2, f2⟩⟩ := hX3.three))
        rw [setCell_same z0, setCell_same z1, setCell_same z2]
        refine bodyPost_ret (v := .tuple #[.agg #[.string ⟨#[]⟩, .int .i64 0, .string ⟨#[]⟩], .iface 88 (.int .i64 3)]) (by simp [results, Tryz.f69, go_sem, z0, z1, z2]) rfl ?_
        exact ⟨rfl, hE2.trans hE3⟩
      · have hat : atT t p = .ok x := by rw [hdeep, hf]
        rw [hat]
        show Calls _ _ _ _ (AtTOk x w)
        have HI := fun W h h2 => IdxE_any (asks_at w.heap.size p) (.slice A n c) t W h h2
        obtain ⟨k, hk, hik, hkx⟩ := idxP_find hf
        rw [hik] at HI
        obtain ⟨b, o, rfl, hcell⟩ := Hcell.out (List.ne_nil_of_length_pos (by omega))
        obtain ⟨q0, q1, q2, _⟩ := hcell k hk
        rw [hkx] at q0 q1 q2
        have hkn : k < n := by have := Hn.out; omega
        clear hdeep hf hat hkx hik hcell
        go_enter Tryz.func69, Tryz.ntmps69
        go_wp2_with (first | (go_at_call 36; refine (HD _).mono ?_; rintro e W1 ⟨rfl, hE1⟩; have hX := ((Blk.new (w.alloc (.cells #[.string p] 9)) 66 #[.string ⟨#[]⟩, .int .i64 0, .string ⟨#[]⟩]).ext hE1); rw [World.size_alloc] at hX; have hP := (Blk.new w 9 #[.string p]).ext (Ext.trans (Ext.alloc (Ext.refl _) _) hE1); obtain ⟨x0, y0⟩ := hP.one; have hE2 : Ext w W1 := Ext.trans (by exact (by repeat (first | exact Ext.refl _ | assumption | refine Ext.alloc ?_ _ | refine Ext.drew ?_ | refine Ext.drewN ?_ _ | refine Ext.setCell ?_ (by first | omega | (simp; done) | (simp; omega)) _ | refine Ext.trans ?_ (by assumption)))) hE1) | (go_at_call 115; refine (HI _ (Hv.out.ext hE2) x0).mono ?_; rintro e W3 ⟨rfl, hE3⟩; have hX3 := hX.ext hE3; obtain ⟨⟨z0, f0⟩, ⟨z1, f1⟩, ⟨z2, f2⟩⟩ := hX3.three; have hE4 := hE2.trans hE3; have r0 := hE4.cell q0; have r1 := hE4.cell q1; have r2 := hE4.cell q2))
        obtain ⟨⟨u0, _⟩, ⟨u1, _⟩, ⟨u2, _⟩⟩ := (blk3_set hX3 (.string x.path) (.int .i64 x.kind) (.string x.data)).three
        refine bodyPost_ret (v := .tuple #[.agg #[.string x.path, .int .i64 x.kind, .string x.data], .nilIface]) (by simp [results, Tryz.f69, go_sem, u0, u1, u2]) rfl ?_
        exact ⟨rfl, (by repeat (first | exact Ext.refl _ | assumption | refine Ext.alloc ?_ _ | refine Ext.drew ?_ | refine Ext.drewN ?_ _ | refine Ext.setCell ?_ (by first | omega | (simp; done) | (simp; omega)) _ | refine Ext.trans ?_ (by assumption)))⟩
end Go.Proofs.YtneefmgidplbcaaGreatDoor

/-! TreeFile -/
namespace Go.Proofs.YtneefmgidplbcaaGreatDoor
open Go Go.RowKit Go.Shelf Go.Proofs

theorem tAt_ok {v : Value} {t : List Ent} {p : ByteArray} {x : Ent} (hp : p.size ≤ 140737488355328) (h : atT t p = .ok x) (w : World) (hv : RdE w v t) : Calls Tryz.prog 69 #[v, .string p] w (AtTOk x w) := by
  have := tAt_any v t p w hv hp
  rwa [h] at this
theorem tAt_bad {v : Value} {t : List Ent} {p : ByteArray} {c : Int} (hp : p.size ≤ 140737488355328) (h : atT t p = .error c) (w : World) (hv : RdE w v t) : Calls Tryz.prog 69 #[v, .string p] w (AtTBad c w) := by
  have := tAt_any v t p w hv hp
  rwa [h] at this
theorem Tree_yes {v : Value} {t : List Ent} (h : treeOk t = true) (w : World) (hv : RdE w v t) : Calls Tryz.prog 25 #[v] w fun e w' => e = .returned (.bool true) ∧ Ext w w' := by
  have := Tree_any v t w hv
  rwa [h] at this
theorem Tree_no {v : Value} {t : List Ent} (h : treeOk t = false) (w : World) (hv : RdE w v t) : Calls Tryz.prog 25 #[v] w fun e w' => e = .returned (.bool false) ∧ Ext w w' := by
  have := Tree_any v t w hv
  rwa [h] at this

/-- An error of one wrapping. -/
def OneErr (w' : World) (c : Int) (v : Value) : Prop := ∃ a, v = .iface 135 (.pointer (some ⟨a, 0, none⟩)) ∧ ErrN w' 1 v c

def KindOk (k : Int) (w : World) (e : Ending) (w' : World) : Prop := e = .returned (.tuple #[.int .i64 k, .nilIface]) ∧ Ext w w'
def KindBad (c : Int) (w : World) (e : Ending) (w' : World) : Prop := ∃ v, e = .returned (.tuple #[.int .i64 0, v]) ∧ OneErr w' c v ∧ Ext w w'
def KindAns (r : Except Int Int) (w : World) (e : Ending) (w' : World) : Prop := match r with
  | .ok k => KindOk k w e w'
  | .error c => KindBad c w e w'

set_option maxHeartbeats 4000000 in
theorem tKind_any (v : Value) (t : List Ent) (p : ByteArray) (w : World) (hv : RdE w v t) (hp : p.size ≤ 140737488355328) :
    Calls Tryz.prog 68 #[v, .string p] w (KindAns (kindT t p) w) := by
  have Hv := Lib.hid hv
  obtain ⟨A, c, rfl, hc1, hc2, _⟩ := rdE_form hv rfl
  clear hv
  rcases ht : treeOk t with _ | _
  · have hk : kindT t p = .error 16 := by rw [kindT, if_neg (by simp [ht])]
    rw [hk]
    show Calls _ _ _ _ (KindBad 16 w)
    have HT := fun w => Tree_no (v := .slice A t.length c) ht w
    clear ht hk
    go_enter Tryz.func68, Tryz.ntmps68
    go_wp2_with (first | (go_at_call 25; refine (HT _ Hv.out).mono ?_; rintro e W1 ⟨rfl, hE1⟩) | (go_at_call 38; refine (fail_At_c _ _ _ _).mono ?_; rintro e W3 ⟨⟨a5, rfl, hEr⟩, hE3⟩))
    go_ret2
    exact ⟨_, rfl, ⟨_, rfl, hEr⟩, hE1.trans hE3⟩
  · have HT := fun w => Tree_yes (v := .slice A t.length c) ht w
    rcases ha : atT t p with cc | x
    · have hk : kindT t p = .error cc := by rw [kindT, if_pos ht, ha]
      rw [hk]
      show Calls _ _ _ _ (KindBad cc w)
      have HA := fun w => tAt_bad (v := .slice A t.length c) hp ha w
      clear ht hk ha
      go_enter Tryz.func68, Tryz.ntmps68
      go_upto_region 4 with (first | (go_at_call 25; refine (HT _ Hv.out).mono ?_; rintro e W1 ⟨rfl, hE1⟩) | (go_at_call 69; refine (HA _ (Hv.out.ext hE1)).mono ?_; rintro e W2 ⟨rfl, hE2⟩))
      obtain ⟨⟨x0, _⟩, ⟨x1, _⟩, ⟨x2, _⟩⟩ := (Blk.new W2 66 #[.string ⟨#[]⟩, .int .i64 0, .string ⟨#[]⟩]).three
      go_region_held3 (fun w' => w'.cell? ⟨W2.heap.size, 1, none⟩ = some (.int .i64 0)) (first | go_keep | exact hE3.cell x1)
        (first | (go_at_call 38; refine (fail_At_c _ _ _ _).mono ?_; rintro e W3 ⟨⟨a5, rfl, hEr⟩, hE3⟩))
      go_wp2
      go_ret2
      exact ⟨_, rfl, ⟨_, rfl, hEr⟩, Ext.trans (by have := hE1.trans hE2; exact (by repeat (first | exact Ext.refl _ | assumption | refine Ext.alloc ?_ _ | refine Ext.drew ?_ | refine Ext.drewN ?_ _ | refine Ext.setCell ?_ (by first | omega | (simp; done) | (simp; omega)) _ | refine Ext.trans ?_ (by assumption)))) hE3⟩
    · have hk : kindT t p = .ok x.kind := by rw [kindT, if_pos ht, ha]
      rw [hk]
      show Calls _ _ _ _ (KindOk x.kind w)
      have HA := fun w => tAt_ok (v := .slice A t.length c) hp ha w
      clear ht hk ha
      go_enter Tryz.func68, Tryz.ntmps68
      go_upto_region 4 with (first | (go_at_call 25; refine (HT _ Hv.out).mono ?_; rintro e W1 ⟨rfl, hE1⟩) | (go_at_call 69; refine (HA _ (Hv.out.ext hE1)).mono ?_; rintro e W2 ⟨rfl, hE2⟩))
      obtain ⟨⟨x0, _⟩, ⟨x1, _⟩, ⟨x2, _⟩⟩ := (Blk.new W2 66 #[.string x.path, .int .i64 x.kind, .string x.data]).three
      go_region_held3 (fun w' => w'.cell? ⟨W2.heap.size, 1, none⟩ = some (.int .i64 x.kind)) (first | go_keep | exact x1)
        (first | (go_at_call 38; refine (fail_At_nil _ _ _).mono ?_; rintro e W3 ⟨rfl, rfl⟩))
      go_wp2
      go_ret2
      exact ⟨rfl, by have := hE1.trans hE2; exact (by repeat (first | exact Ext.refl _ | assumption | refine Ext.alloc ?_ _ | refine Ext.drew ?_ | refine Ext.drewN ?_ _ | refine Ext.setCell ?_ (by first | omega | (simp; done) | (simp; omega)) _ | refine Ext.trans ?_ (by assumption)))⟩

def ReadTOk (s : ByteArray) (w : World) (e : Ending) (w' : World) : Prop := e = .returned (.tuple #[.string s, .nilIface]) ∧ Ext w w'
def ReadTBad (c : Int) (w : World) (e : Ending) (w' : World) : Prop := ∃ v, e = .returned (.tuple #[.string ⟨#[]⟩, v]) ∧ OneErr w' c v ∧ Ext w w'
def ReadTAns (r : Except Int ByteArray) (w : World) (e : Ending) (w' : World) : Prop := match r with
  | .ok k => ReadTOk k w e w'
  | .error c => ReadTBad c w e w'

theorem tKind_ok {v : Value} {t : List Ent} {p : ByteArray} {k : Int} (hp : p.size ≤ 140737488355328) (h : kindT t p = .ok k) (w : World) (hv : RdE w v t) : Calls Tryz.prog 68 #[v, .string p] w (KindOk k w) := by
  have := tKind_any v t p w hv hp
  rwa [h] at this
theorem tKind_bad {v : Value} {t : List Ent} {p : ByteArray} {c : Int} (hp : p.size ≤ 140737488355328) (h : kindT t p = .error c) (w : World) (hv : RdE w v t) : Calls Tryz.prog 68 #[v, .string p] w (KindBad c w) := by
  have := tKind_any v t p w hv hp
  rwa [h] at this

theorem OneErr.ext {w w' : World} {c : Int} {v : Value} (h : OneErr w c v) (he : Ext w w') : OneErr w' c v := by
  obtain ⟨a, rfl, hr⟩ := h
  exact ⟨a, rfl, hr.below he.below⟩

set_option maxHeartbeats 4000000 in
theorem tRead_any (v : Value) (t : List Ent) (p : ByteArray) (w : World) (hv : RdE w v t) (hp : p.size ≤ 140737488355328) :
    Calls Tryz.prog 35 #[v, .string p] w (ReadTAns (readT t p) w) := by
  have Hv := Lib.hid hv
  obtain ⟨A, c, rfl, hc1, hc2, _⟩ := rdE_form hv rfl
  clear hv
  rcases hk : kindT t p with cc | k
  · have hr : readT t p = .error cc := by rw [readT, hk]
    rw [hr]
    show Calls _ _ _ _ (ReadTBad cc w)
    have HK := fun w => tKind_bad (v := .slice A t.length c) hp hk w
    clear hr hk
    go_enter Tryz.func35, Tryz.ntmps35
    go_wp2_with (go_at_call 68; refine (HK _ Hv.out).mono ?_; rintro e W1 ⟨u, rfl, hEr, hE1⟩; obtain ⟨a5, rfl, hErr⟩ := hEr)
    go_ret2
    exact ⟨_, rfl, ⟨_, rfl, hErr⟩, hE1⟩
  · have HK := fun w => tKind_ok (v := .slice A t.length c) hp hk w
    by_cases h2 : k = 2
    · have hr : readT t p = .error 5 := by rw [readT, hk]; exact if_pos h2
      rw [hr]
      show Calls _ _ _ _ (ReadTBad 5 w)
      subst h2
      clear hr hk
      go_enter Tryz.func35, Tryz.ntmps35
      go_wp2_with (first | (go_at_call 68; refine (HK _ Hv.out).mono ?_; rintro e W1 ⟨rfl, hE1⟩) | (go_at_call 38; refine (fail_At_c _ _ _ _).mono ?_; rintro e W3 ⟨⟨a5, rfl, hEr⟩, hE3⟩))
      go_ret2
      exact ⟨_, rfl, ⟨_, rfl, hEr⟩, hE1.trans hE3⟩
    · have h2' : (k == 2) = false := by simpa using h2
      rcases ha : atT t p with cc | x
      · rw [kindT] at hk
        split at hk
        · rw [ha] at hk
          cases hk
        · cases hk
      · have hr : readT t p = .ok x.data := by rw [readT, hk, ha]; exact if_neg h2
        rw [hr]
        show Calls _ _ _ _ (ReadTOk x.data w)
        have HA := fun w => tAt_ok (v := .slice A t.length c) hp ha w
        clear hr hk ha h2
        go_enter Tryz.func35, Tryz.ntmps35
        go_wp2_with (first | (go_at_call 68; refine (HK _ Hv.out).mono ?_; rintro e W1 ⟨rfl, hE1⟩) | (go_at_call 69; refine (HA _ (Hv.out.ext hE1)).mono ?_; rintro e W2 ⟨rfl, hE2⟩))
        go_ret2
        exact ⟨rfl, by have := hE1.trans hE2; exact (by repeat (first | exact Ext.refl _ | assumption | refine Ext.alloc ?_ _ | refine Ext.drew ?_ | refine Ext.drewN ?_ _ | refine Ext.setCell ?_ (by first | omega | (simp; done) | (simp; omega)) _ | refine Ext.trans ?_ (by assumption)))⟩

/-! ### place -/

def PlaceOk (w : World) (e : Ending) (w' : World) : Prop := e = .returned .nilIface ∧ Ext w w'
def PlaceBad (c : Int) (w : World) (e : Ending) (w' : World) : Prop := ∃ v n, e = .returned v ∧ ErrN w' n v c ∧ Ext w w'
def PlaceAns (c : Int) (w : World) (e : Ending) (w' : World) : Prop := if c = 0 then PlaceOk w e w' else PlaceBad c w e w'

theorem atT_code {t : List Ent} {p : ByteArray} {c : Int} (h : atT t p = .error c) : c ≠ 0 := by
  rw [atT] at h
  split at h
  · cases h; decide
  · split at h
    · cases h
    · split at h
      · cases h; decide
      · cases h

set_option maxHeartbeats 4000000 in
theorem tPlace_any (v : Value) (t : List Ent) (p : ByteArray) (w : World) (hv : RdE w v t) (hp : p.size ≤ 140737488355328) :
    Calls Tryz.prog 145 #[v, .string p] w (PlaceAns (placeT t p) w) := by
  have Hv := Lib.hid hv
  obtain ⟨A, c, rfl, hc1, hc2, _⟩ := rdE_form hv rfl
  clear hv
  rcases hn : names p with _ | ys
  · have hpl : placeT t p = 2 := by rw [placeT, hn]
    have hgoal : PlaceAns (placeT t p) w = PlaceBad 2 w := by rw [hpl]; rfl
    rw [hgoal]
    have HP := fun w => Parent_none p w hp hn
    clear hpl hgoal hn
    go_enter Tryz.func145, Tryz.ntmps145
    go_wp2_with (go_at_call 57; refine (HP _).mono ?_; rintro e W1 ⟨a, rfl, hEr, hE1⟩)
    go_ret
    exact ⟨_, 1, rfl, hEr, hE1⟩
  · by_cases h0 : ys = []
    · subst h0
      have hpl : placeT t p = 1 := by rw [placeT, hn]; rfl
      have hgoal : PlaceAns (placeT t p) w = PlaceBad 1 w := by rw [hpl]; rfl
      rw [hgoal]
      have HP := fun w => Parent_root p w hp hn
      clear hpl hgoal hn
      go_enter Tryz.func145, Tryz.ntmps145
      go_wp2_with (go_at_call 57; refine (HP _).mono ?_; rintro e W1 ⟨a, rfl, hEr, hE1⟩)
      go_ret
      exact ⟨_, 1, rfl, hEr, hE1⟩
    · have hlast : names p = some (ys.dropLast ++ [ys.getLast h0]) := by rw [hn, List.dropLast_concat_getLast]
      have hdir := names_dir hlast
      have HP := fun w => Parent_some p _ _ w hp hlast
      rw [← hdir] at HP
      obtain ⟨z, hz⟩ : ∃ z, ys.getLast h0 = z := ⟨_, rfl⟩
      rw [hz] at HP
      have hds := dirOf_size p
      have hpl0 : placeT t p = (match atT t (dirOf p) with | .error c => c | .ok d => if d.kind = 1 then 6 else match atT t p with | .ok _ => 4 | .error _ => 0) := by rw [placeT, hn]; exact if_neg h0
      obtain ⟨dp, hdp⟩ : ∃ dp, dirOf p = dp := ⟨_, rfl⟩
      rw [hdp] at HP hds hpl0
      clear hdir hlast hz hn h0 hdp
      rcases hd : atT t dp with cc | d
      · have hpl : placeT t p = cc := by rw [hpl0, hd]
        have hcc := atT_code hd
        have hgoal : PlaceAns (placeT t p) w = PlaceBad cc w := by funext e w'; rw [hpl]; exact if_neg hcc
        rw [hgoal]
        have HA := fun w => tAt_bad (v := .slice A t.length c) (p := dp) (by omega) hd w
        clear hpl0 hpl hgoal hcc hd
        go_enter Tryz.func145, Tryz.ntmps145
        go_wp2_with (first | (go_at_call 57; refine (HP _).mono ?_; rintro e W1 ⟨rfl, hE1⟩) | (go_at_call 69; refine (HA _ (Hv.out.ext hE1)).mono ?_; rintro e W2 ⟨rfl, hE2⟩))
        go_ret
        exact ⟨_, 0, rfl, rfl, by have := hE1.trans hE2; exact (by repeat (first | exact Ext.refl _ | assumption | refine Ext.alloc ?_ _ | refine Ext.drew ?_ | refine Ext.drewN ?_ _ | refine Ext.setCell ?_ (by first | omega | (simp; done) | (simp; omega)) _ | refine Ext.trans ?_ (by assumption)))⟩
      · have HA := fun w => tAt_ok (v := .slice A t.length c) (p := dp) (by omega) hd w
        by_cases hk : d.kind = 1
        · have hpl : placeT t p = 6 := by rw [hpl0, hd]; exact if_pos hk
          have hgoal : PlaceAns (placeT t p) w = PlaceBad 6 w := by rw [hpl]; rfl
          rw [hgoal]
          clear hpl0 hpl hgoal hd
          go_enter Tryz.func145, Tryz.ntmps145
          go_wp2_with (first | (go_at_call 57; refine (HP _).mono ?_; rintro e W1 ⟨rfl, hE1⟩) | (go_at_call 69; refine (HA _ (Hv.out.ext hE1)).mono ?_; rintro e W2 ⟨rfl, hE2⟩))
          go_ret
          exact ⟨_, 0, rfl, rfl, by have := hE1.trans hE2; exact (by repeat (first | exact Ext.refl _ | assumption | refine Ext.alloc ?_ _ | refine Ext.drew ?_ | refine Ext.drewN ?_ _ | refine Ext.setCell ?_ (by first | omega | (simp; done) | (simp; omega)) _ | refine Ext.trans ?_ (by assumption)))⟩
        · have hk' : (d.kind == 1) = false := by simpa using hk
          rcases hx : atT t p with cc | x
          · have hpl : placeT t p = 0 := by rw [hpl0, hd]; simp only [if_neg hk, hx]
            have hgoal : PlaceAns (placeT t p) w = PlaceOk w := by rw [hpl]; rfl
            rw [hgoal]
            have HB := fun w => tAt_bad (v := .slice A t.length c) hp hx w
            clear hpl0 hpl hgoal hd hk hx
            go_enter Tryz.func145, Tryz.ntmps145
            go_wp2_with fail
            refine (HP _).mono ?_
            rintro e W1 ⟨rfl, hE1⟩
            go_wp2_with fail
            refine (HA _ (Hv.out.ext hE1)).mono ?_
            rintro e W2 ⟨rfl, hE2⟩
            go_wp2_with fail
            refine (HB _ (Hv.out.ext (by have := hE1.trans hE2; exact (by repeat (first | exact Ext.refl _ | assumption | refine Ext.alloc ?_ _ | refine Ext.drew ?_ | refine Ext.drewN ?_ _ | refine Ext.setCell ?_ (by first | omega | (simp; done) | (simp; omega)) _ | refine Ext.trans ?_ (by assumption)))))).mono ?_
            rintro e W3 ⟨rfl, hE3⟩
            go_wp2
            go_ret
            exact ⟨rfl, by have := Ext.trans (by have := hE1.trans hE2; exact (by repeat (first | exact Ext.refl _ | assumption | refine Ext.alloc ?_ _ | refine Ext.drew ?_ | refine Ext.drewN ?_ _ | refine Ext.setCell ?_ (by first | omega | (simp; done) | (simp; omega)) _ | refine Ext.trans ?_ (by assumption))) : Ext w _) hE3; exact (by repeat (first | exact Ext.refl _ | assumption | refine Ext.alloc ?_ _ | refine Ext.drew ?_ | refine Ext.drewN ?_ _ | refine Ext.setCell ?_ (by first | omega | (simp; done) | (simp; omega)) _ | refine Ext.trans ?_ (by assumption)))⟩
          · have hpl : placeT t p = 4 := by rw [hpl0, hd]; simp only [if_neg hk, hx]
            have hgoal : PlaceAns (placeT t p) w = PlaceBad 4 w := by rw [hpl]; rfl
            rw [hgoal]
            have HB := fun w => tAt_ok (v := .slice A t.length c) hp hx w
            clear hpl0 hpl hgoal hd hk hx
            go_enter Tryz.func145, Tryz.ntmps145
            go_wp2_with fail
            refine (HP _).mono ?_
            rintro e W1 ⟨rfl, hE1⟩
            go_wp2_with fail
            refine (HA _ (Hv.out.ext hE1)).mono ?_
            rintro e W2 ⟨rfl, hE2⟩
            go_wp2_with fail
            refine (HB _ (Hv.out.ext (by have := hE1.trans hE2; exact (by repeat (first | exact Ext.refl _ | assumption | refine Ext.alloc ?_ _ | refine Ext.drew ?_ | refine Ext.drewN ?_ _ | refine Ext.setCell ?_ (by first | omega | (simp; done) | (simp; omega)) _ | refine Ext.trans ?_ (by assumption)))))).mono ?_
            rintro e W3 ⟨rfl, hE3⟩
            go_wp2
            go_ret
            exact ⟨_, 0, rfl, rfl, by have := Ext.trans (by have := hE1.trans hE2; exact (by repeat (first | exact Ext.refl _ | assumption | refine Ext.alloc ?_ _ | refine Ext.drew ?_ | refine Ext.drewN ?_ _ | refine Ext.setCell ?_ (by first | omega | (simp; done) | (simp; omega)) _ | refine Ext.trans ?_ (by assumption))) : Ext w _) hE3; exact (by repeat (first | exact Ext.refl _ | assumption | refine Ext.alloc ?_ _ | refine Ext.drew ?_ | refine Ext.drewN ?_ _ | refine Ext.setCell ?_ (by first | omega | (simp; done) | (simp; omega)) _ | refine Ext.trans ?_ (by assumption)))⟩

/-! ### file -/

def FileOk (x : Ent) (w : World) (e : Ending) (w' : World) : Prop := e = .returned (.tuple #[.agg #[.string x.path, .int .i64 x.kind, .string x.data], .nilIface]) ∧ Ext w w'
def FileBad (c : Int) (w : World) (e : Ending) (w' : World) : Prop := ∃ (y : Ent) (v : Value), e = .returned (.tuple #[.agg #[.string y.path, .int .i64 y.kind, .string y.data], v]) ∧ OneErr w' c v ∧ Ext w w'
def FileAns (r : Except Int Ent) (w : World) (e : Ending) (w' : World) : Prop := match r with
  | .ok x => FileOk x w e w'
  | .error c => FileBad c w e w'
def noEnt : Ent := ⟨⟨#[]⟩, 0, ⟨#[]⟩⟩

theorem oneErr_set {W W' : World} {c : Int} {v : Value} {zb : Nat} {t : TypeId} {a0 a1 : Value} {d : ByteArray} (h : OneErr W c v) (hz : Blk W zb t #[a0, a1, .string d]) (hW : ∀ b, b ≠ zb → W'.heap[b]? = W.heap[b]?) : OneErr W' c v := by
  obtain ⟨a, rfl, a', x, e, hc, hx⟩ := h
  cases e
  have hne : a ≠ zb := fun e => by
    subst e
    rw [hz.cell 2 rfl] at hc
    have := Option.some.inj hc
    subst this
    cases hx
  refine ⟨a, rfl, a, x, rfl, ?_, hx⟩
  rw [World.cell?_of_block (w := W) (hW a hne)]
  exact hc

theorem set3_other (W : World) (zb : Nat) (x y z : Value) (b : Nat) (hb : b ≠ zb) : (((W.setCell ⟨zb, 0, none⟩ x).setCell ⟨zb, 1, none⟩ y).setCell ⟨zb, 2, none⟩ z).heap[b]? = W.heap[b]? := by
  rw [Below.heap_setCell _ _ _ _ hb, Below.heap_setCell _ _ _ _ hb, Below.heap_setCell _ _ _ _ hb]

set_option maxHeartbeats 4000000 in
set_option maxRecDepth 20000 in
theorem tFile_any (v : Value) (t : List Ent) (p : ByteArray) (w : World) (hv : RdE w v t) (hp : p.size ≤ 140737488355328) :
    Calls Tryz.prog 65 #[v, .string p] w (FileAns (fileT t p) w) := by
  have Hv := Lib.hid hv
  obtain ⟨A, c, rfl, hc1, hc2, _⟩ := rdE_form hv rfl
  clear hv
  rcases ht : treeOk t with _ | _
  · have hk : fileT t p = .error 16 := by rw [fileT, if_neg (by simp [ht])]
    rw [hk]
    show Calls _ _ _ _ (FileBad 16 w)
    have HT := fun w => Tree_no (v := .slice A t.length c) ht w
    clear ht hk
    go_enter Tryz.func65, Tryz.ntmps65
    go_wp2_with (first | (go_at_call 25; refine (HT _ (Hv.out.ext (by exact (by repeat (first | exact Ext.refl _ | assumption | refine Ext.alloc ?_ _ | refine Ext.drew ?_ | refine Ext.drewN ?_ _ | refine Ext.setCell ?_ (by first | omega | (simp; done) | (simp; omega)) _ | refine Ext.trans ?_ (by assumption)))))).mono ?_; rintro e W1 ⟨rfl, hE1⟩) | (go_at_call 38; refine (fail_At_c _ _ _ _).mono ?_; rintro e W3 ⟨⟨a5, rfl, hEr⟩, hE3⟩; obtain ⟨⟨z0, f0⟩, ⟨z1, f1⟩, ⟨z2, f2⟩⟩ := ((Blk.new w 66 #[.string ⟨#[]⟩, .int .i64 0, .string ⟨#[]⟩]).ext (hE1.trans hE3)).three))
    rw [setCell_same z0, setCell_same z1, setCell_same z2]
    refine bodyPost_ret (v := .tuple #[.agg #[.string ⟨#[]⟩, .int .i64 0, .string ⟨#[]⟩], .iface 135 (.pointer (some ⟨a5, 0, none⟩))]) (by simp [results, Tryz.f65, go_sem, z0, z1, z2]) rfl ?_
    exact ⟨noEnt, _, rfl, ⟨_, rfl, hEr⟩, Ext.trans (by exact (by repeat (first | exact Ext.refl _ | assumption | refine Ext.alloc ?_ _ | refine Ext.drew ?_ | refine Ext.drewN ?_ _ | refine Ext.setCell ?_ (by first | omega | (simp; done) | (simp; omega)) _ | refine Ext.trans ?_ (by assumption)))) (hE1.trans hE3)⟩
  · have HT := fun w => Tree_yes (v := .slice A t.length c) ht w
    by_cases hr : p = ⟨#[47]⟩
    · have hk : fileT t p = .error 1 := by rw [fileT, if_pos ht, if_pos hr]
      rw [hk]
      show Calls _ _ _ _ (FileBad 1 w)
      have hr' : (p.toList == [47]) = true := by rw [hr, toList_eq]; rfl
      clear ht hk hr
      go_enter Tryz.func65, Tryz.ntmps65
      go_wp2_with (first | (go_at_call 25; refine (HT _ (Hv.out.ext (by exact (by repeat (first | exact Ext.refl _ | assumption | refine Ext.alloc ?_ _ | refine Ext.drew ?_ | refine Ext.drewN ?_ _ | refine Ext.setCell ?_ (by first | omega | (simp; done) | (simp; omega)) _ | refine Ext.trans ?_ (by assumption)))))).mono ?_; rintro e W1 ⟨rfl, hE1⟩) | (go_at_call 38; refine (fail_At_c _ _ _ _).mono ?_; rintro e W3 ⟨⟨a5, rfl, hEr⟩, hE3⟩; obtain ⟨⟨z0, f0⟩, ⟨z1, f1⟩, ⟨z2, f2⟩⟩ := ((Blk.new w 66 #[.string ⟨#[]⟩, .int .i64 0, .string ⟨#[]⟩]).ext (hE1.trans hE3)).three))
      rw [setCell_same z0, setCell_same z1, setCell_same z2]
      refine bodyPost_ret (v := .tuple #[.agg #[.string ⟨#[]⟩, .int .i64 0, .string ⟨#[]⟩], .iface 135 (.pointer (some ⟨a5, 0, none⟩))]) (by simp [results, Tryz.f65, go_sem, z0, z1, z2]) rfl ?_
      exact ⟨noEnt, _, rfl, ⟨_, rfl, hEr⟩, Ext.trans (by exact (by repeat (first | exact Ext.refl _ | assumption | refine Ext.alloc ?_ _ | refine Ext.drew ?_ | refine Ext.drewN ?_ _ | refine Ext.setCell ?_ (by first | omega | (simp; done) | (simp; omega)) _ | refine Ext.trans ?_ (by assumption)))) (hE1.trans hE3)⟩
    · have hr' : (p.toList == [47]) = false := by
        rw [beq_eq_false_iff_ne]
        exact fun e => hr (data_inj (by rw [← toList_eq, e]))
      rcases ha : atT t p with cc | x
      · have hk : fileT t p = .error cc := by rw [fileT, if_pos ht, if_neg hr, ha]
        rw [hk]
        show Calls _ _ _ _ (FileBad cc w)
        have HA := fun w => tAt_bad (v := .slice A t.length c) hp ha w
        clear ht hk ha hr
        go_enter Tryz.func65, Tryz.ntmps65
        go_upto_region 8 with (first | (go_at_call 25; refine (HT _ (Hv.out.ext (by exact (by repeat (first | exact Ext.refl _ | assumption | refine Ext.alloc ?_ _ | refine Ext.drew ?_ | refine Ext.drewN ?_ _ | refine Ext.setCell ?_ (by first | omega | (simp; done) | (simp; omega)) _ | refine Ext.trans ?_ (by assumption)))))).mono ?_; rintro e W1 ⟨rfl, hE1⟩) | (go_at_call 69; refine (HA _ (Hv.out.ext (Ext.trans (by exact (by repeat (first | exact Ext.refl _ | assumption | refine Ext.alloc ?_ _ | refine Ext.drew ?_ | refine Ext.drewN ?_ _ | refine Ext.setCell ?_ (by first | omega | (simp; done) | (simp; omega)) _ | refine Ext.trans ?_ (by assumption)))) hE1))).mono ?_; rintro e W2 ⟨rfl, hE2⟩))
        have hEw : Ext w W2 := (Ext.trans (by exact (by repeat (first | exact Ext.refl _ | assumption | refine Ext.alloc ?_ _ | refine Ext.drew ?_ | refine Ext.drewN ?_ _ | refine Ext.setCell ?_ (by first | omega | (simp; done) | (simp; omega)) _ | refine Ext.trans ?_ (by assumption)))) hE1).trans hE2
        have hZ : Blk (W2.alloc (.cells #[.string ⟨#[]⟩, .int .i64 0, .string ⟨#[]⟩] 66)) w.heap.size 66 #[.string ⟨#[]⟩, .int .i64 0, .string ⟨#[]⟩] := ((Blk.new w 66 #[.string ⟨#[]⟩, .int .i64 0, .string ⟨#[]⟩]).ext (hE1.trans hE2)).ext ((Ext.refl _).alloc _)
        have hX := Blk.new W2 66 #[.string ⟨#[]⟩, .int .i64 0, .string ⟨#[]⟩]
        have hne : w.heap.size ≠ W2.heap.size := Nat.ne_of_lt (Nat.lt_of_lt_of_le (by simp) (hE1.trans hE2).size)
        have hE4 : Ext w (W2.alloc (.cells #[.string ⟨#[]⟩, .int .i64 0, .string ⟨#[]⟩] 66)) := (by repeat (first | exact Ext.refl _ | assumption | refine Ext.alloc ?_ _ | refine Ext.drew ?_ | refine Ext.drewN ?_ _ | refine Ext.setCell ?_ (by first | omega | (simp; done) | (simp; omega)) _ | refine Ext.trans ?_ (by assumption)))
        obtain ⟨zb, hzb⟩ : ∃ zb, w.heap.size = zb := ⟨_, rfl⟩
        obtain ⟨xb, hxb⟩ : ∃ xb, W2.heap.size = xb := ⟨_, rfl⟩
        have hzw : w.heap.size ≤ zb := by omega
        rw [hzb, hxb] at hne
        rw [hzb] at hZ
        rw [hxb] at hX
        simp only [hzb, hxb]
        have Hzb := Lib.hid hzb
        have Hxb := Lib.hid hxb
        clear hzb hxb hE1 hE2 hEw
        generalize W2.alloc (.cells #[.string ⟨#[]⟩, .int .i64 0, .string ⟨#[]⟩] 66) = W4 at hZ hX hE4 ⊢
        obtain ⟨⟨x0, _⟩, ⟨x1, _⟩, ⟨x2, _⟩⟩ := hX.three
        obtain ⟨⟨z0, f0⟩, ⟨z1, f1⟩, ⟨z2, f2⟩⟩ := hZ.three
        go_region_held3 (fun w' => w'.cell? ⟨xb, 0, none⟩ = some (.string ⟨#[]⟩) ∧ w'.cell? ⟨xb, 1, none⟩ = some (.int .i64 0) ∧ w'.cell? ⟨xb, 2, none⟩ = some (.string ⟨#[]⟩)) (first | go_keep | exact ⟨hE5.cell x0, hE5.cell x1, hE5.cell x2⟩)
          (first | (go_at_call 38; refine (fail_At_c _ _ _ _).mono ?_; rintro e W5 ⟨⟨a5, rfl, hEr⟩, hE5'⟩; have hE5 : Ext W4 W5 := Ext.trans (by exact (by repeat (first | exact Ext.refl _ | assumption | refine Ext.alloc ?_ _ | refine Ext.drew ?_ | refine Ext.drewN ?_ _ | refine Ext.setCell ?_ (by first | omega | (simp; done) | (simp; omega)) _ | refine Ext.trans ?_ (by assumption)))) hE5'; have z0' := hE5.cell z0; have z1' := hE5.cell z1; have z2' := hE5.cell z2; have f0' := hE5.frozen z0; have f1' := hE5.frozen z1; have f2' := hE5.frozen z2; rw [f0] at f0'; rw [f1] at f1'; rw [f2] at f2'))
        go_wp2
        obtain ⟨⟨u0, _⟩, ⟨u1, _⟩, ⟨u2, _⟩⟩ := (blk3_set (hZ.ext hE5) (.string ⟨#[]⟩) (.int .i64 0) (.string ⟨#[]⟩)).three
        refine bodyPost_ret (v := .tuple #[.agg #[(.string ⟨#[]⟩), (.int .i64 0), (.string ⟨#[]⟩)], .iface 135 (.pointer (some ⟨a5, 0, none⟩))]) (by simp [results, Tryz.f65, go_sem, u0, u1, u2]) rfl ?_
        exact ⟨noEnt, _, rfl, oneErr_set ⟨_, rfl, hEr⟩ (hZ.ext hE5) (set3_other W5 zb _ _ _), (((hE4.trans hE5).setCell (p := ⟨zb, 0, none⟩) hzw _).setCell (p := ⟨zb, 1, none⟩) hzw _).setCell (p := ⟨zb, 2, none⟩) hzw _⟩
      · have HA := fun w => tAt_ok (v := .slice A t.length c) hp ha w
        by_cases hk2 : x.kind = 2
        · have hk : fileT t p = .error 5 := by rw [fileT, if_pos ht, if_neg hr, ha]; exact if_pos hk2
          rw [hk]
          show Calls _ _ _ _ (FileBad 5 w)
          have hk2' : (x.kind == 2) = true := by simp [hk2]
          have Hk2 := Lib.hid hk2
          clear ht hk ha hr hk2
          go_enter Tryz.func65, Tryz.ntmps65
          go_upto_region 8 with (first | (go_at_call 25; refine (HT _ (Hv.out.ext (by exact (by repeat (first | exact Ext.refl _ | assumption | refine Ext.alloc ?_ _ | refine Ext.drew ?_ | refine Ext.drewN ?_ _ | refine Ext.setCell ?_ (by first | omega | (simp; done) | (simp; omega)) _ | refine Ext.trans ?_ (by assumption)))))).mono ?_; rintro e W1 ⟨rfl, hE1⟩) | (go_at_call 69; refine (HA _ (Hv.out.ext (Ext.trans (by exact (by repeat (first | exact Ext.refl _ | assumption | refine Ext.alloc ?_ _ | refine Ext.drew ?_ | refine Ext.drewN ?_ _ | refine Ext.setCell ?_ (by first | omega | (simp; done) | (simp; omega)) _ | refine Ext.trans ?_ (by assumption)))) hE1))).mono ?_; rintro e W2 ⟨rfl, hE2⟩))
          have hEw : Ext w W2 := (Ext.trans (by exact (by repeat (first | exact Ext.refl _ | assumption | refine Ext.alloc ?_ _ | refine Ext.drew ?_ | refine Ext.drewN ?_ _ | refine Ext.setCell ?_ (by first | omega | (simp; done) | (simp; omega)) _ | refine Ext.trans ?_ (by assumption)))) hE1).trans hE2
          have hZ : Blk (W2.alloc (.cells #[.string x.path, .int .i64 x.kind, .string x.data] 66)) w.heap.size 66 #[.string ⟨#[]⟩, .int .i64 0, .string ⟨#[]⟩] := ((Blk.new w 66 #[.string ⟨#[]⟩, .int .i64 0, .string ⟨#[]⟩]).ext (hE1.trans hE2)).ext ((Ext.refl _).alloc _)
          have hX := Blk.new W2 66 #[.string x.path, .int .i64 x.kind, .string x.data]
          have hne : w.heap.size ≠ W2.heap.size := Nat.ne_of_lt (Nat.lt_of_lt_of_le (by simp) (hE1.trans hE2).size)
          have hE4 : Ext w (W2.alloc (.cells #[.string x.path, .int .i64 x.kind, .string x.data] 66)) := (by repeat (first | exact Ext.refl _ | assumption | refine Ext.alloc ?_ _ | refine Ext.drew ?_ | refine Ext.drewN ?_ _ | refine Ext.setCell ?_ (by first | omega | (simp; done) | (simp; omega)) _ | refine Ext.trans ?_ (by assumption)))
          obtain ⟨zb, hzb⟩ : ∃ zb, w.heap.size = zb := ⟨_, rfl⟩
          obtain ⟨xb, hxb⟩ : ∃ xb, W2.heap.size = xb := ⟨_, rfl⟩
          have hzw : w.heap.size ≤ zb := by omega
          rw [hzb, hxb] at hne
          rw [hzb] at hZ
          rw [hxb] at hX
          simp only [hzb, hxb]
          have Hzb := Lib.hid hzb
          have Hxb := Lib.hid hxb
          clear hzb hxb hE1 hE2 hEw
          generalize W2.alloc (.cells #[.string x.path, .int .i64 x.kind, .string x.data] 66) = W4 at hZ hX hE4 ⊢
          obtain ⟨⟨x0, _⟩, ⟨x1, _⟩, ⟨x2, _⟩⟩ := hX.three
          obtain ⟨⟨z0, f0⟩, ⟨z1, f1⟩, ⟨z2, f2⟩⟩ := hZ.three
          go_region_held3 (fun w' => w'.cell? ⟨xb, 0, none⟩ = some (.string x.path) ∧ w'.cell? ⟨xb, 1, none⟩ = some (.int .i64 x.kind) ∧ w'.cell? ⟨xb, 2, none⟩ = some (.string x.data)) (first | go_keep | exact ⟨hE5.cell x0, hE5.cell x1, hE5.cell x2⟩)
            (first | (go_at_call 38; refine (fail_At_c _ _ _ _).mono ?_; rintro e W5 ⟨⟨a5, rfl, hEr⟩, hE5'⟩; have hE5 : Ext W4 W5 := Ext.trans (by exact (by repeat (first | exact Ext.refl _ | assumption | refine Ext.alloc ?_ _ | refine Ext.drew ?_ | refine Ext.drewN ?_ _ | refine Ext.setCell ?_ (by first | omega | (simp; done) | (simp; omega)) _ | refine Ext.trans ?_ (by assumption)))) hE5'; have z0' := hE5.cell z0; have z1' := hE5.cell z1; have z2' := hE5.cell z2; have f0' := hE5.frozen z0; have f1' := hE5.frozen z1; have f2' := hE5.frozen z2; rw [f0] at f0'; rw [f1] at f1'; rw [f2] at f2'))
          go_wp2
          obtain ⟨⟨u0, _⟩, ⟨u1, _⟩, ⟨u2, _⟩⟩ := (blk3_set (hZ.ext hE5) (.string x.path) (.int .i64 x.kind) (.string x.data)).three
          refine bodyPost_ret (v := .tuple #[.agg #[(.string x.path), (.int .i64 x.kind), (.string x.data)], .iface 135 (.pointer (some ⟨a5, 0, none⟩))]) (by simp [results, Tryz.f65, go_sem, u0, u1, u2]) rfl ?_
          exact ⟨x, _, rfl, oneErr_set ⟨_, rfl, hEr⟩ (hZ.ext hE5) (set3_other W5 zb _ _ _), (((hE4.trans hE5).setCell (p := ⟨zb, 0, none⟩) hzw _).setCell (p := ⟨zb, 1, none⟩) hzw _).setCell (p := ⟨zb, 2, none⟩) hzw _⟩
        · have hk : fileT t p = .ok x := by rw [fileT, if_pos ht, if_neg hr, ha]; exact if_neg hk2
          rw [hk]
          show Calls _ _ _ _ (FileOk x w)
          have hk2' : (x.kind == 2) = false := by simpa using hk2
          clear ht hk ha hr hk2
          go_enter Tryz.func65, Tryz.ntmps65
          go_upto_region 8 with (first | (go_at_call 25; refine (HT _ (Hv.out.ext (by exact (by repeat (first | exact Ext.refl _ | assumption | refine Ext.alloc ?_ _ | refine Ext.drew ?_ | refine Ext.drewN ?_ _ | refine Ext.setCell ?_ (by first | omega | (simp; done) | (simp; omega)) _ | refine Ext.trans ?_ (by assumption)))))).mono ?_; rintro e W1 ⟨rfl, hE1⟩) | (go_at_call 69; refine (HA _ (Hv.out.ext (Ext.trans (by exact (by repeat (first | exact Ext.refl _ | assumption | refine Ext.alloc ?_ _ | refine Ext.drew ?_ | refine Ext.drewN ?_ _ | refine Ext.setCell ?_ (by first | omega | (simp; done) | (simp; omega)) _ | refine Ext.trans ?_ (by assumption)))) hE1))).mono ?_; rintro e W2 ⟨rfl, hE2⟩))
          have hEw : Ext w W2 := (Ext.trans (by exact (by repeat (first | exact Ext.refl _ | assumption | refine Ext.alloc ?_ _ | refine Ext.drew ?_ | refine Ext.drewN ?_ _ | refine Ext.setCell ?_ (by first | omega | (simp; done) | (simp; omega)) _ | refine Ext.trans ?_ (by assumption)))) hE1).trans hE2
          have hZ : Blk (W2.alloc (.cells #[.string x.path, .int .i64 x.kind, .string x.data] 66)) w.heap.size 66 #[.string ⟨#[]⟩, .int .i64 0, .string ⟨#[]⟩] := ((Blk.new w 66 #[.string ⟨#[]⟩, .int .i64 0, .string ⟨#[]⟩]).ext (hE1.trans hE2)).ext ((Ext.refl _).alloc _)
          have hX := Blk.new W2 66 #[.string x.path, .int .i64 x.kind, .string x.data]
          have hne : w.heap.size ≠ W2.heap.size := Nat.ne_of_lt (Nat.lt_of_lt_of_le (by simp) (hE1.trans hE2).size)
          have hE4 : Ext w (W2.alloc (.cells #[.string x.path, .int .i64 x.kind, .string x.data] 66)) := (by repeat (first | exact Ext.refl _ | assumption | refine Ext.alloc ?_ _ | refine Ext.drew ?_ | refine Ext.drewN ?_ _ | refine Ext.setCell ?_ (by first | omega | (simp; done) | (simp; omega)) _ | refine Ext.trans ?_ (by assumption)))
          obtain ⟨zb, hzb⟩ : ∃ zb, w.heap.size = zb := ⟨_, rfl⟩
          obtain ⟨xb, hxb⟩ : ∃ xb, W2.heap.size = xb := ⟨_, rfl⟩
          have hzw : w.heap.size ≤ zb := by omega
          rw [hzb, hxb] at hne
          rw [hzb] at hZ
          rw [hxb] at hX
          simp only [hzb, hxb]
          have Hzb := Lib.hid hzb
          have Hxb := Lib.hid hxb
          clear hzb hxb hE1 hE2 hEw
          generalize W2.alloc (.cells #[.string x.path, .int .i64 x.kind, .string x.data] 66) = W4 at hZ hX hE4 ⊢
          obtain ⟨⟨x0, _⟩, ⟨x1, _⟩, ⟨x2, _⟩⟩ := hX.three
          obtain ⟨⟨z0, f0⟩, ⟨z1, f1⟩, ⟨z2, f2⟩⟩ := hZ.three
          go_region_held3 (fun w' => w'.cell? ⟨xb, 0, none⟩ = some (.string x.path) ∧ w'.cell? ⟨xb, 1, none⟩ = some (.int .i64 x.kind) ∧ w'.cell? ⟨xb, 2, none⟩ = some (.string x.data)) (first | go_keep | exact ⟨x0, x1, x2⟩)
            (first | (go_at_call 38; refine (fail_At_nil _ _ _).mono ?_; rintro e W5 ⟨rfl, rfl⟩))
          go_wp2
          obtain ⟨⟨u0, _⟩, ⟨u1, _⟩, ⟨u2, _⟩⟩ := (blk3_set hZ (.string x.path) (.int .i64 x.kind) (.string x.data)).three
          refine bodyPost_ret (v := .tuple #[.agg #[.string x.path, .int .i64 x.kind, .string x.data], .nilIface]) (by simp [results, Tryz.f65, go_sem, u0, u1, u2]) rfl ?_
          exact ⟨rfl, (((hE4.setCell (p := ⟨zb, 0, none⟩) hzw _).setCell (p := ⟨zb, 1, none⟩) hzw _).setCell (p := ⟨zb, 2, none⟩) hzw _).drew⟩
end Go.Proofs.YtneefmgidplbcaaGreatDoor

/-! Build -/
namespace Go.Proofs.YtneefmgidplbcaaGreatDoor
open Go Go.RowKit Go.Shelf Go.Proofs

theorem bld_info : (Tryz.prog.info? 210).map (fun i => (i.zero, i.size, i.bytes)) = some (some (.agg #[.pointer none, .slice none 0 0]), 2, 32) := by kernel_rfl
theorem byte_info : (Tryz.prog.info? 5).map (fun i => (i.zero, i.size, i.bytes)) = some (some (.int .u8 0), 1, 1) := by kernel_rfl

set_option maxHeartbeats 1000000 in
set_option maxRecDepth 100000 in
theorem copyCheck_used (b : Nat) (w : World) (h0 : w.cell? ⟨b, 0, none⟩ = some (.pointer (some ⟨b, 0, none⟩))) :
    Calls Tryz.prog 189 #[.pointer (some ⟨b, 0, none⟩)] w fun e w' => e = .returned (.tuple #[]) ∧ w' = w := by
  obtain ⟨j, hj, hj1, hj2, hj3⟩ := info_parts bld_info
  go_enter Tryz.func189, Tryz.ntmps189
  go_wp2
  rw [Lib.run_neq_ptr_same w _ Tryz.underlying207 hj]
  go_wp2
  go_end0
  exact ⟨rfl, rfl⟩

set_option maxHeartbeats 1000000 in
set_option maxRecDepth 100000 in
theorem copyCheck_fresh (b : Nat) (w : World) (h0 : w.cell? ⟨b, 0, none⟩ = some (.pointer none)) (hsh : w.shape? b = some (210, 2)) (hfz : w.frozen? ⟨b, 0, none⟩ = false) :
    Calls Tryz.prog 189 #[.pointer (some ⟨b, 0, none⟩)] w fun e w' => e = .returned (.tuple #[]) ∧ w' = w.setCell ⟨b, 0, none⟩ (.pointer (some ⟨b, 0, none⟩)) := by
  obtain ⟨j, hj, hj1, hjs, hj3⟩ := info_parts bld_info
  go_enter Tryz.func189, Tryz.ntmps189
  go_wp2
  rw [Lib.run_to_unsafe w ⟨b, 0, none⟩ Tryz.underlying207 Tryz.underlying138 hj (by rw [hjs]; decide) hsh (Nat.zero_lt_succ 1)]
  simp only [Result.andThen]
  rw [Oper.upon_value]
  go_wp2
  rw [run_callFunc_extern Tryz.func218 (by kernel_rfl) (by kernel_rfl) (by kernel_rfl) (e := Extern.AbiNoEscape.same) (by kernel_rfl)]
  rw [Lib.run_noEscape]
  simp only [Result.andThen]
  rw [Oper.upon_value]
  go_wp2
  rw [Lib.run_from_unsafe w ⟨b, 0, none⟩ Tryz.underlying138 Tryz.underlying207 hj hsh (by kernel_rfl)]
  simp only [Result.andThen]
  rw [Oper.upon_value]
  go_wp2
  go_end0
  exact ⟨rfl, rfl⟩

theorem copyCheck_any (B b : Nat) (bs : List Value) (w : World) (h : Lib.IsBuilder 210 5 B b bs w) :
    Calls Tryz.prog 189 #[.pointer (some ⟨b, 0, none⟩)] w fun e w' => e = .returned (.tuple #[]) ∧ (Lib.BuilderAt 210 5 B b (.pointer (some ⟨b, 0, none⟩)) bs w' ∧ Below B w w') := by
  rcases h with h | h
  · refine (copyCheck_fresh b w h.cell0 h.shape h.frozen0).mono ?_
    rintro e w' ⟨rfl, rfl⟩
    exact ⟨rfl, h.used _, (Below.refl B w).setCell (p := ⟨b, 0, none⟩) h.1 _⟩
  · refine (copyCheck_used b w h.cell0).mono ?_
    rintro e w' ⟨rfl, rfl⟩
    exact ⟨rfl, h, Below.refl B _⟩

set_option maxHeartbeats 2000000 in
set_option maxRecDepth 100000 in
/-- What is written stands behind what was written. -/
theorem write_any (B b : Nat) (bs : List Value) (s : ByteArray) (w : World) (h : Lib.IsBuilder 210 5 B b bs w) (hlen : bs.length + s.size ≤ 140737488355328) (hBw : B ≤ w.heap.size) :
    Calls Tryz.prog 148 #[.pointer (some ⟨b, 0, none⟩), .string s] w fun e w' => e = .returned (.tuple #[.int .i64 s.size, .nilIface]) ∧ (Lib.IsBuilder 210 5 B b (bs ++ Lib.strCells s) w' ∧ Below B w w') := by
  obtain ⟨i0, hi, hz0, hz1, hz2⟩ := info_parts byte_info
  go_enter Tryz.func148, Tryz.ntmps148
  go_wp2_with (go_at_call 189; refine (copyCheck_any B b bs _ h).mono ?_)
  rintro e w1 ⟨rfl, h1, hb1⟩
  obtain ⟨hB, v, hbk, hown, hne⟩ := h1
  have c0 : w1.cell? ⟨b, 0, none⟩ = some (.pointer (some ⟨b, 0, none⟩)) := by rw [Lib.cell_of_heap hbk]; rfl
  have c1 : w1.cell? ⟨b, 1, none⟩ = some v := by rw [Lib.cell_of_heap hbk]; rfl
  go_wp2_with (at_builtin; refine Lib.wpList_append_own_string _ rfl _ _ 208 9 rfl B 5 i0 Tryz.underlying208 Tryz.underlying9 hi hz0 hz1 hz2 _ _ _ rfl hown s rfl ?c3 ?c4 ?c5 ?_)
  case c3 => unfold maxLen; omega
  case c4 => omega
  case c5 => have := hb1.size; omega
  intro v' w2 hown' hgrow _
  have hlt : b < w1.heap.size := by
    rcases Nat.lt_or_ge b w1.heap.size with h' | h'
    · exact h'
    · simp [Array.getElem?_eq_none h'] at hbk
  have hb2 : w2.heap[b]? = some (.cells #[.pointer (some ⟨b, 0, none⟩), v] 210 (0, 0)) := by
    rw [hgrow.block b hlt (fun e => hne e.symm)]
    exact hbk
  have d0 : w2.cell? ⟨b, 0, none⟩ = some (.pointer (some ⟨b, 0, none⟩)) := by rw [Lib.cell_of_heap hb2]; rfl
  have d1 : w2.cell? ⟨b, 1, none⟩ = some v := by rw [Lib.cell_of_heap hb2]; rfl
  have f1 : w2.frozen? ⟨b, 1, none⟩ = false := Lib.frozen_of_heap hb2 1
  obtain ⟨ao, cap, rfl⟩ := own_form hown'
  go_wp2
  go_ret2
  refine ⟨rfl, .inr ?_, ?_⟩
  · exact Lib.BuilderAt.put (T := 210) (e := 5) hB hb2 (bs' := bs ++ Lib.strCells s) (by simpa [Lib.strCells_length] using hown') (by decide)
  · exact (hb1.grown hgrow (by have := hb1.size; omega) (fun k hk => (hown.lt k hk).1)).setCell (p := ⟨b, 1, none⟩) hB _

/-- The text that was written. -/
def StrPost (l : List UInt8) (B : Nat) (w : World) (e : Ending) (w' : World) : Prop := e = .returned (.string (Proofs.YtneefmgidplbcaaGreatDoor.B l)) ∧ Below B w w'
theorem string_any (B b : Nat) (l : List UInt8) (w : World) (h : Lib.IsBuilder 210 5 B b (Lib.byteCells l) w) (hBw : B ≤ w.heap.size) :
    Calls Tryz.prog 150 #[.pointer (some ⟨b, 0, none⟩)] w (StrPost l B w) := Tryz.Builder_String_any B b l w h hBw
end Go.Proofs.YtneefmgidplbcaaGreatDoor
