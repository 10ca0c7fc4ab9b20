/- fold.Tree tells whether a list is a tree; for entries whose texts have at most 2^47 bytes. -/
import Derived.Test.YtknfaabhlcdeoaaGreatDoorTreeW
import Derived.Test.YtknfaabhlcdeoaaGreatDoorLRight
import Derived.Test.YtknfaabhlcdeoaaGreatDoorFew
import Derived.Maps.OwnSet
import Derived.Maps.OwnOps
import Derived.StringKeys
import Derived.WalkKit
import Derived.Deep.RegionHeld3
namespace Go.Proofs.YtknfaabhlcdeoaaGreatDoor
open Go Go.RowKit Go.Shelf Go.Proofs Go.Maps

theorem map_ext {H : Type} {w w' : World} {k : TypeId} {R : Value → Option (DataW H × List MemPlace)} {b n : Nat} {D : DataW H} (h : w.ownsMap Tryz.prog k R b n D) (he : Ext w w') : w'.ownsMap Tryz.prog k R b n D := by
  have hlt := World.ownsMap.lt h
  obtain ⟨es, clock, hh, r⟩ := h
  exact ⟨es, clock, (Below.block he b hlt).trans hh, r⟩
theorem map_turned {w0 w w' : World} {b : Nat} (h : Ext w0 w) (hb : w0.heap.size ≤ b) (ht : w.mapTurned w' b) : Ext w0 w' := Below.grown h ht.grown h.size (fun k e => by cases e; exact hb)
theorem blk_turned {w w' : World} {b mb : Nat} {t : TypeId} {cs : Array Value} (h : Blk w b t cs) (ht : w.mapTurned w' mb) (hne : b ≠ mb) : Blk w' b t cs := (ht.grown.block b h.lt (fun e => hne (by cases e; rfl))).trans h
theorem law_strT : Keyed Tryz.prog 9 := string_keyed Tryz.underlying9
theorem keyST (s : ByteArray) (h : s.size ≤ maxLen) : keyOf Tryz.prog 9 (.string s) = some (.string s.data.toList) := WideMaps.keyOf_string_mk Tryz.underlying9 h
theorem zero_bool (w : World) : (zeroValue 4).run Tryz.prog w = .ok (.bool false) w := by kernel_rfl

/-- What a map says at each key. -/
def Says (D : DataW Value) (f : ByteArray → Bool) : Prop := IsMap D ∧ ∀ z : List UInt8, D.atKey (.string z) (.held (.bool false)) = .held (.bool (f (B z)))

theorem says_put {D : DataW Value} {f : ByteArray → Bool} (h : Says D f) (p : ByteArray) (b : Bool) : Says (D.put (.string p.data.toList) (.held (.bool b))) (fun z => if z = p then b else f z) := by
  refine ⟨h.1.put _ _, fun z => ?_⟩
  by_cases e : z = p.data.toList
  · subst e
    rw [atKey_put_same h.1 (isKey _)]
    simp [B_toList]
  · have e2 : B z ≠ p := fun e2 => e (by rw [← e2, toList_B])
    rw [atKey_put_other (fun e3 => e (by simpa using e3)), h.2]
    simp [e2]

theorem says_congr {D : DataW Value} {f g : ByteArray → Bool} (h : Says D f) (hfg : ∀ z, f z = g z) : Says D g := ⟨h.1, fun z => by rw [h.2, hfg]⟩

theorem says_look {w : World} {mb n : Nat} {D : DataW Value} {f : ByteArray → Bool} (hown : w.ownsMap Tryz.prog 9 RH mb n D) (hs : Says D f) (p : ByteArray) (hp : p.size ≤ maxLen) (b : Bool) (hb : f p = b) :
    (Instr.lookup 97 (.map (some mb)) (.string p) false).run Tryz.prog w = .ok (.bool b) w := by
  obtain ⟨u, ps, hrun, hu⟩ := hown.lookup (t := 97) (e := 4) law_strT Tryz.underlying97 (zero_bool w) (zd := .held (.bool false)) (zp := []) rfl (key := .string p) (keyST p hp)
  rw [hs.2, B_toList, hb] at hu
  have : u = .bool b := by
    simp [RH] at hu
    exact hu.1
  rw [hrun, this]

theorem Parent_dir (p : ByteArray) (w : World) (hs : p.size ≤ 140737488355328) : Calls Tryz.prog 33 #[.string p] w fun e w' => ∃ z u, e = .returned (.tuple #[.string (dirOf p), .string z, u]) ∧ Ext w w' := by
  rcases hn : names p with _ | xs
  · have hd : dirOf p = ⟨#[]⟩ := by rw [dirOf, hn]
    rw [hd]
    exact (Parent_none p w hs hn).mono fun e w' ⟨a, h, _, hE⟩ => ⟨_, _, h, hE⟩
  · by_cases h0 : xs = []
    · subst h0
      have hd : dirOf p = ⟨#[]⟩ := by rw [dirOf, hn]; rfl
      rw [hd]
      exact (Parent_root p w hs hn).mono fun e w' ⟨a, h, _, hE⟩ => ⟨_, _, h, hE⟩
    · have hd : dirOf p = pathOf xs.dropLast := by rw [dirOf, hn]; exact if_neg h0
      rw [hd]
      exact (Parent_some p xs.dropLast (xs.getLast h0) w hs (by rw [hn, List.dropLast_concat_getLast])).mono fun e w' ⟨h, hE⟩ => ⟨_, _, h, hE⟩

theorem dirOf_size (p : ByteArray) : (dirOf p).size ≤ 55 := by
  rw [dirOf]
  split
  · decide
  · rename_i xs hn
    split
    · decide
    · obtain ⟨h1, h2, _⟩ := names_some hn
      refine pathOf_size ?_ ?_
      · rw [List.all_eq_true]
        exact fun x hx => List.all_eq_true.1 h1 x (List.dropLast_subset _ hx)
      · rw [List.length_dropLast]
        omega

/-- The loop's relation. -/
def TreeRel (l : List Ent) (n : Nat) (w : World) (mb : Nat) (i : Value) (wr : World) : Prop :=
  ∃ (k m : Nat) (D : DataW Value), i = .int .i64 k ∧ k ≤ n ∧ m ≤ k + 1 ∧ wr.ownsMap Tryz.prog 9 RH mb m D ∧ Says D (heldB l k) ∧ Hid (∀ (t : Nat) (h : t < l.length), t < k → tokAt l t l[t] = true) ∧ Ext w wr

theorem tree_next {l : List Ent} {n k m : Nat} {w w' : World} {mb : Nat} {D : DataW Value} {x : Ent} (hlt : k < n) (hm : m ≤ k + 1) (hh : k < l.length) (hx : Hid (l[k]'hh = x)) (hok : tokAt l k x = true)
    (hall : Hid (∀ (t : Nat) (h : t < l.length), t < k → tokAt l t l[t] = true)) (hs : Says D (heldB l k)) (ho : w'.ownsMap Tryz.prog 9 RH mb (m + 1) (D.put (.string x.path.data.toList) (.held (.bool (holds x))))) (hE : Ext w w') :
    TreeRel l n w mb (.int .i64 ((k : Int) + 1)) w' ∧ n - (intOf (.int .i64 ((k : Int) + 1))).toNat < n - (intOf (.int .i64 (k : Int))).toNat := by
  have hall2 : ∀ (t : Nat) (h : t < l.length), t < k + 1 → tokAt l t l[t] = true := fun t ht htk => by
    by_cases e : t = k
    · subst e; rw [hx.out]; exact hok
    · exact hall.out t ht (by omega)
  refine ⟨⟨k + 1, m + 1, _, by simp, by omega, by omega, ho, ?_, Lib.hid hall2, hE⟩, by simp [intOf]; omega⟩
  have hr : Rising (l.take (k + 1)) := rising_of fun t ht htk => by
    have := hall2 t ht htk
    rw [tokAt, Bool.and_eq_true] at this
    exact this.1
  have he : entOk l[k] = true := by
    have := hall2 k hh (by omega)
    rw [tokAt, Bool.and_eq_true, okAt, Bool.and_eq_true] at this
    exact headOk_ent this.1.1
  have hown := heldB_own hh hr he
  refine says_congr (says_put hs x.path (holds x)) fun z => ?_
  rw [heldB_succ hh, hx.out]
  rw [hx.out] at hown
  by_cases e : z = x.path
  · rw [if_pos e, e, hown]
    simp
  · rw [if_neg e, decide_eq_false (fun e2 => e e2.symm)]
    simp

set_option maxRecDepth 20000 in
set_option maxHeartbeats 8000000 in
theorem Tree_any (v : Value) (l : List Ent) (w : World) (hv : RdE w v l) :
    Calls Tryz.prog 40 #[v] w fun e w' => e = .returned (.bool (treeOk l)) ∧ Ext w w' := by
  obtain ⟨n, hn⟩ : ∃ n, n = l.length := ⟨_, rfl⟩
  have Hn := Lib.hid hn
  have hlen := Rd.len hv
  obtain ⟨A, c, rfl, hc1, hc2, Hcell⟩ := rdE_form hv hn
  rw [← hn] at hlen
  clear hn hv
  by_cases h1024 : n ≤ 1024
  · have h1024' : ¬ (1024 : Int) < (n : Int) := by omega
    have hmm := @run_makeMap Tryz.prog
    have o0 : (w.alloc (.map #[] 0)).ownsMap Tryz.prog 9 RH w.heap.size 0 (.map []) := World.ownsMap_made w _ _ _
    have e0 : Ext w (w.alloc (.map #[] 0)) := (by repeat (first | exact Ext.refl _ | assumption | refine Ext.alloc ?_ _ | refine Ext.drew ?_ | refine Ext.drewN ?_ _ | refine Ext.setCell ?_ (by first | omega | (simp; done) | (simp; omega)) _ | refine Ext.trans ?_ (by assumption)))
    have s0 : Says (.map []) (fun _ => false) := ⟨isMap_empty, fun z => rfl⟩
    obtain ⟨w1, r1, o1, t1⟩ := o0.store (e := 4) (t := 97) law_strT Tryz.underlying97 (by unfold maxLen; omega) (key := .string ⟨#[47]⟩) (val := .bool true) (keyST _ (by decide)) (d := .held (.bool true)) (ps := []) rfl
    have e1 := map_turned e0 (Nat.le_refl _) t1
    have s1 : Says ((DataW.map []).put (.string (⟨#[47]⟩ : ByteArray).data.toList) (.held (.bool true))) (heldB l 0) := says_congr (says_put s0 ⟨#[47]⟩ true) fun z => by
      rw [heldB]
      by_cases e : z = ⟨#[47]⟩ <;> simp [e]
    have S1 := Lib.hid s1
    clear o0 e0 s0 t1 s1
    obtain ⟨mb, hmb⟩ : ∃ mb, w.heap.size = mb := ⟨_, rfl⟩
    rw [hmb] at r1 o1
    go_enter Tryz.func40, Tryz.ntmps40
    go_wp2
    clear hmm r1
    have hmw : w.heap.size ≤ mb := by omega
    have Hmb := Lib.hid hmb
    clear hmb
    go_loopw [16] (fun i wr => TreeRel l n w mb i wr) (fun i _ => n - (intOf i).toNat)
    case atStart => exact ⟨0, 1, _, rfl, Nat.zero_le _, by omega, o1, S1.out, Lib.hid fun t _ h => absurd h (Nat.not_lt_zero t), e1⟩
    case round =>
      obtain ⟨k, m, D, rfl, hkn, hmk, hown, hsays, hall, hE⟩ := hrel
      by_cases hlt : k < n
      · have hh : k < l.length := by have := Hn.out; omega
        obtain ⟨b, o, rfl, hcell⟩ := Hcell.out (List.ne_nil_of_length_pos (by omega))
        obtain ⟨q0, q1, q2, hf⟩ := hcell k hh
        obtain ⟨x, hx⟩ : ∃ x, l[k]'hh = x := ⟨_, rfl⟩
        rw [hx] at q0 q1 q2 hf
        have g0 := hE.cell q0
        have g1 := hE.cell q1
        have g2 := hE.cell q2
        have Hx := Lib.hid hx
        have Hs := Lib.hid hsays
        have hf1 := hf.1
        have Hf := Lib.hid hf
        have Hown := Lib.hid hown
        clear q0 q1 q2 hx hsays hf hown
        have HP := fun w => Parent_dir x.path w hf1
        go_upto_region 8 with (go_at_call 33; refine (HP _).mono ?_; rintro e W7 ⟨zn, un, rfl, hE7⟩)
        have hds := dirOf_size x.path
        have hE7' : Ext wr W7 := Ext.trans (by exact (by repeat (first | exact Ext.refl _ | assumption | refine Ext.alloc ?_ _ | refine Ext.drew ?_ | refine Ext.drewN ?_ _ | refine Ext.setCell ?_ (by first | omega | (simp; done) | (simp; omega)) _ | refine Ext.trans ?_ (by assumption)))) hE7
        have hB := (Blk.new wr 33 #[.string x.path, .int .i64 x.kind, .string x.data]).ext hE7
        obtain ⟨eb, heb⟩ : ∃ eb, wr.heap.size = eb := ⟨_, rfl⟩
        have hew : w.heap.size ≤ eb := by have := hE.size; omega
        have hme : eb ≠ mb := by have := Hown.out.lt; omega
        rw [heb] at hB ⊢
        have h0 := hE7'.cell g0
        have h1 := hE7'.cell g1
        have h2 := hE7'.cell g2
        have hown7 := Lib.hid (map_ext Hown.out hE7')
        have Heb := Lib.hid heb
        have HE7 := Lib.hid hE7'
        clear heb hE7 hE7' g0 g1 g2 HP
        obtain ⟨⟨z0, f0⟩, ⟨z1, f1⟩, ⟨z2, f2⟩⟩ := hB.three
        go_cut [55] (fun s55 wx => s55 = .bool (!tokAt l k x) ∧ Ext W7 wx)
        case first =>
          have HR := fun w => EntRight_any x w Hf.out
          have z0' := fun d os => cell_regrown z0 d os
          have z1' := fun d os => cell_regrown z1 d os
          have z2' := fun d os => cell_regrown z2 d os
          rcases hok : entOk x with _ | _
          · have hh2 : tokAt l k x = false := by rw [tokAt, okAt]; unfold headOk; rw [hok]; simp
            rw [hok] at HR
            clear hok
            (refine wp_region_quiet_below (by kernel_rfl) (by kernel_rfl) ?_; (repeat (go_big_quiet_step ((go_at_call 86; exact Calls.regrown_of (HR _))))); refine wpQuiet_nil ?_; intro _ hq; obtain ⟨⟨dq, osq⟩, hq2⟩ := hq; subst hq2)
            go_wp2
            go_meet
            exact ⟨by rw [hh2]; rfl, below_regrown W7 dq osq⟩
          · rw [hok] at HR
            by_cases hk2 : x.kind ≤ 2
            · have hk2' : ¬ (2 : Int) < x.kind := by omega
              have hk2d : decide ((2 : Int) < x.kind) = false := decide_eq_false hk2'
              obtain ⟨hb, hhb⟩ : ∃ hb, dirOk l k x = hb := ⟨_, rfl⟩
              have hlook : ∀ d os, (Instr.lookup 97 (.map (some mb)) (.string (dirOf x.path)) false).run Tryz.prog (Sort.grow (redrawn W7 d) os) = .ok (.bool hb) (Sort.grow (redrawn W7 d) os) := fun d os =>
                says_look (map_ext hown7.out (below_regrown W7 d os)) Hs.out (dirOf x.path) (by unfold maxLen; omega) hb (by rw [heldB_dir, hhb])
              cases hb
              · have hh2 : tokAt l k x = false := by rw [tokAt, okAt, hhb]; simp
                clear hok hhb
                (refine wp_region_quiet_below (by kernel_rfl) (by kernel_rfl) ?_; (repeat (go_big_quiet_step ((go_at_call 86; exact Calls.regrown_of (HR _))))); refine wpQuiet_nil ?_; intro _ hq; obtain ⟨⟨dq, osq⟩, hq2⟩ := hq; subst hq2)
                go_wp2
                go_meet
                exact ⟨by rw [hh2]; rfl, below_regrown W7 dq osq⟩
              · rcases k with _ | j
                · have hh2 : tokAt l 0 x = true := by rw [tokAt, okAt, headOk_zero, hok, hhb, decide_eq_true hk2]; rfl
                  clear hok hhb
                  (refine wp_region_quiet_below (by kernel_rfl) (by kernel_rfl) ?_; (repeat (go_big_quiet_step ((go_at_call 86; exact Calls.regrown_of (HR _))))); refine wpQuiet_nil ?_; intro _ hq; obtain ⟨⟨dq, osq⟩, hq2⟩ := hq; subst hq2)
                  go_wp2
                  go_meet
                  exact ⟨by rw [hh2]; rfl, below_regrown W7 dq osq⟩
                · have hj : j < l.length := by omega
                  have hh2 : tokAt l (j + 1) x = lt l[j].path x.path := by rw [tokAt, okAt, headOk_succ hj, hok, hhb, decide_eq_true hk2]; simp
                  obtain ⟨q0, q1, q2, _⟩ := hcell j hj
                  obtain ⟨y, hy⟩ : ∃ y, l[j]'hj = y := ⟨_, rfl⟩
                  rw [hy] at q0 q1 q2 hh2
                  have hEw : Ext w W7 := hE.trans HE7.out
                  have y0' := fun d os => cell_regrown (hEw.cell q0) d os
                  have y1' := fun d os => cell_regrown (hEw.cell q1) d os
                  have y2' := fun d os => cell_regrown (hEw.cell q2) d os
                  have HL := fun w => Less_any y x w
                  clear hok hhb q0 q1 q2 hcell hy
                  have hsub : IntKind.i64.wrap ((↑(j + 1) : Int) - 1) = (j : Int) := by
                    have : ((↑(j + 1) : Int) - 1) = (j : Int) := by omega
                    rw [this]
                    exact IntWalk.i64_in _ ⟨by omega, by omega⟩
                  have hjn : j < n := by omega
                  (refine wp_region_quiet_below (by kernel_rfl) (by kernel_rfl) ?_; (repeat (go_big_quiet_step ((first | (go_at_call 86; exact Calls.regrown_of (HR _)) | (go_at_call 87; exact Calls.regrown_of (HL _)))))); refine wpQuiet_nil ?_; intro _ hq; obtain ⟨⟨dq, osq⟩, hq2⟩ := hq; subst hq2)
                  go_wp2
                  go_meet
                  exact ⟨by rw [hh2], below_regrown W7 dq osq⟩
            · have hk2' : (2 : Int) < x.kind := by omega
              have hk2d : decide ((2 : Int) < x.kind) = true := decide_eq_true hk2'
              have hh2 : tokAt l k x = false := by rw [tokAt, decide_eq_false hk2]; simp
              clear hok
              (refine wp_region_quiet_below (by kernel_rfl) (by kernel_rfl) ?_; (repeat (go_big_quiet_step ((go_at_call 86; exact Calls.regrown_of (HR _))))); refine wpQuiet_nil ?_; intro _ hq; obtain ⟨⟨dq, osq⟩, hq2⟩ := hq; subst hq2)
              go_wp2
              go_meet
              exact ⟨by rw [hh2]; rfl, below_regrown W7 dq osq⟩
        case rest =>
          obtain ⟨rfl, hE8⟩ := hcut
          clear z0 z1 z2 f0 f1 f2 h0 h1 h2
          rcases htok : tokAt l k x with _ | _
          · have hbad := treeOk_not hh (by rw [Hx.out]; exact htok)
            clear htok hcell
            go_wp2
            all_goals (try contradiction)
            go_ret
            exact ⟨by first | rfl | (rw [hbad]; rfl), hE.trans (HE7.out.trans hE8)⟩
          · have Htok := Lib.hid htok
            obtain ⟨⟨z0, f0⟩, ⟨z1, f1⟩, ⟨z2, f2⟩⟩ := (hB.ext hE8).three
            have hown8 := Lib.hid (map_ext hown7.out hE8)
            have HH := fun w => Holds_any x w
            clear htok hcell
            go_upto_region 10 with (fail)
            go_region_held3 (fun w' => w'.cell? ⟨eb, 0, none⟩ = some (.string x.path) ∧ w'.cell? ⟨eb, 1, none⟩ = some (.int .i64 x.kind) ∧ w'.cell? ⟨eb, 2, none⟩ = some (.string x.data))
              (first | go_keep | exact ⟨hE9.cell z0, hE9.cell z1, hE9.cell z2⟩ | exact ⟨c0, c1, c2⟩)
              (first | (go_at_call 88; refine (HH _).mono ?_; rintro e W9 ⟨rfl, hE9'⟩; have hE9 : Ext wc W9 := Ext.trans (by exact (by repeat (first | exact Ext.refl _ | assumption | refine Ext.alloc ?_ _ | refine Ext.drew ?_ | refine Ext.drewN ?_ _ | refine Ext.setCell ?_ (by first | omega | (simp; done) | (simp; omega)) _ | refine Ext.trans ?_ (by assumption)))) hE9'; obtain ⟨W10, hrun, hown10, hturn⟩ := (map_ext hown8.out hE9).store (e := 4) (t := 97) law_strT Tryz.underlying97 (by unfold maxLen; omega) (key := .string x.path) (val := .bool (holds x)) (keyST x.path (by unfold maxLen; omega)) (d := .held (.bool (holds x))) (ps := []) rfl; have hE10 := map_turned (hE.trans (HE7.out.trans (hE8.trans hE9))) (by omega) hturn; obtain ⟨⟨c0, _⟩, ⟨c1, _⟩, ⟨c2, _⟩⟩ := (blk_turned (hB.ext (hE8.trans hE9)) hturn hme).three))
            go_wp2
            exact tree_next hlt hmk hh Hx Htok.out hall Hs.out hown10 hE10
      · have hkn2 : k = n := by omega
        have hok : treeOk l = true := treeOk_of (by have := Hn.out; omega) fun t ht => hall.out t ht (by have := Hn.out; omega)
        clear hown hsays
        go_wp2
        go_ret
        exact ⟨by first | rfl | (rw [hok]; rfl), hE⟩
  · have h1024' : (1024 : Int) < (n : Int) := by omega
    have hbad : treeOk l = false := treeOk_long (by have := Hn.out; omega)
    go_enter Tryz.func40, Tryz.ntmps40
    go_wp2
    go_ret
    exact ⟨by first | rfl | (rw [hbad]; rfl), Ext.refl _⟩
end Go.Proofs.YtknfaabhlcdeoaaGreatDoor
