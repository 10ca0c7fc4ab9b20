/- Joined: list; list; Plain facts of the folded stack, and what a list of entries is answered as; fold; slices; edit's upper layer in memory: at, sort -/
import Derived.Test.YtneefmgidplbcaaGreatDoorJE4
import Derived.Test.YtneefmgidplbcaaGreatDoorJE1
import Derived.Maps.OwnSet
import Derived.Maps.OwnIn
import Derived.StringKeys
import Derived.Sort.OwnSorted
import Derived.Test.YtneefmgidplbcaaGreatDoorJE3
import Derived.Maps.AppendAt
import Derived.Deep.AppendLies
import Derived.Laws.AppendOwnNone
import Derived.Test.YtneefmgidplbcaaGreatDoorJE2
import Derived.RegionTactic
/-! LNames -/
namespace Go.Proofs.YtneefmgidplbcaaGreatDoor
open Go Go.RowKit Go.Shelf Go.Proofs Go.Maps Go.Sort
attribute [local go_sem] Oper.semAt_some

def NamesOk (s : List (List Ent)) (p : ByteArray) (f : Nat) (w : World) (e : Ending) (w' : World) : Prop := ∃ v l, e = .returned (.tuple #[v, .nilIface]) ∧ NamesIs s p f l ∧ RdS w' v l ∧ Ext w w'
def NamesBad (c : Int) (w : World) (e : Ending) (w' : World) : Prop := ∃ a, e = .returned (.tuple #[.slice none 0 0, .iface 135 (.pointer (some ⟨a, 0, none⟩))]) ∧ ErrN w' 1 (.iface 135 (.pointer (some ⟨a, 0, none⟩))) c ∧ Ext w w'
def NamesAns (s : List (List Ent)) (p : ByteArray) (w : World) (e : Ending) (w' : World) : Prop := match dirE s p with
  | .ok f => NamesOk s p f w e w'
  | .error c => NamesBad c w e w'

theorem ownsMap_ext {H : Type} {w w' : World} {k : TypeId} {R : Value → Option (DataW H × List MemPlace)} {b n : Nat} {D : DataW H} (h : w.ownsMap Tryz.prog k R b n D) (he : Ext w w') : w'.ownsMap Tryz.prog k R b n D := by
  have hlt := World.ownsMap.lt h
  obtain ⟨es, clock, hh, r⟩ := h
  exact ⟨es, clock, (Below.block he b hlt).trans hh, r⟩

theorem walks_ext {W W' : World} (he : Ext W W') : KeepsWalks W W' := ⟨he.size, fun _ _ hk _ => he.block hk⟩

theorem own_cells {w : World} {base e size n k : Nat} {v : Value} {xs : List Value} (h : w.ownsRow base e size v n xs) (hk : v.ownBlock = some k) : ∃ cs t fr, w.heap[k]? = some (.cells cs t fr) := by
  rcases h.2 with ⟨rfl, _⟩ | ⟨g, cap, cur, rfl, _, hh, _⟩
  · cases hk
  · cases hk
    exact ⟨_, _, _, hh⟩

theorem law_strS : Keyed Tryz.prog 9 := string_keyed Tryz.underlying9
theorem keySS (s : ByteArray) (h : s.size ≤ maxLen) : keyOf Tryz.prog 9 (.string s) = some (.string s.data.toList) := WideMaps.keyOf_string_mk Tryz.underlying9 h

set_option maxRecDepth 100000 in
set_option maxHeartbeats 2000000 in
theorem Names_bad (v : Value) (s : List (List Ent)) (p : ByteArray) (c : Int) (w : World) (hv : RdK w v s) (hp : p.size ≤ 70368744177664) (hd : dirE s p = .error c) :
    Calls Tryz.prog 129 #[v, .string p] w (NamesBad c w) := by
  have HD := fun w' h => Dir_any v s p w' h (by omega)
  rw [hd] at HD
  have HD : ∀ w', RdK w' v s → Calls Tryz.prog 168 #[v, .string p] w' (DirBad c w') := HD
  have HD2 := fun (W : World) h => (callsIn_wide (n := 3 - 1)).2 (HD W h)
  have Hv := Lib.hid hv
  obtain ⟨A, c', rfl, _, _, _⟩ := RdK.form hv rfl
  clear hv hd HD
  refine (callsIn_wide (n := 3)).1 ?_
  refine callsIn_of_wp_marks Tryz.func129 rfl trivial ?_ rfl
  simp only [Tryz.ntmps129, List.size_toArray, List.length_cons, List.length_nil, Nat.reduceAdd, Nat.reduceSub, Array.replicate_succ, Array.replicate_zero, List.push_toArray, List.append_toArray, List.nil_append, List.cons_append]
  gi_wp2_with (refine ⟨trivial, ?_⟩; gi_at_call 168; refine (HD2 _ (Hv.out.ext (by exact (by repeat (first | exact Ext.refl _ | assumption | refine Ext.alloc ?_ _ | refine Ext.drew ?_ | refine Ext.drewN ?_ _ | refine Ext.setCell ?_ (by first | omega | (simp; done) | (simp; omega)) _ | refine Ext.trans ?_ (by assumption)))))).mono ?_; rintro e w' ⟨a, rfl, hEr, hE⟩)
  refine ⟨.tuple #[.slice none 0 0, .iface 135 (.pointer (some ⟨a, 0, none⟩))], by simp [results, Tryz.f129, go_sem], ?_⟩
  exact ⟨_, rfl, hEr, Ext.trans (by exact (by repeat (first | exact Ext.refl _ | assumption | refine Ext.alloc ?_ _ | refine Ext.drew ?_ | refine Ext.drewN ?_ _ | refine Ext.setCell ?_ (by first | omega | (simp; done) | (simp; omega)) _ | refine Ext.trans ?_ (by assumption)))) hE⟩

/-- What lies in memory while the names are gathered. -/
structure NM (w wr : World) (N mb : Nat) (v : Value) (p : ByteArray) (acc : List ByteArray) : Prop where
  bs : Boxed wr N 22 v
  bp : Boxed wr (N + 1) 9 (.string p)
  own : wr.ownsMap Tryz.prog 9 RH mb acc.length (setS acc)
  ext : Ext w wr

theorem NM.grow {w wr w' : World} {N mb : Nat} {v : Value} {p : ByteArray} {acc : List ByteArray} (h : NM w wr N mb v p acc) (he : Ext wr w') : NM w w' N mb v p acc :=
  ⟨boxed_ext h.bs he, boxed_ext h.bp he, ownsMap_ext h.own he, h.ext.trans he⟩

theorem NM.put {w wr w' : World} {N mb : Nat} {v : Value} {p z : ByteArray} {acc : List ByteArray} (h : NM w wr N mb v p acc) (hm : w.heap.size ≤ mb) (hN : N + 1 < mb) (ho : w'.ownsMap Tryz.prog 9 RH mb (acc.length + 1) ((setS acc).put (keyL z) uT)) (ht : wr.mapTurned w' mb) : NM w w' N mb v p (acc ++ [z]) := by
  have hk : ∀ b, b < mb → w'.heap[b]? = wr.heap[b]? := fun b hb => ht.grown.block b (Nat.lt_trans hb h.own.lt) (fun e => by cases e; omega)
  refine ⟨(hk N (by omega)).trans h.bs, (hk (N + 1) (by omega)).trans h.bp, ?_, Below.grown h.ext ht.grown h.ext.size (fun k e => by cases e; exact hm)⟩
  rw [setS_snoc] at ho
  rw [List.length_append, List.length_singleton]
  exact ho

theorem RdE.form {w : World} {v : Value} {l : List Ent} {n : Nat} (hv : RdE w v l) (hn : n = l.length) :
    ∃ A c, v = .slice A n c ∧ n ≤ c ∧ c ≤ 9223372036854775807 ∧ Hid (l ≠ [] → ∃ b o, A = some ⟨b, o, none⟩ ∧
      ∀ (j : Nat) (h : j < l.length), w.cell? ⟨b, o + j * 3, Option.none⟩ = some (.string l[j].path) ∧ w.cell? ⟨b, o + j * 3 + 1, Option.none⟩ = some (.int .i64 l[j].kind) ∧ w.cell? ⟨b, o + j * 3 + 2, Option.none⟩ = some (.string l[j].data) ∧ l[j].fits) := by
  by_cases h0 : l = []
  · obtain ⟨A, c, e, h1, h2, _⟩ := hv
    rw [← hn] at e h1
    exact ⟨A, c, e, h1, h2, Lib.hid fun h => absurd h0 h⟩
  · obtain ⟨b, o, c, e, h1, h2, h3⟩ := RdE.open_ hv h0
    rw [← hn] at e h1
    exact ⟨_, c, e, h1, h2, Lib.hid fun _ => ⟨b, o, rfl, h3⟩⟩

/-- The outer loop's relation, and the inner one's. -/
def MetOut (s : List (List Ent)) (p : ByteArray) (f n : Nat) (w : World) (N mb : Nat) (v : Value) (i : Value) (wr : World) : Prop :=
  ∃ k : Nat, i = .int .i64 k ∧ f ≤ k ∧ k ≤ n ∧ NM w wr N mb v p (metAt s p f k)
def MetIn (s : List (List Ent)) (p : ByteArray) (f k m : Nat) (l : List Ent) (w : World) (N mb : Nat) (v : Value) (jv : Value) (wr : World) : Prop :=
  ∃ j : Nat, jv = .int .i64 j ∧ j ≤ m ∧ NM w wr N mb v p (metAt s p f k ++ (l.take j).filterMap (inP p))

theorem metIn_next {s : List (List Ent)} {p : ByteArray} {f k m j : Nat} {l : List Ent} {x : Ent} {acc zs : List ByteArray} {w w' : World} {N mb : Nat} {v : Value} (hjl : j < m) (Hacc : Hid (metAt s p f k ++ (l.take j).filterMap (inP p) = acc))
    (Hmi : Hid ((l.take (j + 1)).filterMap (inP p) = (l.take j).filterMap (inP p) ++ (inP p x).toList)) (hz : (inP p x).toList = zs) (h : NM w w' N mb v p (acc ++ zs)) :
    MetIn s p f k m l w N mb v (.int .i64 ((j : Int) + 1)) w' ∧ m - (intOf (.int .i64 ((j : Int) + 1))).toNat < m - (intOf (.int .i64 (j : Int))).toNat := by
  refine ⟨⟨j + 1, by simp, by omega, ?_⟩, by simp [intOf]; omega⟩
  rw [Hmi.out, ← List.append_assoc, Hacc.out, hz]
  exact h

theorem metOut_next {s : List (List Ent)} {p : ByteArray} {f k n : Nat} {w w' : World} {N mb : Nat} {v : Value} (hfk : f ≤ k) (hlt : k < n) (h : NM w w' N mb v p (metAt s p f (k + 1))) :
    MetOut s p f n w N mb v (.int .i64 ((k : Int) + 1)) w' ∧ n - (intOf (.int .i64 ((k : Int) + 1))).toNat < n - (intOf (.int .i64 (k : Int))).toNat :=
  ⟨⟨k + 1, by simp, by omega, by omega, h⟩, by simp [intOf]; omega⟩

set_option maxRecDepth 100000 in
set_option maxHeartbeats 16000000 in
theorem Names_ok (v : Value) (s : List (List Ent)) (p : ByteArray) (f : Nat) (w : World) (hv : RdK w v s) (hp : p.size ≤ 70368744177664) (hd : dirE s p = .ok f) :
    Calls Tryz.prog 129 #[v, .string p] w (NamesOk s p f w) := by
  have HD := fun w' h => Dir_any v s p w' h (by omega)
  rw [hd] at HD
  have HD : ∀ w', RdK w' v s → Calls Tryz.prog 168 #[v, .string p] w' (DirOk f w') := HD
  have HD2 := fun (W : World) h => (callsIn_wide (n := 3 - 1)).2 (HD W h)
  obtain ⟨x0, hx0, hk0, hf0⟩ := dirE_ok hd
  obtain ⟨xs0, hst, hn0, hl0, _⟩ := lookE_ok hx0
  have hfl := lookN_floor hl0
  rw [hf0] at hfl
  obtain ⟨hs9, hlay⟩ := stackOk_layers hst
  have Hlay := Lib.hid hlay
  have Hst := Lib.hid hst
  have Hv := Lib.hid hv
  have Hd := Lib.hid hd
  obtain ⟨n, hn⟩ : ∃ n, n = s.length := ⟨_, rfl⟩
  have Hn := Lib.hid hn
  have hlen := Rd.len hv
  obtain ⟨A, c, rfl, hc1, hc2, Hcell⟩ := RdK.form hv hn
  rw [← hn] at hlen hs9 hfl
  clear hv hd HD hx0 hk0 hf0 hn0 hl0 hlay hst hn
  refine (callsIn_wide (n := 3)).1 ?_
  refine callsIn_of_wp_marks Tryz.func129 rfl trivial ?_ rfl
  simp only [Tryz.ntmps129, List.size_toArray, List.length_cons, List.length_nil, Nat.reduceAdd, Nat.reduceSub, Array.replicate_succ, Array.replicate_zero, List.push_toArray, List.append_toArray, List.nil_append, List.cons_append]
  have hmm := @run_makeMap Tryz.prog
  gi_wp2_with (refine ⟨trivial, ?_⟩; gi_at_call 168; refine (HD2 _ (Hv.out.ext (by exact (by repeat (first | exact Ext.refl _ | assumption | refine Ext.alloc ?_ _ | refine Ext.drew ?_ | refine Ext.drewN ?_ _ | refine Ext.setCell ?_ (by first | omega | (simp; done) | (simp; omega)) _ | refine Ext.trans ?_ (by assumption)))))).mono ?_; rintro e W1 ⟨rfl, hE⟩)
  clear hmm HD2
  obtain ⟨N, hN⟩ : ∃ N, w.heap.size = N := ⟨_, rfl⟩
  obtain ⟨mb, hmb⟩ : ∃ mb, W1.heap.size = mb := ⟨_, rfl⟩
  have hNmb : N + 1 < mb := by have := hE.size; simp at this; omega
  have hM : NM w (W1.alloc (.map #[] 0)) N mb (.slice A n c) p (metAt s p f f) := by
    have b0 := (Boxed.new w 22 (.slice A n c)).alloc (.cells #[.string p] 9)
    have b1 := Boxed.new (w.alloc (.cells #[.slice A n c] 22)) 9 (.string p)
    simp only [World.size_alloc, hN] at b0 b1
    refine ⟨(boxed_ext b0 hE).alloc _, (boxed_ext b1 hE).alloc _, ?_, ?_⟩
    · rw [metAt_zero, ← hmb]
      exact World.ownsMap_made W1 _ _ _
    · exact Ext.alloc (Ext.trans (by exact (by repeat (first | exact Ext.refl _ | assumption | refine Ext.alloc ?_ _ | refine Ext.drew ?_ | refine Ext.drewN ?_ _ | refine Ext.setCell ?_ (by first | omega | (simp; done) | (simp; omega)) _ | refine Ext.trans ?_ (by assumption)))) hE) _
  have hmw : w.heap.size ≤ mb := by omega
  have hszm : mb < (W1.alloc (.map #[] 0)).heap.size := by simp [hmb]
  simp only [hN, hmb]
  have HN := Lib.hid hN
  clear hN hmb hE
  generalize W1.alloc (.map #[] 0) = W3 at hM hszm ⊢
  gi_loopw [9] (fun i wr => MetOut s p f n w N mb (.slice A n c) i wr) (fun i _ => n - (intOf i).toNat)
  case atStart => exact ⟨f, rfl, Nat.le_refl _, hfl, hM⟩
  case round =>
    obtain ⟨k, rfl, hfk, hkn, hm⟩ := hrel
    have bs := hm.bs.cell
    have bp := hm.bp.cell
    by_cases hlt : k < n
    · have hh : k < s.length := by have := Hn.out; omega
      obtain ⟨b, o, rfl, hcell⟩ := Hcell.out (List.ne_nil_of_length_pos (by omega))
      obtain ⟨u, q0, hu⟩ := hcell k hh
      have g0 := hm.ext.cell q0
      obtain ⟨l, hl⟩ : ∃ l, s[k]'hh = l := ⟨_, rfl⟩
      rw [hl] at hu
      obtain ⟨m, hmm⟩ : ∃ m, m = l.length := ⟨_, rfl⟩
      have Hmm := Lib.hid hmm
      have hll := layerOk_len (Hlay.out l (by rw [← hl]; exact List.getElem_mem hh))
      obtain ⟨A2, c2, rfl, hd1, hd2, Hcell2⟩ := RdE.form hu hmm
      have Hl := Lib.hid hl
      have HM := Lib.hid hm
      rw [← hmm] at hll
      clear hcell q0 hu hmm hl hm
      have hkk : (0 : Int) ≤ (k : Int) := by omega
      have hkk2 : (k : Int) < (n : Int) := by omega
      gi_wp2
      obtain ⟨wo, hwo⟩ : ∃ wo, wo = wr := ⟨_, rfl⟩
      subst hwo
      gi_loopw [39] (fun jv wr => MetIn s p f k m l w N mb (.slice (some ⟨b, o, none⟩) n c) jv wr) (fun jv _ => m - (intOf jv).toNat)
      case atStart => exact ⟨0, rfl, Nat.zero_le _, by simpa using HM.out⟩
      case round =>
        obtain ⟨j, rfl, hjm, hm⟩ := hrel
        clear bs bp
        have bs := hm.bs.cell
        have bp := hm.bp.cell
        by_cases hjl : j < m
        · have hjh : j < l.length := by have := Hmm.out; omega
          obtain ⟨b2, o2, rfl, hcell⟩ := Hcell2.out (List.ne_nil_of_length_pos (by omega))
          obtain ⟨x, hx⟩ : ∃ x, l[j]'hjh = x := ⟨_, rfl⟩
          obtain ⟨q0, q1, q2, hf⟩ := hcell j hjh
          rw [hx] at q0 q1 q2 hf
          have g1 := hm.ext.cell q0
          have g2 := hm.ext.cell q1
          have g3 := hm.ext.cell q2
          have hlk := Hlay.out l (by rw [← Hl.out]; exact List.getElem_mem hh)
          have hok := headOk_ent (okAt_head (layerOk_at hlk j hjh))
          rw [hx] at hok
          obtain ⟨ys, z, hnm, _⟩ := entOk_names hok
          have hin : inP p x = if pathOf ys = p then some z else none := by
            rw [inP, hnm]
            simp
          have hzn : z.size ≤ 8 := nameB_size (List.all_eq_true.1 (names_some hnm).1 z (by simp))
          have hmi := met_in p hjh
          rw [hx] at hmi
          have Hmi := Lib.hid hmi
          have HP := fun W => (callsIn_wide (n := 3 - 1)).2 (Parent_some x.path ys z W hf.1 hnm)
          have Hx := Lib.hid hx
          have Hlen := Lib.hid (metAt_len (f := f) p (k + 1) Hst.out)
          rw [metAt_succ p hfk hh] at Hlen
          have hacc : (metAt s p f k ++ (l.take j).filterMap (inP p)).length ≤ 576 := by
            have h1 := Hlen.out
            rw [Hl.out, ← List.take_append_drop j l, List.filterMap_append, List.length_append, List.length_append] at h1
            rw [List.length_append]
            omega
          obtain ⟨acc, hacc'⟩ : ∃ acc, metAt s p f k ++ (l.take j).filterMap (inP p) = acc := ⟨_, rfl⟩
          rw [hacc'] at hm hacc
          have Hacc := Lib.hid hacc'
          have HMm := Lib.hid hm
          clear q0 q1 q2 hcell hlk hok hnm hmi hx hf hacc' hm
          have hjj : (0 : Int) ≤ (j : Int) := by omega
          have hjj2 : (j : Int) < (m : Int) := by omega
          by_cases hd : pathOf ys = p
          · have hde : ((pathOf ys).toList == p.toList) = true := by rw [hd]; simp
            have hin' : inP p x = some z := by rw [hin, if_pos hd]
            have Hin := Lib.hid hin'
            clear hin hd hin'
            gi_wp2_with (refine ⟨trivial, ?_⟩; gi_at_call 57; refine (HP _).mono ?_; rintro e W7 ⟨rfl, hE7⟩; have hm7 := HMm.out.grow (Ext.trans (by exact (by repeat (first | exact Ext.refl _ | assumption | refine Ext.alloc ?_ _ | refine Ext.drew ?_ | refine Ext.drewN ?_ _ | refine Ext.setCell ?_ (by first | omega | (simp; done) | (simp; omega)) _ | refine Ext.trans ?_ (by assumption)))) hE7); have bp7 := hm7.bp.cell; obtain ⟨w8, r8, o8, t8⟩ := hm7.own.store (e := 4) (t := 114) law_strS Tryz.underlying114 (by unfold maxLen; omega) (key := .string z) (val := .bool true) (keySS z (by unfold maxLen; omega)) (d := uT) (ps := []) rfl)
            exact metIn_next hjl Hacc Hmi (zs := [z]) (by rw [Hin.out]; rfl) (hm7.put hmw hNmb o8 t8)
          · have hde : ((pathOf ys).toList == p.toList) = false := by
              rw [beq_eq_false_iff_ne]
              exact fun e => hd (data_inj (by rw [← toList_eq, e, toList_eq]))
            have hin' : inP p x = none := by rw [hin, if_neg hd]
            have Hin := Lib.hid hin'
            clear hin hd hin'
            gi_wp2_with (refine ⟨trivial, ?_⟩; gi_at_call 57; refine (HP _).mono ?_; rintro e W7 ⟨rfl, hE7⟩; have hm7 := HMm.out.grow (Ext.trans (by exact (by repeat (first | exact Ext.refl _ | assumption | refine Ext.alloc ?_ _ | refine Ext.drew ?_ | refine Ext.drewN ?_ _ | refine Ext.setCell ?_ (by first | omega | (simp; done) | (simp; omega)) _ | refine Ext.trans ?_ (by assumption)))) hE7); have bp7 := hm7.bp.cell)
            exact metIn_next hjl Hacc Hmi (zs := []) (by rw [Hin.out]; rfl) (by rw [List.append_nil]; exact hm7)
        · have hjm2 : j = m := by omega
          have hfin : NM w wr N mb (.slice (some ⟨b, o, none⟩) n c) p (metAt s p f (k + 1)) := by
            rw [metAt_succ p hfk hh, Hl.out]
            rw [List.take_of_length_le (by have := Hmm.out; omega)] at hm
            exact hm
          have HF := Lib.hid hfin
          clear hfin hm
          subst hjm2
          gi_wp2
          exact metOut_next hfk hlt HF.out
    · have hkn2 : k = n := by omega
      subst hkn2
      have hm2 : NM w wr N mb (.slice A k c) p (metP s p f) := by
        rw [← metAt_end, ← Hn.out]
        exact hm
      have hlen2 := metAt_len (f := f) p k Hst.out
      rw [Hn.out, metAt_end] at hlen2
      have HM := Lib.hid hm2
      clear hm hm2
      have cK : ∀ mb W, CallsIn Fence.wide (3 - 1) Tryz.prog 169 #[.map mb] W fun e w' => e = .returned (.func (.func 209) #[] #[.pointer (some ⟨W.heap.size, 0, none⟩)]) ∧ w' = W.alloc (.cells #[.map mb] 114) :=
        fun mb W => AnyZ.keys_in Tryz.keysS Fence.wide (3 - 1) trivial rfl mb W
      gi_wp2_with (refine ⟨trivial, ?_⟩; gi_at_call 169; refine (cK _ _).mono ?_; rintro e W7 ⟨rfl, rfl⟩)
      obtain ⟨OB, hOB⟩ : ∃ OB, wr.heap.size = OB := ⟨_, rfl⟩
      have hmo : mb < OB := by have := HM.out.own.lt; omega
      have b0 : Boxed ((wr.alloc (.cells #[.slice none 0 0] 29)).alloc (.cells #[.map (some mb)] 114)) OB 29 (.slice none 0 0) := by
        have := (Boxed.new wr 29 (.slice none 0 0)).alloc (.cells #[.map (some mb)] 114)
        rwa [hOB] at this
      have b1 : Boxed ((wr.alloc (.cells #[.slice none 0 0] 29)).alloc (.cells #[.map (some mb)] 114)) (OB + 1) 114 (.map (some mb)) := by
        have := Boxed.new (wr.alloc (.cells #[.slice none 0 0] 29)) 114 (.map (some mb))
        rwa [World.size_alloc, hOB] at this
      have hE0 : Ext wr ((wr.alloc (.cells #[.slice none 0 0] 29)).alloc (.cells #[.map (some mb)] 114)) := (by repeat (first | exact Ext.refl _ | assumption | refine Ext.alloc ?_ _ | refine Ext.drew ?_ | refine Ext.drewN ?_ _ | refine Ext.setCell ?_ (by first | omega | (simp; done) | (simp; omega)) _ | refine Ext.trans ?_ (by assumption)))
      have hsz : ((wr.alloc (.cells #[.slice none 0 0] 29)).alloc (.cells #[.map (some mb)] 114)).heap.size = OB + 1 + 1 := by simp [hOB]
      rw [hOB]
      have hM0 := HM.out.grow hE0
      clear hOB
      generalize (wr.alloc (.cells #[.slice none 0 0] 29)).alloc (.cells #[.map (some mb)] 114) = W0 at b0 b1 hE0 hsz hM0 ⊢
      have HM0 := Lib.hid hM0
      have Hl2 := Lib.hid hlen2
      have hmixed : Tryz.prog.follows .mixedOrders = true := by kernel_rfl
      clear hM0 hlen2 bs bp HM hE0
      refine wpIn_rangeFunc_ownC rfl (by omega) (gf := 209) (lb := #[.pointer (some ⟨OB + 1, 0, none⟩)]) rfl trivial (enters_of Tryz.func209 (by kernel_rfl) rfl)
        (keysP_stops 2 (by omega) (OB + 1) mb _ (OB + 1) (setS (metP s p f)) W0 (by omega) b1.cell HM0.out.own) (by omega) walksK_t walksK_b (Below.refl _ _) (fun _ => rfl)
        (fun pre W => ((∃ u, Boxed W OB 29 u ∧ W.ownsRow (OB + 1 + 1) 9 1 u (shownL s p pre).length ((shownL s p pre).map encStr)) ∧ (Boxed W N 22 (.slice A k c) ∧ Boxed W (N + 1) 9 (.string p))) ∧ Ext w W ∧ OB + 1 + 1 ≤ W.heap.size)
        (fun _ _ _ => False)
        ?hIc ?hI ?hIx ?h0
        (fun x => { tmps := #[Value.slice A k c, Value.string p, Value.pointer (some { block := N, off := 0 }),
          Value.pointer (some { block := N + 1, off := 0 }), Value.slice none 0 0, Value.nilIface,
          Value.int IntKind.i64 ↑f, Value.nilIface, Value.map (some mb), Value.int IntKind.i64 ↑k, undef, u11, u12, u13,
          u14, Value.pointer (some { block := OB, off := 0 }), encStr x,
          Value.tuple #[Value.int IntKind.i64 ↑f, Value.nilIface], Value.slice A k c, Value.string p,
          Value.tuple #[Value.int IntKind.i64 ↑f, Value.nilIface], Value.int IntKind.i64 ↑f, Value.nilIface,
          Value.nilIface, Value.bool false, undef, Value.map (some mb), Value.int IntKind.i64 ↑f,
          Value.int IntKind.i64 ↑k, Value.slice A k c, Value.int IntKind.i64 ↑k, Value.bool false, u32, u33, u34, u35,
          u36, u37, u38, u39, u40, u41, u42, u43, u44, u45, u46, u47, u48, u49, u50, u51, u52, u53, u54, u55,
          Value.map (some mb),
          Value.func (Fn.func 209) #[] #[Value.pointer (some { block := OB + 1, off := 0 })], encStr x, undef,
          undef, undef, undef, undef, undef, undef, undef, undef, undef, undef, undef], defers := [] }) ?assign ?body ?done ?stop
      case hIc =>
        rintro pre W u ⟨⟨⟨v, hv, hrow⟩, c0, c1⟩, hE, hlt⟩
        have hb : ∀ {B : Nat} {t : TypeId} {x : Value}, B ≠ OB + 1 → Boxed W B t x → Boxed (W.setCell ⟨OB + 1, 0, none⟩ u) B t x := fun hne h => (Below.heap_setCell W ⟨OB + 1, 0, none⟩ u _ hne).trans h
        exact ⟨⟨⟨v, hb (by omega) hv, ownsRow_setCell_below hrow (by show OB + 1 < OB + 1 + 1; omega) u⟩, hb (by omega) c0, hb (by omega) c1⟩, hE.setCell (by simp; omega) u, by simpa [World.setCell] using hlt⟩
      case hI =>
        refine OwnFrom.and (OwnFrom.and (Own.from (fun pre X Y row ⟨v, hv, hr⟩ hg hrow => ?_) _) (Own.from (fun pre X Y row ⟨c0, c1⟩ hg hrow => ?_) _)) (OwnFrom.and (ownFrom_below (Nat.le_refl _) (by omega)) (fun _ _ _ _ hs hg _ => Nat.le_trans hs hg.size))
        · obtain ⟨v', h1, h2, _⟩ := holdsRow_own (OB + 1 + 1) OB 29 9 1 (fun _ : Unit => (shownL s p pre).length) (fun _ => (shownL s p pre).map encStr) (fun _ _ => True) () X Y row ⟨v, hv, hr, trivial⟩ hg hrow
          exact ⟨v', h1, h2⟩
        · exact ⟨boxed_own _ _ (fun _ : Unit => _) () X Y row c0 hg hrow, boxed_own _ _ (fun _ : Unit => _) () X Y row c1 hg hrow⟩
      case hIx =>
        intro c pre X Y row h hg hrow
        exact h.elim
      case h0 => exact ⟨⟨⟨_, b0, World.ownsRow_nil _ _ _ _⟩, HM0.out.bs, HM0.out.bp⟩, HM0.out.ext, by omega⟩
      case assign =>
        intro l x W K hK
        gi_wp2
        exact hK
      case body =>
        rintro l pre x W ⟨⟨⟨v, hv, hrow⟩, c0, c1⟩, hE, hlt⟩ hpx
        have hxm : B x ∈ metP s p f := (setS_has _ _).1 (hpx.2 x (by simp))
        have hxn : nameB (B x) = true := by
          obtain ⟨i, l', y, _, _, _, hy⟩ := mem_metP.1 hxm
          obtain ⟨ys, hys, _⟩ := inP_iff.1 hy
          exact List.all_eq_true.1 (names_some hys).1 _ (by simp)
        have hxs := nameB_size hxn
        have hpl : (pre ++ [x]).length ≤ 576 := Nat.le_trans (nodup_len hpx.1 fun y hy => (setS_has _ _).1 (hpx.2 y hy)) Hl2.out
        rw [List.length_append, List.length_singleton] at hpl
        have hsl := shownL_len s p pre
        have Hsn := Lib.hid (shownL_snoc s p pre x)
        obtain ⟨A', cp, rfl⟩ := own_form hrow
        obtain ⟨q, hq⟩ : ∃ q, childP p (B x) = q := ⟨_, rfl⟩
        have hqs : q.size ≤ 140737488355328 := by
          rw [← hq, childP]
          have hz : (B x).data.toList.length = (B x).size := Array.length_toList
          have hz2 : p.data.toList.length = p.size := Array.length_toList
          split <;> rw [size_B] <;> simp only [List.length_append, List.length_cons] <;> omega
        have HC := fun W => child_any p (B x) W (by omega) (by omega)
        rw [hq] at HC
        have HC2 := fun W => (callsIn_wide (n := 3 - 1 - 1 - 1)).2 (HC W)
        have HS := fun W h => Shows_any (.slice A k c) s q W h hqs
        have HS2 := fun W h => (callsIn_wide (n := 3 - 1 - 1 - 1)).2 (HS W h)
        have Hq := Lib.hid hq
        have c0c := c0.cell
        have c1c := c1.cell
        clear hpx hxm hxn hq HC HS
        rcases hsx : showsE s q with _ | _
        · rw [hsx] at HS2
          have Hsx := Lib.hid hsx
          clear hsx
          gi_wp2
          gi_region_with_o (first | (refine ⟨trivial, ?_⟩; gi_at_call 130; refine (CallsIn.inRound l (HC2 _)).mono ?_; rintro e W1 ⟨rfl, hE1'⟩; have hE1 : Ext W W1 := Ext.trans (by exact (by repeat (first | exact Ext.refl _ | assumption | refine Ext.alloc ?_ _ | refine Ext.drew ?_ | refine Ext.drewN ?_ _ | refine Ext.setCell ?_ (by first | omega | (simp; done) | (simp; omega)) _ | refine Ext.trans ?_ (by assumption)))) hE1'; have d0 := (boxed_ext c0 hE1).cell) | (refine ⟨trivial, ?_⟩; gi_at_call 136; refine (CallsIn.inRound l (HS2 _ (Hv.out.ext (hE.trans hE1)))).mono ?_; rintro e W2 ⟨rfl, hE2⟩))
          all_goals gi_wp2
          all_goals
            have hE2' := hE1.trans hE2
            refine ⟨others_ext hE2', walks_ext hE2', ⟨⟨⟨_, boxed_ext hv hE2', ?_⟩, boxed_ext c0 hE2', boxed_ext c1 hE2'⟩, hE.trans hE2', Nat.le_trans hlt hE2'.size⟩⟩
            rw [Hsn.out, Hq.out, Hsx.out]
            simpa using own_ext hrow hE2'
        · rw [hsx] at HS2
          have Hsx := Lib.hid hsx
          obtain ⟨i0, hi, hz0, hz1, hz2⟩ := info_parts Tryz.info9s
          clear hsx
          gi_wp2
          gi_region_with_o (first | (refine ⟨trivial, ?_⟩; gi_at_call 130; refine (CallsIn.inRound l (HC2 _)).mono ?_; rintro e W1 ⟨rfl, hE1'⟩; have hE1 : Ext W W1 := Ext.trans (by exact (by repeat (first | exact Ext.refl _ | assumption | refine Ext.alloc ?_ _ | refine Ext.drew ?_ | refine Ext.drewN ?_ _ | refine Ext.setCell ?_ (by first | omega | (simp; done) | (simp; omega)) _ | refine Ext.trans ?_ (by assumption)))) hE1'; have d0 := (boxed_ext c0 hE1).cell) | (refine ⟨trivial, ?_⟩; gi_at_call 136; refine (CallsIn.inRound l (HS2 _ (Hv.out.ext (hE.trans hE1)))).mono ?_; rintro e W2 ⟨rfl, hE2⟩))
          all_goals
            have hE2' := hE1.trans hE2
            have hv1 := boxed_ext hv hE2'
            have hvc := hv1.cell
            have hrow1 := own_ext hrow hE2'
            gi_wp2_with (gi_at_builtin; go_must (refine wpListIn_append_own _ rfl _ _ 29 rfl (OB + 1 + 1) 9 i0 (.string ⟨#[]⟩) 1 16 Tryz.underlying29 hi hz0 hz1 hz2 rfl (by decide) _ _ _ rfl (hrow1.alloc _) ⟨W2.heap.size, 0, none⟩ 1 1 [encStr x] rfl rfl (cell_one_new _ _ _) (by simp [Value.oneCell', encStr]) (by simp [maxLen]; omega) (by omega) (by have := hE2'.size; simp; omega) ?_); intro v' w2 hown' hgrow _; obtain ⟨g', cap', rfl⟩ := ownsRow_succ hown'; obtain ⟨hv1', hv2, _, hk2, hb2⟩ := hv1.appended (n₀ := OB) (by decide) (own_lower hrow1 (by omega)) (by have := hE2'.size; omega) (by omega) (own_lower hown' (by omega)) hgrow; have hr2 := hown'.kept (grownBy_setCell' w2 OB (.slice (some ⟨g', 0, none⟩) ((shownL s p pre).length + 1) cap')) (.inr (hv1'.not_row (by decide) hown').symm); have hc1 := hv1'.cell; have hf1 := hv1'.frozen)
          all_goals
            have hB : ∀ {b : Nat} {t : TypeId} {u : Value}, b < OB + 1 + 1 → b ≠ OB → Boxed W b t u → Boxed (w2.setCell ⟨OB, 0, none⟩ (.slice (some ⟨g', 0, none⟩) ((shownL s p pre).length + 1) cap')) b t u := fun h1 h2 hb => by
              refine (?_ : _ = _).trans (boxed_ext hb hE2')
              rw [Below.heap_setCell _ _ _ _ h2, hgrow.block _ (by have := hE2'.size; simp; omega) (fun e => by have := (hrow1.lt _ e.symm).1; omega), Below.heap_alloc _ _ _ (by have := hE2'.size; omega)]
            refine ⟨(others_ext hE2').trans hk2, ((others_ext hE2').trans hk2).walks, ⟨⟨⟨_, hv2, ?_⟩, hB (by omega) (by omega) c0, hB (by omega) (by omega) c1⟩, ?_, ?_⟩⟩
            · rw [Hsn.out, Hq.out, Hsx.out]
              simpa using hr2
            · exact Below.trans (hE.trans hE2') (hb2.mono (by omega))
            · have := Below.size hb2
              have := hE2'.size
              omega
      case done =>
        rintro D xs W hD ⟨hnd, hmem⟩ ⟨⟨⟨v, hv, hrow⟩, c0, c1⟩, hE, hlt⟩ hK
        have hmet : ∀ x, x ∈ xs ↔ B x ∈ metP s p f := fun x => (hmem x).trans (setS_has _ _)
        have hlen3 := nodup_len hnd fun x hx => (hmet x).1 hx
        have hlen4 := shownL_len s p xs
        have hlen5 := Hl2.out
        have HN2 := Lib.hid (names_done hnd hmet)
        have hvc := hv.cell
        obtain ⟨A', cp, rfl⟩ := own_form hrow
        have HS := (callsIn_wide (n := 3 - 1)).2 (sortS_any _ _ _ W hrow (by omega))
        clear hmem hmet hnd
        gi_wp2_with (refine ⟨trivial, ?_⟩; gi_at_call 170; refine HS.mono ?_; rintro e W2 ⟨rfl, hrow2, hgr⟩; have hb2 : ∀ k o, W.heap[k]? = some o → k < OB + 1 + 1 ∨ o.isCells = false → W2.heap[k]? = some o := (fun k o ho hk => ((hgr _ rfl).block k (Array.getElem?_eq_some_iff.1 ho).1 (fun e => (hk.elim (fun h => by have := (hrow.lt k e.symm).1; omega) (fun h => by obtain ⟨cs, tt, fr, hc⟩ := own_cells hrow e.symm; rw [hc] at ho; cases ho; cases h)))).trans ho); have hv2 : Boxed W2 OB 29 (.slice A' (shownL s p xs).length cp) := hb2 _ _ hv (.inl (by omega)); have hv2c := hv2.cell)
        have hKf := hb2 D _ hK (.inr rfl)
        have hEf : Ext w W2 := Below.grown hE (hgr _ rfl) (by have := hE.size; omega) (fun j hj => by have := (hrow.lt j hj).1; have := HN.out; omega)
        refine ⟨by simp, .inl ⟨_, _, rfl, run_takeDeferred hKf, ?_⟩⟩
        refine ⟨.tuple #[.slice A' (shownL s p xs).length cp, .nilIface], by simp [results, Tryz.f129, go_sem], ?_⟩
        have hr3 := ownsRow_putObj hrow2 (.deferred none) hKf rfl
        refine ⟨_, _, rfl, HN2.out, ?_, Below.trans hEf (belowK_b (w := w) (Nat.le_refl _) W2 D _ _ (by omega) hKf rfl rfl)⟩
        have hlm : (((shownL s p xs).mergeSort fun x y => decide (x ≤ y)).map B).length = (shownL s p xs).length := by simp
        refine RdS.of_own (base := OB + 1 + 1) (e := 9) ?_ (by rw [hlm]; omega)
        rw [hlm, List.map_map]
        exact hr3
      case stop => 
        rintro D c pre W hD hpre h
        exact h.elim
/-- list.Names, for every stack and every path of at most 2^46 bytes. -/
theorem Names_any (v : Value) (s : List (List Ent)) (p : ByteArray) (w : World) (hv : RdK w v s) (hp : p.size ≤ 70368744177664) :
    Calls Tryz.prog 129 #[v, .string p] w (NamesAns s p w) := by
  rcases hd : dirE s p with c | f
  · exact (Names_bad v s p c w hv hp hd).mono fun e w' h => by rw [NamesAns, hd]; exact h
  · exact (Names_ok v s p f w hv hp hd).mono fun e w' h => by rw [NamesAns, hd]; exact h
end Go.Proofs.YtneefmgidplbcaaGreatDoor

/-! LUnd -/
namespace Go.Proofs.YtneefmgidplbcaaGreatDoor
open Go Go.RowKit Go.Shelf Go.Proofs Go.Maps

variable {s : List (List Ent)} {xs : List ByteArray}

/-- What a name of a directory leads to. -/
theorem und_name (hst : stackOk s = true) (hv : ValN xs) {f : Nat} {l : List ByteArray} (_hd : dirE s (pathOf xs) = .ok f) (hl : NamesIs s (pathOf xs) f l) {z : ByteArray} (hz : z ∈ l) :
    ∃ e fl, ValN (xs ++ [z]) ∧ childP (pathOf xs) z = pathOf (xs ++ [z]) ∧ lookE s (pathOf (xs ++ [z])) = .ok (e, fl) ∧ showL s (pathOf (xs ++ [z])) = some e ∧ z.size ≤ 8 ∧ (e.kind = 1 ∨ e.kind = 2) ∧ (e.kind = 2 → dirE s (pathOf (xs ++ [z])) = .ok fl) ∧ e.path = pathOf (xs ++ [z]) ∧ e.fits := by
  obtain ⟨h1, h2⟩ := (hl.2 z).1 hz
  have hzn := metP_name h1
  have hc := child_path hv.1 hv.2 z
  rw [hc] at h2
  obtain ⟨⟨e, fl⟩, h3, h4⟩ := shows_path h2
  obtain ⟨ws, _, h5, _, _⟩ := lookE_ok h3
  have h6 : ws = xs ++ [z] := by
    rcases names_child hv.1 (nameOk_no hzn) h5 with h | h
    · subst h
      have e1 := (ValN.of h5).2
      have h7 := childP_size (pathOf xs) z
      rw [hc, ← e1] at h7
      have h8 : (pathOf []).size = 1 := rfl
      rw [nameB, nameOk, Bool.and_eq_true, Bool.and_eq_true, decide_eq_true_eq, Array.length_toList] at hzn
      have h9 : 1 ≤ z.size := hzn.1.1
      omega
    · exact h
  subst h6
  have hv2 := (ValN.of h5).1
  have h7 : showL s (pathOf (xs ++ [z])) = some e := lookE_show h5 (by simp) h3
  obtain ⟨h8, h9, h10, _⟩ := show_path hst h7
  have h11 := entOk_kind h9
  refine ⟨e, fl, hv2, hc, h3, h7, nameB_size hzn, by omega, fun hk => ?_, h8, entOk_fits h9⟩
  rw [dirE, h3]
  exact if_neg (by show ¬ e.kind = 1; omega)

/-- What under answers. -/
def UnderAns (s : List (List Ent)) (xs : List ByteArray) (w : World) (e : Ending) (w' : World) : Prop :=
  ∃ v ys, e = .returned v ∧ AllUnder s xs ys ∧ ys.length ≤ 576 ∧ (∀ x ∈ ys, x.fits) ∧ w'.ownsRow w.heap.size 66 3 v ys.length (flatE ys) ∧ Ext w w'

def UndRel (s : List (List Ent)) (xs : List ByteArray) (l : List ByteArray) (n : Nat) (w : World) (v5 i : Value) (wr : World) : Prop :=
  ∃ (k : Nat) (ys : List Ent), i = .int .i64 k ∧ k ≤ n ∧ Hid (SomeUnder s xs (l.take k) ys) ∧ wr.ownsRow w.heap.size 66 3 v5 ys.length (flatE ys) ∧ Ext w wr

theorem und_next {l : List ByteArray} {n k : Nat} {w W : World} {v5 : Value} {ys : List Ent} (hlt : k < n) (h : Hid (SomeUnder s xs (l.take (k + 1)) ys)) (hrow : W.ownsRow w.heap.size 66 3 v5 ys.length (flatE ys)) (hE : Ext w W) :
    UndRel s xs l n w v5 (.int .i64 ((k : Int) + 1)) W ∧ n - (intOf (.int .i64 ((k : Int) + 1))).toNat < n - (intOf (.int .i64 (k : Int))).toNat :=
  ⟨⟨k + 1, ys, by simp, by omega, h, hrow, hE⟩, by simp [intOf]; omega⟩

theorem flatE_app (a b : List Ent) : flatE (a ++ b) = flatE a ++ flatE b := by simp [flatE]

theorem some_step (hst : stackOk s = true) {l : List ByteArray} (hl : l.Pairwise fun a b => lt a b = true) {k : Nat} (hk : k < l.length) {z : ByteArray} (hz : l[k] = z) (hv : ValN (xs ++ [z])) {ys sub : List Ent} {e : Ent} (h : SomeUnder s xs (l.take k) ys) (he : showL s (pathOf (xs ++ [z])) = some e)
    (hsub : (e.kind = 2 ∧ AllUnder s (xs ++ [z]) sub) ∨ (e.kind ≠ 2 ∧ sub = [])) : SomeUnder s xs (l.take (k + 1)) (ys ++ (e :: sub)) ∧ (ys ++ (e :: sub)).length ≤ 576 := by
  have hn : z ∉ l.take k := fun hm => by
    obtain ⟨j, hj, e2⟩ := List.getElem_of_mem hm
    rw [List.length_take] at hj
    rw [List.getElem_take] at e2
    have := List.pairwise_iff_getElem.1 hl j k (by omega) hk (by omega)
    rw [e2, hz, lt_irrefl] at this
    cases this
  have h1 := some_snoc hst hn hv h he hsub
  rw [← hz, List.take_append_getElem hk] at h1
  exact ⟨h1, (some_len hst h1).1⟩

theorem und_row {w : World} {base : Nat} {v : Value} {ys : List Ent} {m : Nat} {p d : ByteArray} {k : Int} (hm : ys.length = m) (h : w.ownsRow base 66 3 v (m + 1) (flatE ys ++ [.string p, .int .i64 k, .string d])) :
    w.ownsRow base 66 3 v (ys ++ ((⟨p, k, d⟩ : Ent) :: [])).length (flatE (ys ++ ((⟨p, k, d⟩ : Ent) :: []))) := by
  rw [flatE_app, List.length_append, hm]
  exact h
theorem und_row2 {w : World} {base : Nat} {v : Value} {ys sub : List Ent} {m : Nat} {p d : ByteArray} {k : Int} (hm : ys.length = m) (h : w.ownsRow base 66 3 v (m + 1 + sub.length) ((flatE ys ++ [.string p, .int .i64 k, .string d]) ++ flatE sub)) :
    w.ownsRow base 66 3 v (ys ++ ((⟨p, k, d⟩ : Ent) :: sub)).length (flatE (ys ++ ((⟨p, k, d⟩ : Ent) :: sub))) := by
  rw [flatE_app, flatE_cons, List.length_append, hm, List.length_cons, ← List.append_assoc, show m + (sub.length + 1) = m + 1 + sub.length by omega]
  exact h

theorem ents_news {w : World} {base e n : Nat} {g c : Nat} {xs : List Value} (h : w.ownsRow base e 3 (.slice (some ⟨g, 0, none⟩) n c) n xs) : ∀ (j : Nat) u, xs[j]? = some u → w.cell? ((⟨g, 0, none⟩ : Addr).add j) = some u := by
  intro j u hj
  rw [Addr.add_lit, Nat.zero_add, h.cellAt j (by have := (List.getElem?_eq_some_iff.1 hj).1; have := h.1; omega), hj]

/-- A row of entries behind another. -/
theorem append_rows {w : World} {ops : Array Oper} {rest : List Oper} {o : Oper} {a : Act} {Q : Exit → Act → World → Prop} (hgd : o.guard = none) (s x : Operand)
    (ho : o.op = .call { callee := .builtin .append, args := #[s, x], argTypes := #[54, 54] }) (base : Nat) (hbase : base ≤ w.heap.size) (v : Value) (n : Nat) (xs : List Value) (hs : a.eval s = v) (hown : w.ownsRow base 66 3 v n xs)
    (b6 : Nat) (u : Value) (hx : a.eval x = u) (sub : List Ent) (h6 : w.ownsRow b6 66 3 u sub.length (flatE sub)) (hn : n + sub.length ≤ 1000000)
    (h : ∀ v' w', w'.ownsRow base 66 3 v' (n + sub.length) (xs ++ flatE sub) → w.grownBy w' v.ownBlock → wpList Tryz.prog ops Q rest (a.put o.dst v') w') : wpList Tryz.prog ops Q (o :: rest) a w := by
  obtain ⟨i0, hi, hz0, hz1, hz2⟩ := info_parts info_ent
  rcases h6.2 with ⟨rfl, h06⟩ | ⟨g6, cap6, cur6, rfl, _⟩
  · have hs0 : sub = [] := List.eq_nil_of_length_eq_zero h06
    subst hs0
    exact wpList_append_own_none hgd _ _ 54 ho base 66 _ 3 Tryz.underlying54 hi v n xs hs hown hx (h v w (by simpa [flatE] using hown) ⟨rfl, rfl, rfl, Nat.le_refl _, fun _ _ _ => rfl⟩)
  · exact wpList_append_own w hgd _ _ 54 ho base 66 i0 (.agg #[.string ⟨#[]⟩, .int .i64 0, .string ⟨#[]⟩]) 3 40 Tryz.underlying54 hi hz0 hz1 hz2 rfl (by decide) v n xs hs hown ⟨g6, 0, none⟩ sub.length cap6 (flatE sub) hx (ents_length sub) (ents_news h6) (ents_one sub) (by unfold maxLen; omega) (by omega) hbase fun v' w' h2 h3 _ => h v' w' h2 h3

set_option maxHeartbeats 8000000 in
set_option maxRecDepth 20000 in
theorem under_step (hst : stackOk s = true) (hv : ValN xs) {f : Nat} (hd : dirE s (pathOf xs) = .ok f) (v : Value) (w : World) (hr : RdK w v s)
    (ih : ∀ (z : ByteArray) (f' : Nat) (W : World), ValN (xs ++ [z]) → dirE s (pathOf (xs ++ [z])) = .ok f' → RdK W v s → Calls Tryz.prog 87 #[v, .string (pathOf (xs ++ [z]))] W (UnderAns s (xs ++ [z]) W)) :
    Calls Tryz.prog 87 #[v, .string (pathOf xs)] w (UnderAns s xs w) := by
  have hps := pathOf_size hv.1 hv.2
  have HN := fun W h => Names_ok v s (pathOf xs) f W h (by omega) hd
  have HI := Lib.hid ih
  have Hr := Lib.hid hr
  have Hv := Lib.hid hv
  have Hd := Lib.hid hd
  have Hst := Lib.hid hst
  obtain ⟨A, c, rfl, _, _, _⟩ := RdK.form hr rfl
  obtain ⟨i0, hi, hz0, hz1, hz2⟩ := info_parts info_ent
  obtain ⟨p, hp⟩ : ∃ p, pathOf xs = p := ⟨_, rfl⟩
  rw [hp] at HN hps ⊢
  have Hp := Lib.hid hp
  clear hr hv hd ih hst hp
  go_enter Tryz.func87, Tryz.ntmps87
  go_upto_region 4 with (go_at_call 129; refine (HN _ (Hr.out.ext (by exact (by repeat (first | exact Ext.refl _ | assumption | refine Ext.alloc ?_ _ | refine Ext.drew ?_ | refine Ext.drewN ?_ _ | refine Ext.setCell ?_ (by first | omega | (simp; done) | (simp; omega)) _ | refine Ext.trans ?_ (by assumption)))))).mono ?_; rintro e W1 ⟨u, l, rfl, hl, hu, hE1⟩; obtain ⟨n, hn⟩ : ∃ n, n = l.length := ⟨_, rfl⟩; have hlen := Rd.len hu; obtain ⟨A1, c1, rfl, hc1, hc2, Hcell⟩ := rdS_form hu hn; have Hn := Lib.hid hn; have Hl := Lib.hid hl; rw [← hn] at hlen; clear hn hl hu)
  clear HN
  go_loopw [5, 20] (fun v5 i wr => UndRel s xs l n W1 v5 i wr) (fun _ i _ => n - (intOf i).toNat)
  case atStart => exact ⟨0, [], rfl, Nat.zero_le _, Lib.hid (some_nil s xs), World.ownsRow_nil _ _ _ _, Ext.refl _⟩
  case round =>
    obtain ⟨k, ys, rfl, hkn, hsome, hrow, hE⟩ := hrel
    by_cases hlt : k < n
    · have hh : k < l.length := by have := Hn.out; omega
      obtain ⟨b, o, rfl, hcell⟩ := Hcell.out (List.ne_nil_of_length_pos (by omega))
      obtain ⟨z, hz⟩ : ∃ z, l[k]'hh = z := ⟨_, rfl⟩
      obtain ⟨e, fl, hvz, hcz, hlz, hsz, hz8, hkz, hdz, hpe, hfe⟩ := und_name Hst.out Hv.out Hd.out (by rw [Hp.out]; exact Hl.out) (z := z) (by rw [← hz]; exact List.getElem_mem hh)
      rw [Hp.out] at hcz
      have hqs := pathOf_size hvz.1 hvz.2
      have HC := fun W => child_any p z W (by omega) (by omega)
      have HU := HI.out z fl
      have Hkz := Lib.hid hkz
      have Hstep := Lib.hid fun sub => some_step Hst.out Hl.out.1 hh hz hvz hsome.out hsz (sub := sub)
      have Hsub := Lib.hid fun (sub : List Ent) => (some_len Hst.out hsome.out).1
      rw [hcz] at HC
      obtain ⟨q, hq⟩ : ∃ q, pathOf (xs ++ [z]) = q := ⟨_, rfl⟩
      rw [hq] at HC HU hlz hqs hdz hpe
      have hA : ∀ W, RdK W (.slice A s.length c) s → Calls Tryz.prog 40 #[.slice A s.length c, .string q] W (AtOk (e, fl) W) := fun W h => by
        have := LAt_any (.slice A s.length c) s q W h (by omega)
        rw [hlz] at this
        exact this
      have g0 := hE.cell (hcell k hh)
      rw [hz] at g0
      obtain ⟨m, hm⟩ : ∃ m, ys.length = m := ⟨_, rfl⟩
      have hm6 : m ≤ 576 := by rw [← hm]; exact Hsub.out []
      have Hm := Lib.hid hm
      rw [hm] at hrow
      have Hrow := Lib.hid hrow
      have HAt := Lib.hid hA
      have HU2 : Hid (∀ W, e.kind = 2 → RdK W (.slice A s.length c) s → Calls Tryz.prog 87 #[.slice A s.length c, .string q] W (UnderAns s (xs ++ [z]) W)) := Lib.hid fun W hk h => HU W hvz (hdz hk) h
      have Hdz := Lib.hid hdz
      have hElen := fun (sub : List Ent) (h : (ys ++ (e :: sub)).length ≤ 576) => h
      have Hfe := Lib.hid hfe
      obtain ⟨ep, ek, ed⟩ := e
      have hpe : ep = q := hpe
      subst hpe
      obtain ⟨A5, c5, rfl⟩ := own_form hrow
      have Hhe := Lib.hid hE
      clear hz hsome hsz hvz hcz hq hlz hA hcell hrow HU hm hdz hfe hElen hE hkz
      go_upto_region 7 with (first | (go_at_call 130; refine (HC _).mono ?_; rintro e W2 ⟨rfl, hE2⟩) | (go_at_call 40; refine (HAt.out _ (Hr.out.ext (hE1.trans (Hhe.out.trans (Ext.trans (by exact (by repeat (first | exact Ext.refl _ | assumption | refine Ext.alloc ?_ _ | refine Ext.drew ?_ | refine Ext.drewN ?_ _ | refine Ext.setCell ?_ (by first | omega | (simp; done) | (simp; omega)) _ | refine Ext.trans ?_ (by assumption)))) hE2))))).mono ?_; rintro e W3 ⟨rfl, hE3⟩))
      have hX := Blk.new W3 92 #[.string ep, .int .i64 ek, .string ed, .int .i64 fl]
      have hE4 : Ext wr (W3.alloc (.cells #[.string ep, .int .i64 ek, .string ed, .int .i64 fl] 92)) := Ext.alloc (Ext.trans (Ext.trans (by exact (by repeat (first | exact Ext.refl _ | assumption | refine Ext.alloc ?_ _ | refine Ext.drew ?_ | refine Ext.drewN ?_ _ | refine Ext.setCell ?_ (by first | omega | (simp; done) | (simp; omega)) _ | refine Ext.trans ?_ (by assumption)))) hE2) hE3) _
      have hwx : wr.heap.size ≤ W3.heap.size := Ext.size (Ext.trans (Ext.trans (by exact (by repeat (first | exact Ext.refl _ | assumption | refine Ext.alloc ?_ _ | refine Ext.drew ?_ | refine Ext.drewN ?_ _ | refine Ext.setCell ?_ (by first | omega | (simp; done) | (simp; omega)) _ | refine Ext.trans ?_ (by assumption)))) hE2) hE3)
      obtain ⟨xb, hxb⟩ : ∃ xb, W3.heap.size = xb := ⟨_, rfl⟩
      rw [hxb] at hX hwx
      rw [hxb]
      clear hxb
      generalize W3.alloc (.cells #[.string ep, .int .i64 ek, .string ed, .int .i64 fl] 92) = W4 at hX hE4 ⊢
      have Hrow4 := Lib.hid (own_ext Hrow.out hE4)
      have hsz4 : W1.heap.size ≤ W4.heap.size := Nat.le_trans Hhe.out.size hE4.size
      have HX := Lib.hid hX
      obtain ⟨⟨x0, y0⟩, ⟨x1, y1⟩, ⟨x2, y2⟩, ⟨x3, y3⟩⟩ := hX.four
      clear hX HC hE2 hE3 g0
      go_upto_region 8 with (at_builtin; refine wpList_append_own _ rfl _ _ 54 rfl W1.heap.size 66 i0 (.agg #[.string ⟨#[]⟩, .int .i64 0, .string ⟨#[]⟩]) 3 40 Tryz.underlying54 hi hz0 hz1 hz2 rfl (by decide) _ _ _ rfl (Hrow4.out.alloc _) ⟨W4.heap.size, 0, none⟩ 1 1 [.string ep, .int .i64 ek, .string ed] rfl rfl (World.news_of_block (cs := #[.string ep, .int .i64 ek, .string ed]) (t := 66) (fr := (0, 0)) (Blk.new W4 _ _)) (by simp [Value.oneCell']) (by unfold maxLen; omega) (by omega) (by rw [World.size_alloc]; omega) ?_; intro v5 W5 hown5 hgrow5 hnil5)
      have hE5 : Ext W1 W5 := Ext.grown ((Hhe.out.trans hE4).alloc _) hgrow5 (fun j hj => (Hrow4.out.lt j hj).1)
      have hX5 : Blk W5 xb 92 #[.string ep, .int .i64 ek, .string ed, .int .i64 fl] := (hgrow5.block xb (by rw [World.size_alloc]; have := HX.out.lt; omega) (fun e => by have := (Hrow.out.lt xb (by first | exact e | exact e.symm)).2; omega)).trans (HX.out.ext ((Ext.refl W4).alloc _))
      have Hown5 := Lib.hid hown5
      have HE5 := Lib.hid hE5
      clear x0 y0 x1 y1 x2 y2 x3 y3 hgrow5 hnil5 hE4 hsz4
      obtain ⟨⟨x0, y0⟩, ⟨x1, y1⟩, ⟨x2, y2⟩, ⟨x3, y3⟩⟩ := hX5.four
      obtain ⟨A7, c7, rfl⟩ := own_form hown5
      clear hown5
      by_cases hk : ek = 2
      · have hk' : (ek == 2) = true := by simpa using hk
        have Hk := Lib.hid hk
        have HW5 := Lib.hid (hE1.trans hE5)
        have h51 := hE5.size
        have HU6 : Hid (∀ W, RdK W (.slice A s.length c) s → Calls Tryz.prog 87 #[.slice A s.length c, .string ep] W (UnderAns s (xs ++ [z]) W)) := Lib.hid fun W h => HU2.out W hk h
        clear hk
        go_wp2_with (first | (go_at_call 87; refine (HU6.out _ (Hr.out.ext HW5.out)).mono ?_; rintro e W6 ⟨v6, sub, rfl, hall6, hlen6, hfit6, hrow6, hE6⟩; have hst' := Hstep.out sub (.inl ⟨Hk.out, hall6⟩); have Hst' := Lib.hid hst'; have Hown6 := Lib.hid (own_ext Hown5.out hE6); have HE16 := Lib.hid (HE5.out.trans hE6); have Hb6 := Lib.hid (Nat.le_trans h51 hE6.size); have Hl6 := Lib.hid hlen6; have Hr6 := Lib.hid hrow6; clear hst' hall6 hfit6 hlen6 hE6 hrow6 x0 y0 x1 y1 x2 y2 x3 y3 hX5) | (at_builtin; refine append_rows rfl _ _ rfl W1.heap.size Hb6.out _ _ _ rfl Hown6.out W5.heap.size _ rfl sub Hr6.out (by have := Hl6.out; omega) ?_; intro v8 W8 hown8 hgrow8))
        exact und_next hlt (Lib.hid Hst'.out.1) (und_row2 Hm.out hown8) (Ext.grown HE16.out hgrow8 (fun j hj => (Hown6.out.lt j hj).1))
      · have hk' : (ek == 2) = false := by simpa using hk
        have hst' := Hstep.out [] (.inr ⟨hk, rfl⟩)
        have Hst' := Lib.hid hst'
        clear hst'
        go_wp2
        exact und_next hlt (Lib.hid Hst'.out.1) (und_row Hm.out Hown5.out) HE5.out
    · have hkn' : k = n := by omega
      have hall : AllUnder s xs ys := all_of Hst.out Hv.out Hd.out (by rw [Hp.out]; exact Hl.out) (by have := hsome.out; rwa [List.take_of_length_le (by have := Hn.out; omega)] at this)
      have Hall := Lib.hid hall
      have Hlen := Lib.hid (some_len Hst.out hsome.out)
      have Hrow := Lib.hid hrow
      clear hall hsome hrow
      go_wp2
      go_ret
      exact ⟨_, ys, rfl, Hall.out, Hlen.out.1, fun x hx => entOk_fits (Hlen.out.2 x hx), own_lower Hrow.out hE1.size, hE1.trans hE⟩

/-- list.under, at each directory of a stack that is right. -/
theorem under_any (hst : stackOk s = true) (v : Value) : ∀ (n : Nat) (xs : List ByteArray), xs.length + n = 7 → ValN xs → ∀ (f : Nat) (w : World), dirE s (pathOf xs) = .ok f → RdK w v s → Calls Tryz.prog 87 #[v, .string (pathOf xs)] w (UnderAns s xs w)
  | 0, xs, hl, hv, f, w, _, _ => by
    have := hv.2
    omega
  | n + 1, xs, hl, hv, f, w, hd, hr => under_step hst hv hd v w hr fun z f' W hvz hdz hrz => under_any hst v n (xs ++ [z]) (by rw [List.length_append, List.length_singleton]; omega) hvz f' W hdz hrz

/-- .. and at one that isn't. -/
theorem under_bad (hst : stackOk s = false) (v : Value) (w : World) (hr : RdK w v s) : Calls Tryz.prog 87 #[v, .string ⟨#[47]⟩] w fun e w' => e = .returned (.slice none 0 0) ∧ Ext w w' := by
  have hd : dirE s ⟨#[47]⟩ = .error 16 := by rw [dirE, lookE, if_neg (by rw [hst]; simp)]
  have HN := fun W h => Names_bad v s ⟨#[47]⟩ 16 W h (by decide) hd
  have Hr := Lib.hid hr
  obtain ⟨A, c, rfl, _, _, _⟩ := RdK.form hr rfl
  clear hr hd hst
  go_enter Tryz.func87, Tryz.ntmps87
  go_upto_region 4 with (go_at_call 129; refine (HN _ (Hr.out.ext (by exact (by repeat (first | exact Ext.refl _ | assumption | refine Ext.alloc ?_ _ | refine Ext.drew ?_ | refine Ext.drewN ?_ _ | refine Ext.setCell ?_ (by first | omega | (simp; done) | (simp; omega)) _ | refine Ext.trans ?_ (by assumption)))))).mono ?_; rintro e W1 ⟨a, rfl, hEr, hE1⟩)
  go_loopw [5, 20] (fun v5 i wr => v5 = .slice none 0 0 ∧ i = .int .i64 0 ∧ Ext w wr) (fun _ _ _ => 0)
  case atStart => exact ⟨rfl, rfl, hE1⟩
  case round =>
    obtain ⟨rfl, rfl, hE⟩ := hrel
    go_wp2
    go_ret
    exact ⟨rfl, hE⟩

/-- What list.Walk answers. -/
def walkT (s : List (List Ent)) : List Ent := if stackOk s = true then foldT s else []
def WalkAns (s : List (List Ent)) (w : World) (e : Ending) (w' : World) : Prop := ∃ v, e = .returned v ∧ RdE w' v (walkT s) ∧ Ext w w'

instance inhEntU : Inhabited Ent := ⟨⟨⟨#[]⟩, 0, ⟨#[]⟩⟩⟩

theorem walk1_any : CmpPaths 89 := fun x y W => by
  have H := fun w => Tryz.strings_Compare x.path y.path w
  show Calls Tryz.prog 89 #[.agg #[.string x.path, .int .i64 x.kind, .string x.data], .agg #[.string y.path, .int .i64 y.kind, .string y.data]] W _
  go_enter Tryz.func89, Tryz.ntmps89
  go_wp2_with (go_at_call 90; refine (H _).mono ?_; rintro e w' ⟨rfl, rfl⟩)
  go_ret
  exact ⟨rfl, 0, _, by rw [Sort.alloc_eq_grow, Sort.alloc_eq_grow, Sort.grow_grow]; rfl⟩
theorem eg_walk1 : ∀ args w, (callFunc 89 args).run Tryz.prog w = .ok (.enter 89 args) w := enters_of Tryz.func89 (by kernel_rfl) rfl

theorem fold_fits (hst : stackOk s = true) : ∀ x ∈ foldT s, x.fits := fun x hx => entOk_fits ((treeOk_iff.1 (fold_show hst).1).2.2 x hx).1
theorem root_val : ValN [] := ⟨rfl, by simp⟩

set_option maxHeartbeats 4000000 in
/-- list.Walk, for every stack. -/
theorem Walk_any (v : Value) (s : List (List Ent)) (w : World) (hr : RdK w v s) : Calls Tryz.prog 54 #[v] w (WalkAns s w) := by
  rcases hst : stackOk s with _ | _
  · have HU := fun W h => under_bad hst v W h
    have hw : walkT s = [] := by rw [walkT, if_neg (by simp [hst])]
    have Hr := Lib.hid hr
    have Hw := Lib.hid hw
    obtain ⟨A, c, rfl, _, _, _⟩ := RdK.form hr rfl
    clear hr hst hw
    have HS := fun W => sortE_any 89 walk1_any eg_walk1 W.heap.size (.slice none 0 0) [] W (World.ownsRow_nil _ _ _ _) (by simp)
    go_enter Tryz.func54, Tryz.ntmps54
    go_wp2_with (first | (go_at_call 87; refine (HU _ Hr.out).mono ?_; rintro e W1 ⟨rfl, hE1⟩) | (go_at_call 88; refine (HS _).mono ?_; rintro e W2 ⟨rfl, ys, hperm, hsort, hrow, hgr⟩))
    go_ret
    refine ⟨_, rfl, by rw [Hw.out]; exact Rd.nil _ _ _, Ext.grown hE1 (hgr none rfl) (fun j hj => by cases hj)⟩
  · have hd := dir_root hst
    have HU := fun W h => under_any hst v 7 [] rfl root_val 0 W hd h
    have hw : walkT s = foldT s := by rw [walkT, if_pos hst]
    have Hr := Lib.hid hr
    have Hw := Lib.hid hw
    have Hst := Lib.hid hst
    obtain ⟨A, c, rfl, _, _, _⟩ := RdK.form hr rfl
    clear hr hst hw hd
    have HU2 : ∀ W, RdK W (.slice A s.length c) s → Calls Tryz.prog 87 #[.slice A s.length c, .string ⟨#[47]⟩] W (UnderAns s [] W) := HU
    clear HU
    go_enter Tryz.func54, Tryz.ntmps54
    go_wp2_with (first | (go_at_call 87; refine (HU2 _ Hr.out).mono ?_; rintro e W1 ⟨v1, ys, rfl, hall, hlen, hfit, hrow, hE1⟩; have Hrow := Lib.hid hrow; obtain ⟨A1, c1, rfl⟩ := own_form hrow; clear hrow) | (go_at_call 88; refine (sortE_any 89 walk1_any eg_walk1 w.heap.size _ ys _ Hrow.out (by omega)).mono ?_; rintro e W2 ⟨rfl, zs, hperm, hsort, hrow2, hgr⟩))
    have hz : zs = foldT s := walk_fold Hst.out hall hperm hsort
    subst hz
    have Hrow2 := Lib.hid hrow2
    have hl2 : (foldT s).length = ys.length := hperm.length_eq
    have HE2 := Lib.hid (Ext.grown hE1 (hgr _ rfl) (fun j hj => (Hrow.out.lt j hj).1))
    clear hrow2 hgr hperm hsort hall
    go_ret
    exact ⟨_, rfl, by rw [Hw.out, ← hl2]; exact RdE.of_own (by have := Hrow2.out; rw [← hl2] at this; exact this) (by omega) (fold_fits Hst.out), HE2.out⟩
end Go.Proofs.YtneefmgidplbcaaGreatDoor

/-! FoldW -/
namespace Go.Proofs.YtneefmgidplbcaaGreatDoor
open Go Go.RowKit Go.Shelf Go.Proofs

/-- What stays of a tree. -/
def stayT (l : List Ent) (e : Ent) : List Ent := l.filter fun x => !goesB e x

theorem rising_over {t : List Ent} (hr : Rising t) : ∀ l : List Ent, Rising (overT t l) := fun l => by
  induction l generalizing t with
  | nil => exact hr
  | cons e l ih => exact ih (rising_one_ t hr e)

theorem mem_fits {t : List Ent} (h : MemT t) : ∀ x ∈ t, x.fits := fun x hx => entOk_fits (h x hx).1

theorem path_size {e : Ent} (h : entOk e = true) : e.path.size ≤ 55 := by
  obtain ⟨ys, z, _, _, h3, h4, h5, h6⟩ := ent_names h
  rw [h6]
  exact pathOf_size (by rw [List.all_append, h3]; simpa using h4) (by rw [List.length_append, List.length_singleton]; omega)

def RdAns (l : List Ent) (w : World) (e : Ending) (w' : World) : Prop := ∃ v, e = .returned v ∧ RdE w' v l ∧ Ext w w'

end Go.Proofs.YtneefmgidplbcaaGreatDoor

/-! FoldStk -/
namespace Go.Proofs.YtneefmgidplbcaaGreatDoor
open Go Go.RowKit Go.Shelf Go.Proofs

set_option maxHeartbeats 2000000 in
theorem one1_any (cb : Nat) (y x : Ent) (W : World) (hy : y.path.size ≤ 70368744177664) (hx : x.fits) (hq : Blk W cb 66 #[.string y.path, .int .i64 y.kind, .string y.data]) :
    Calls Tryz.prog 138 #[.agg #[.string x.path, .int .i64 x.kind, .string x.data], .pointer (some ⟨cb, 0, none⟩)] W fun e w' => e = .returned (.bool (decide (x.path = y.path) || underB x.path y.path)) ∧ Ext W w' := by
  have HU := fun w => Under_any x.path y.path w hx.1 hy
  obtain ⟨⟨b0, _⟩, ⟨b1, _⟩, ⟨b2, _⟩⟩ := (hq.ext ((Ext.refl W).alloc (.cells #[.string x.path, .int .i64 x.kind, .string x.data] 66))).three
  have hp : (x.path.toList == y.path.toList) = decide (x.path = y.path) := by
    rw [Bool.eq_iff_iff, beq_iff_eq, decide_eq_true_eq]
    exact ⟨fun h => data_inj (by rw [← toList_eq, h, toList_eq]), fun h => by rw [h]⟩
  obtain ⟨d, hd⟩ : ∃ d, decide (x.path = y.path) = d := ⟨_, rfl⟩
  rw [hd] at hp ⊢
  have Hq := Lib.hid hq
  clear hq hd
  rcases d with _ | _
  · go_enter Tryz.func138, Tryz.ntmps138
    go_wp2_with (go_at_call 62; refine (HU _).mono ?_; rintro e w1 ⟨rfl, hE1⟩)
    go_ret
    exact ⟨by first | rfl | simp, by exact (by repeat (first | exact Ext.refl _ | assumption | refine Ext.alloc ?_ _ | refine Ext.drew ?_ | refine Ext.drewN ?_ _ | refine Ext.setCell ?_ (by first | omega | (simp; done) | (simp; omega)) _ | refine Ext.trans ?_ (by assumption)))⟩
  · go_enter Tryz.func138, Tryz.ntmps138
    go_wp2
    go_ret
    exact ⟨by first | rfl | simp, by exact (by repeat (first | exact Ext.refl _ | assumption | refine Ext.alloc ?_ _ | refine Ext.drew ?_ | refine Ext.drewN ?_ _ | refine Ext.setCell ?_ (by first | omega | (simp; done) | (simp; omega)) _ | refine Ext.trans ?_ (by assumption)))⟩

theorem asks_one1 (cb : Nat) (y : Ent) (hy : y.path.size ≤ 70368744177664) : Asks 138 cb (fun x => decide (x.path = y.path) || underB x.path y.path) (fun W => Blk W cb 66 #[.string y.path, .int .i64 y.kind, .string y.data]) where
  enter := enters_of Tryz.func138 (by kernel_rfl) rfl
  call := fun x W hx hq => one1_any cb y x W hy hx hq
  ext := fun W W' h he => h.ext he

set_option maxHeartbeats 2000000 in
theorem one2_any (cb : Nat) (y x : Ent) (W : World) (hq : Blk W cb 66 #[.string y.path, .int .i64 y.kind, .string y.data]) :
    Calls Tryz.prog 139 #[.agg #[.string x.path, .int .i64 x.kind, .string x.data], .pointer (some ⟨cb, 0, none⟩)] W fun e w' => e = .returned (.bool (decide (x.path = y.path) && decide (x.kind = 1))) ∧ Ext W w' := by
  obtain ⟨⟨b0, _⟩, ⟨b1, _⟩, ⟨b2, _⟩⟩ := (hq.ext ((Ext.refl W).alloc (.cells #[.string x.path, .int .i64 x.kind, .string x.data] 66))).three
  have hp : (x.path.toList == y.path.toList) = decide (x.path = y.path) := by
    rw [Bool.eq_iff_iff, beq_iff_eq, decide_eq_true_eq]
    exact ⟨fun h => data_inj (by rw [← toList_eq, h, toList_eq]), fun h => by rw [h]⟩
  have hk : (x.kind == 1) = decide (x.kind = 1) := by
    rw [Bool.eq_iff_iff, beq_iff_eq, decide_eq_true_eq]
  obtain ⟨d, hd⟩ : ∃ d, decide (x.path = y.path) = d := ⟨_, rfl⟩
  obtain ⟨d2, hd2⟩ : ∃ d, decide (x.kind = 1) = d := ⟨_, rfl⟩
  rw [hd] at hp ⊢
  rw [hd2] at hk ⊢
  have Hq := Lib.hid hq
  clear hq hd hd2
  rcases d with _ | _
  · go_enter Tryz.func139, Tryz.ntmps139
    go_wp2
    go_ret
    exact ⟨by first | rfl | simp, by exact (by repeat (first | exact Ext.refl _ | assumption | refine Ext.alloc ?_ _ | refine Ext.drew ?_ | refine Ext.drewN ?_ _ | refine Ext.setCell ?_ (by first | omega | (simp; done) | (simp; omega)) _ | refine Ext.trans ?_ (by assumption)))⟩
  · go_enter Tryz.func139, Tryz.ntmps139
    go_wp2
    go_ret
    exact ⟨by first | rfl | simp, by exact (by repeat (first | exact Ext.refl _ | assumption | refine Ext.alloc ?_ _ | refine Ext.drew ?_ | refine Ext.drewN ?_ _ | refine Ext.setCell ?_ (by first | omega | (simp; done) | (simp; omega)) _ | refine Ext.trans ?_ (by assumption)))⟩

theorem asks_one2 (cb : Nat) (y : Ent) : Asks 139 cb (fun x => decide (x.path = y.path) && decide (x.kind = 1)) (fun W => Blk W cb 66 #[.string y.path, .int .i64 y.kind, .string y.data]) where
  enter := enters_of Tryz.func139 (by kernel_rfl) rfl
  call := fun x W _ hq => one2_any cb y x W hq
  ext := fun W W' h he => h.ext he

theorem goes_dir {e : Ent} (h : e.kind = 2) : (fun x => goesB e x) = fun x => decide (x.path = e.path) && decide (x.kind = 1) := by
  funext x; rw [goesB, if_pos h]
theorem goes_other {e : Ent} (h : e.kind ≠ 2) : (fun x => goesB e x) = fun x => decide (x.path = e.path) || underB x.path e.path := by
  funext x; rw [goesB, if_neg h]

theorem row_other {w : World} {base e size n b i : Nat} {v : Value} {xs : List Value} (h : w.ownsRow base e size v n xs) (hne : v.ownBlock ≠ some b) (u : Value) : (w.setCell ⟨b, i, none⟩ u).ownsRow base e size v n xs := by
  obtain ⟨h1, h2⟩ := h
  refine ⟨h1, h2.elim .inl fun ⟨g, cap, cur, e1, hb, hh, r⟩ => .inr ⟨g, cap, cur, e1, hb, ?_, r⟩⟩
  exact (Below.heap_setCell _ _ _ _ (fun e2 => hne (by subst e1; first | exact congrArg some e2 | exact congrArg some e2.symm))).trans hh

set_option maxHeartbeats 8000000 in
set_option maxRecDepth 20000 in
theorem One_any (base : Nat) (v : Value) (l : List Ent) (y : Ent) (w0 w : World) (hE0 : Ext w0 w) (hb0 : w0.heap.size ≤ base) (hbw : base ≤ w.heap.size) (hrow : w.ownsRow base 66 3 v l.length (flatE l)) (hl : l.length ≤ 100000) (hf : ∀ x ∈ l, x.fits) (hr : Rising l) (hy : y.path.size ≤ 70368744177664) :
    Calls Tryz.prog 97 #[v, .agg #[.string y.path, .int .i64 y.kind, .string y.data]] w (InsAns base w0 (oneT l y)) := by
  have hB := Blk.new w 66 #[.string y.path, .int .i64 y.kind, .string y.data]
  have hEb : Ext w (w.alloc (.cells #[.string y.path, .int .i64 y.kind, .string y.data] 66)) := (Ext.refl w).alloc _
  have hrowb := own_ext hrow hEb
  have hgne : ∀ g, v.ownBlock = some g → g < w.heap.size := fun g e => (hrow.lt g e).2
  have hEw : Ext w0 (w.alloc (.cells #[.string y.path, .int .i64 y.kind, .string y.data] 66)) := hE0.trans hEb
  have hQs : ∀ (W : World) (gb j : Nat) (u : Value), v.ownBlock = some gb → Blk W w.heap.size 66 #[.string y.path, .int .i64 y.kind, .string y.data] → Blk (W.setCell ⟨gb, j, none⟩ u) w.heap.size 66 #[.string y.path, .int .i64 y.kind, .string y.data] := fun W gb j u hgb h => by
    have h1 := hgne gb hgb
    exact (Below.heap_setCell _ _ _ _ (fun e => absurd (show gb = w.heap.size from by first | exact e | exact e.symm) (by omega))).trans h
  have hst : (l.filter fun x => !goesB y x) = stayT l y := rfl
  have HD1 : y.kind ≠ 2 → Calls Tryz.prog 112 #[v, .func (.func 138) #[] #[.pointer (some ⟨w.heap.size, 0, none⟩)]] (w.alloc (.cells #[.string y.path, .int .i64 y.kind, .string y.data] 66)) (DelAnsF (fun x => goesB y x) (fun W => Blk W w.heap.size 66 #[.string y.path, .int .i64 y.kind, .string y.data]) l base w0 v) := fun hk => by
    rw [goes_other hk]
    exact DelF_any (asks_one1 w.heap.size y hy) base v hQs l w0 _ hEw hb0 hrowb (by omega) hf hB
  have HD2 : y.kind = 2 → Calls Tryz.prog 112 #[v, .func (.func 139) #[] #[.pointer (some ⟨w.heap.size, 0, none⟩)]] (w.alloc (.cells #[.string y.path, .int .i64 y.kind, .string y.data] 66)) (DelAnsF (fun x => goesB y x) (fun W => Blk W w.heap.size 66 #[.string y.path, .int .i64 y.kind, .string y.data]) l base w0 v) := fun hk => by
    rw [goes_dir hk]
    exact DelF_any (asks_one2 w.heap.size y) base v hQs l w0 _ hEw hb0 hrowb (by omega) hf hB
  have hsl : (stayT l y).length ≤ 100000 := Nat.le_trans (List.length_filter_le _ _) hl
  have hsf : ∀ x ∈ stayT l y, x.fits := fun x hx => hf x (List.mem_filter.1 hx).1
  have hsr : Rising (stayT l y) := List.Pairwise.filter _ hr
  have hput : ∀ (z : Ent) (W : World) (v2 : Value), Ext w0 W → base ≤ W.heap.size → W.ownsRow base 66 3 v2 (stayT l y).length (flatE (stayT l y)) → Calls Tryz.prog 140 #[v2, .agg #[.string z.path, .int .i64 z.kind, .string z.data]] W (InsAns base w0 (insT (stayT l y) z)) := fun z W v2 h1 h2 h3 => Put_any base v2 (stayT l y) z w0 W h1 hb0 h2 h3 (by omega) hsf hsr
  have hone : oneT l y = if y.kind = 3 then stayT l y else insT (stayT l y) (if y.kind = 4 then ⟨y.path, 2, y.data⟩ else y) := rfl
  obtain ⟨⟨z0, f0⟩, ⟨z1, f1⟩, ⟨z2, f2⟩⟩ := hB.three
  have hvf : ∃ A c, v = .slice A l.length c := own_form hrow
  obtain ⟨A, c, rfl⟩ := hvf
  have Hput := Lib.hid hput
  have Hb := Lib.hid hbw
  have Hsl := Lib.hid hst
  have Hgne := Lib.hid hgne
  obtain ⟨eb, heb⟩ : ∃ eb, w.heap.size = eb := ⟨_, rfl⟩
  have hbe : base ≤ eb := by omega
  rw [heb] at HD1 HD2 z0 z1 z2 f0 f1 f2
  obtain ⟨W1, hW1⟩ : ∃ W1, w.alloc (.cells #[.string y.path, .int .i64 y.kind, .string y.data] 66) = W1 := ⟨_, rfl⟩
  rw [hW1] at HD1 HD2
  rw [hW1] at z0 z1 z2 f0 f1 f2
  clear hB hEb hrowb hgne hEw hQs hst hput hsf hsr hrow hf hr
  by_cases hk2 : y.kind = 2
  · have hkk : (y.kind == 2) = true := by simpa using hk2
    have hk3 : (y.kind == 3) = false := by rw [hk2]; rfl
    have hk4 : (y.kind == 4) = false := by rw [hk2]; rfl
    have HD := HD2 hk2
    rw [if_neg (by omega), if_neg (by omega)] at hone
    have Hone := Lib.hid hone
    clear hk2 HD1 HD2 hone
    go_enter Tryz.func97, Tryz.ntmps97
    go_upto_region 4 with (fail)
    try rw [heb]
    try rw [hW1]
    go_wp2_with (first | (go_at_call 112; refine HD.mono ?_; rintro e W2 ⟨v2, rfl, hrow2, hE2, hB2, hob⟩; obtain ⟨⟨b0, _⟩, ⟨b1, _⟩, ⟨b2, _⟩⟩ := hB2.three; have hW2 := hB2.lt) | (go_at_call 140; refine (Hput.out y _ _ hE2 (by omega) hrow2).mono ?_; rintro e W3 ⟨v3, rfl, hrow3, hE3⟩))
    go_ret
    rw [Hone.out]
    exact ⟨_, rfl, hrow3, hE3⟩
  · have hkk : (y.kind == 2) = false := by simpa using hk2
    have HD := HD1 hk2
    by_cases hk3 : y.kind = 3
    · have hk3' : (y.kind == 3) = true := by simpa using hk3
      rw [if_pos hk3] at hone
      have Hone := Lib.hid hone
      clear hk2 hk3 HD1 HD2 hone
      go_enter Tryz.func97, Tryz.ntmps97
      go_upto_region 4 with (fail)
      try rw [heb]
      try rw [hW1]
      go_wp2_with (go_at_call 112; refine HD.mono ?_; rintro e W2 ⟨v2, rfl, hrow2, hE2, hB2, hob⟩; obtain ⟨⟨b0, c0⟩, ⟨b1, c1⟩, ⟨b2, c2⟩⟩ := hB2.three; have hW2 := hB2.lt)
      go_ret
      rw [Hone.out]
      exact ⟨_, rfl, hrow2, hE2⟩
    · have hk3' : (y.kind == 3) = false := by simpa using hk3
      rw [if_neg hk3] at hone
      by_cases hk4 : y.kind = 4
      · have hk4' : (y.kind == 4) = true := by simpa using hk4
        rw [if_pos hk4] at hone
        have Hone := Lib.hid hone
        have Hp4 : Hid (∀ (W : World) (v2 : Value), Ext w0 W → base ≤ W.heap.size → W.ownsRow base 66 3 v2 (stayT l y).length (flatE (stayT l y)) → Calls Tryz.prog 140 #[v2, .agg #[.string y.path, .int .i64 2, .string y.data]] W (InsAns base w0 (insT (stayT l y) ⟨y.path, 2, y.data⟩))) := Lib.hid fun W v2 => Hput.out ⟨y.path, 2, y.data⟩ W v2
        clear hk2 hk3 hk4 HD1 HD2 hone
        go_enter Tryz.func97, Tryz.ntmps97
        go_upto_region 4 with (fail)
        try rw [heb]
        try rw [hW1]
        go_wp2_with (first | (go_at_call 112; refine HD.mono ?_; rintro e W2 ⟨v2, rfl, hrow2, hE2, hB2, hob⟩; obtain ⟨⟨b0, c0⟩, ⟨b1, c1⟩, ⟨b2, c2⟩⟩ := hB2.three; have hW2 := hB2.lt) | (go_at_call 140; refine (Hp4.out _ _ (hE2.setCell (p := ⟨eb, 1, none⟩) (by show w0.heap.size ≤ eb; omega) _) (by rw [World.size_setCell]; omega) (row_other hrow2 (fun e => by rw [hob] at e; have := Hgne.out eb e; omega) _)).mono ?_; rintro e W3 ⟨v3, rfl, hrow3, hE3⟩))
        go_ret
        rw [Hone.out]
        exact ⟨_, rfl, hrow3, hE3⟩
      · have hk4' : (y.kind == 4) = false := by simpa using hk4
        rw [if_neg hk4] at hone
        have Hone := Lib.hid hone
        clear hk2 hk3 hk4 HD1 HD2 hone
        go_enter Tryz.func97, Tryz.ntmps97
        go_upto_region 4 with (fail)
        try rw [heb]
        try rw [hW1]
        go_wp2_with (first | (go_at_call 112; refine HD.mono ?_; rintro e W2 ⟨v2, rfl, hrow2, hE2, hB2, hob⟩; obtain ⟨⟨b0, c0⟩, ⟨b1, c1⟩, ⟨b2, c2⟩⟩ := hB2.three; have hW2 := hB2.lt) | (go_at_call 140; refine (Hput.out y _ _ hE2 (by omega) hrow2).mono ?_; rintro e W3 ⟨v3, rfl, hrow3, hE3⟩))
        go_ret
        rw [Hone.out]
        exact ⟨_, rfl, hrow3, hE3⟩

/-! ### fold.Over, fold.Stack -/

def OverRel (t l : List Ent) (n : Nat) (w : World) (v5 i : Value) (wr : World) : Prop :=
  ∃ k : Nat, i = .int .i64 k ∧ k ≤ n ∧ wr.ownsRow w.heap.size 66 3 v5 (overT t (l.take k)).length (flatE (overT t (l.take k))) ∧ Ext w wr

theorem over_next {t l : List Ent} {n k : Nat} {w W : World} {v5 : Value} (hlt : k < n) (hrow : W.ownsRow w.heap.size 66 3 v5 (overT t (l.take (k + 1))).length (flatE (overT t (l.take (k + 1))))) (hE : Ext w W) :
    OverRel t l n w v5 (.int .i64 ((k : Int) + 1)) W ∧ n - (intOf (.int .i64 ((k : Int) + 1))).toNat < n - (intOf (.int .i64 (k : Int))).toNat :=
  ⟨⟨k + 1, by simp, by omega, hrow, hE⟩, by simp [intOf]; omega⟩

set_option maxHeartbeats 8000000 in
set_option maxRecDepth 20000 in
theorem Over_any13 (v u : Value) (t l : List Ent) (w : World) (hv : RdE w v t) (hu : RdE w u l) (ht : treeOk t = true) (hl : layerOk l = true) (hlen : t.length + l.length ≤ 1024) :
    Calls Tryz.prog 63 #[v, u] w (RdAns (overT t l) w) := by
  obtain ⟨_, hr, hall⟩ := treeOk_iff.1 ht
  obtain ⟨_, _, hlall⟩ := layerOk_iff.1 hl
  have hfin := over_tree ht hl hlen
  have hmem : ∀ k, MemT (overT t (l.take k)) := fun k => mem_over (fun e he => (hlall e (List.mem_of_mem_take he)).1) fun x hx => ⟨(hall x hx).1, (hall x hx).2.1⟩
  have hln : ∀ k, (overT t (l.take k)).length ≤ 1024 := fun k => by
    have h1 := over_len t (l.take k)
    rw [List.length_take] at h1
    omega
  have HT := fun W h => Tree_any v t W h
  rw [ht] at HT
  have HR := fun W h => LRight_any u l W h
  rw [hl] at HR
  have HC := fun W h => CloneE_any v t W h (by omega)
  have HF := fun W v' h => Tree_any v' (overT t l) W h
  rw [hfin] at HF
  have hoF := fun (W : World) (base : Nat) (v' : Value) (h : W.ownsRow base 66 3 v' (overT t l).length (flatE (overT t l))) => RdE.of_own h (by have := hln l.length; rw [List.take_length] at this; omega) (by have := mem_fits (hmem l.length); rwa [List.take_length] at this)
  have Hv := Lib.hid hv
  have Hu := Lib.hid hu
  obtain ⟨n, hn⟩ : ∃ n, n = l.length := ⟨_, rfl⟩
  have Hn := Lib.hid hn
  have hlu := Rd.len hu
  obtain ⟨A, c, rfl, _, _, _⟩ := rdE_form hv rfl
  obtain ⟨A2, c2, rfl, hd1, hd2, Hcell⟩ := rdE_form hu hn
  rw [← hn] at hlu
  have Hmem := Lib.hid hmem
  have Hln := Lib.hid hln
  have Hlall := Lib.hid hlall
  have Hro := Lib.hid fun k => rising_over hr (l.take k)
  have HFh := Lib.hid HF
  have HoF := Lib.hid hoF
  clear hv hu ht hl hr hall hlall hfin hmem hln hlen hn HF hoF
  go_enter Tryz.func63, Tryz.ntmps63
  go_upto_region 5 with (first | (go_at_call 25; ((with_reducible refine (HT _ ?ht).mono ?_)); (case ht => exact Hv.out.ext (by exact (by repeat (first | exact Ext.refl _ | assumption | refine Ext.alloc ?_ _ | refine Ext.drew ?_ | refine Ext.drewN ?_ _ | refine Ext.setCell ?_ (by first | omega | (simp; done) | (simp; omega)) _ | refine Ext.trans ?_ (by assumption))))); rintro e w1 ⟨rfl, hE1⟩) | (go_at_call 26; refine (HR _ (Hu.out.ext (by exact (by repeat (first | exact Ext.refl _ | assumption | refine Ext.alloc ?_ _ | refine Ext.drew ?_ | refine Ext.drewN ?_ _ | refine Ext.setCell ?_ (by first | omega | (simp; done) | (simp; omega)) _ | refine Ext.trans ?_ (by assumption)))))).mono ?_; rintro e w2 ⟨rfl, hE2⟩) | (go_at_call 55; refine (HC _ (Hv.out.ext (by exact (by repeat (first | exact Ext.refl _ | assumption | refine Ext.alloc ?_ _ | refine Ext.drew ?_ | refine Ext.drewN ?_ _ | refine Ext.setCell ?_ (by first | omega | (simp; done) | (simp; omega)) _ | refine Ext.trans ?_ (by assumption)))))).mono ?_; rintro e w3 ⟨v3, rfl, hrow3, hE3⟩))
  have hE : Ext w w2 := by exact (by repeat (first | exact Ext.refl _ | assumption | refine Ext.alloc ?_ _ | refine Ext.drew ?_ | refine Ext.drewN ?_ _ | refine Ext.setCell ?_ (by first | omega | (simp; done) | (simp; omega)) _ | refine Ext.trans ?_ (by assumption)))
  go_loopw [5, 20] (fun v5 i wr => OverRel t l n w2 v5 i wr) (fun _ i _ => n - (intOf i).toNat)
  case atStart => exact ⟨0, rfl, Nat.zero_le _, by simpa [overT] using hrow3, hE3⟩
  case round =>
    obtain ⟨k, rfl, hkn, hrow, hEr⟩ := hrel
    by_cases hlt : k < n
    · have hh : k < l.length := by have := Hn.out; omega
      obtain ⟨b, o, rfl, hcell⟩ := Hcell.out (List.ne_nil_of_length_pos (by omega))
      obtain ⟨q0, q1, q2, hf⟩ := hcell k hh
      obtain ⟨x, hx⟩ : ∃ x, l[k]'hh = x := ⟨_, rfl⟩
      rw [hx] at q0 q1 q2
      have g0 := (hE.trans hEr).cell q0
      have g1 := (hE.trans hEr).cell q1
      have g2 := (hE.trans hEr).cell q2
      have hox := path_size (Hlall.out x (by rw [← hx]; exact List.getElem_mem hh)).1
      have hstep := overT_take t hh
      rw [hx] at hstep
      have HO := fun (W : World) (h1 : Ext w2 W) (h2 : W.ownsRow w2.heap.size 66 3 u5 (overT t (l.take k)).length (flatE (overT t (l.take k)))) => One_any w2.heap.size u5 (overT t (l.take k)) x w2 W h1 (Nat.le_refl _) h1.size h2 (by have := Hln.out k; omega) (mem_fits (Hmem.out k)) (Hro.out k) (by omega)
      rw [← hstep] at HO
      have HOh := Lib.hid HO
      have Hrow := Lib.hid hrow
      obtain ⟨A5, c5, rfl⟩ := own_form hrow
      clear q0 q1 q2 hx hcell hstep HO hrow hox hf
      go_wp2_with (go_at_call 97; refine (HOh.out _ (hEr.trans (by exact (by repeat (first | exact Ext.refl _ | assumption | refine Ext.alloc ?_ _ | refine Ext.drew ?_ | refine Ext.drewN ?_ _ | refine Ext.setCell ?_ (by first | omega | (simp; done) | (simp; omega)) _ | refine Ext.trans ?_ (by assumption))))) (own_ext Hrow.out (by exact (by repeat (first | exact Ext.refl _ | assumption | refine Ext.alloc ?_ _ | refine Ext.drew ?_ | refine Ext.drewN ?_ _ | refine Ext.setCell ?_ (by first | omega | (simp; done) | (simp; omega)) _ | refine Ext.trans ?_ (by assumption)))))).mono ?_; rintro e W4 ⟨v4, rfl, hrow4, hE4⟩)
      exact over_next hlt hrow4 hE4
    · have hkn' : k = n := by omega
      have hrow' : wr.ownsRow w2.heap.size 66 3 u5 (overT t l).length (flatE (overT t l)) := by
        rw [List.take_of_length_le (by have := Hn.out; omega)] at hrow
        exact hrow
      have hrd := HoF.out _ _ _ hrow'
      have Hrd := Lib.hid hrd
      obtain ⟨A5, c5, rfl⟩ := own_form hrow'
      clear hrow hrow' hrd
      go_wp2_with (go_at_call 25; refine (HFh.out _ _ Hrd.out).mono ?_; rintro e W6 ⟨rfl, hE6⟩)
      go_ret
      exact ⟨_, rfl, Hrd.out.ext hE6, hE.trans (hEr.trans hE6)⟩

def StkRel (s : List (List Ent)) (n : Nat) (w : World) (v3 i : Value) (wr : World) : Prop :=
  ∃ k : Nat, i = .int .i64 k ∧ k ≤ n ∧ Hid (∀ l ∈ s.take k, layerOk l = true) ∧ Hid (RdE wr v3 (foldT (s.take k))) ∧ Ext w wr

theorem stk_next {s : List (List Ent)} {n k : Nat} {w W : World} {v3 : Value} (hlt : k < n) (hh : k < s.length) (hall : Hid (∀ l ∈ s.take k, layerOk l = true)) (hl : layerOk s[k] = true) (hr : RdE W v3 (foldT (s.take (k + 1)))) (hE : Ext w W) :
    StkRel s n w v3 (.int .i64 ((k : Int) + 1)) W ∧ n - (intOf (.int .i64 ((k : Int) + 1))).toNat < n - (intOf (.int .i64 (k : Int))).toNat := by
  refine ⟨⟨k + 1, by simp, by omega, Lib.hid fun l hl2 => ?_, Lib.hid hr, hE⟩, by simp [intOf]; omega⟩
  rw [← List.take_append_getElem hh] at hl2
  rcases List.mem_append.1 hl2 with h | h
  · exact hall.out l h
  · rw [List.mem_singleton] at h
    rw [h]
    exact hl

theorem walk_bad {s : List (List Ent)} {k : Nat} (hh : k < s.length) (h : layerOk s[k] = false) : walkT s = [] := by
  rw [walkT, if_neg]
  intro h2
  rw [(stackOk_layers h2).2 _ (List.getElem_mem hh)] at h
  cases h

set_option maxHeartbeats 4000000 in
set_option maxRecDepth 20000 in
/-- fold.Stack, for every stack. -/
theorem FStack_any (v : Value) (s : List (List Ent)) (w : World) (hv : RdK w v s) : Calls Tryz.prog 30 #[v] w (RdAns (walkT s) w) := by
  obtain ⟨n, hn⟩ : ∃ n, n = s.length := ⟨_, rfl⟩
  have Hn := Lib.hid hn
  have hlen := Rd.len hv
  obtain ⟨A, c, rfl, hc1, hc2, Hcell⟩ := RdK.form hv hn
  rw [← hn] at hlen
  clear hn hv
  by_cases h9 : n ≤ 9
  · have h9' : ¬ (9 : Int) < (n : Int) := by omega
    go_enter Tryz.func30, Tryz.ntmps30
    go_wp2
    go_loopw [3, 11] (fun v3 i wr => StkRel s n w v3 i wr) (fun _ i _ => n - (intOf i).toNat)
    case atStart => exact ⟨0, rfl, Nat.zero_le _, Lib.hid (fun l hl => by simp at hl), Lib.hid (Rd.nil _ _ _), Ext.refl _⟩
    case round =>
      obtain ⟨k, rfl, hkn, hall, hrd, hE⟩ := hrel
      by_cases hlt : k < n
      · have hh : k < s.length := by have := Hn.out; omega
        obtain ⟨b, o, rfl, hcell⟩ := Hcell.out (List.ne_nil_of_length_pos (by omega))
        obtain ⟨u, q0, hu⟩ := hcell k hh
        have g0 := hE.cell q0
        have hu' := hu.ext hE
        have HR := fun W h => LRight_any u (s[k]'hh) W h
        have Hu := Lib.hid hu'
        clear q0 hu hcell hu'
        rcases hl : layerOk s[k] with _ | _
        · have hbad := Lib.hid (walk_bad hh hl)
          rw [hl] at HR
          clear hl
          go_wp2_with (go_at_call 26; refine (HR _ Hu.out).mono ?_; rintro e W2 ⟨rfl, hE2⟩)
          go_ret
          exact ⟨_, rfl, by rw [hbad.out]; exact Rd.nil _ _ _, hE.trans hE2⟩
        · rw [hl] at HR
          have Hl := Lib.hid hl
          have hft : treeOk (foldT (s.take k)) = true ∧ (foldT (s.take k)).length ≤ 64 * k := by
            have hs : ∀ l ∈ s.take (k + 1), layerOk l = true := fun l hl2 => by
              rw [← List.take_append_getElem hh] at hl2
              rcases List.mem_append.1 hl2 with h | h
              · exact hall.out l h
              · rw [List.mem_singleton] at h
                rw [h]
                exact hl
            have h1 := fold_take hs (by rw [List.length_take]; omega) k (by rw [List.length_take]; omega)
            rw [List.take_take, Nat.min_eq_left (by omega)] at h1
            exact ⟨h1.1, h1.2.1⟩
          have h64 := layerOk_len hl
          have HO := fun W h1 h2 => Over_any13 u3 u (foldT (s.take k)) (s[k]'hh) W h1 h2 hft.1 hl (by have := hft.2; omega)
          rw [← foldT_take hh] at HO
          have HOh := Lib.hid HO
          clear hl hft h64 HO
          go_wp2_with (first | (go_at_call 26; refine (HR _ Hu.out).mono ?_; rintro e W2 ⟨rfl, hE2⟩) | (go_at_call 63; refine (HOh.out _ (hrd.out.ext (by exact (by repeat (first | exact Ext.refl _ | assumption | refine Ext.alloc ?_ _ | refine Ext.drew ?_ | refine Ext.drewN ?_ _ | refine Ext.setCell ?_ (by first | omega | (simp; done) | (simp; omega)) _ | refine Ext.trans ?_ (by assumption))))) (Hu.out.ext (by exact (by repeat (first | exact Ext.refl _ | assumption | refine Ext.alloc ?_ _ | refine Ext.drew ?_ | refine Ext.drewN ?_ _ | refine Ext.setCell ?_ (by first | omega | (simp; done) | (simp; omega)) _ | refine Ext.trans ?_ (by assumption)))))).mono ?_; rintro e W3 ⟨v4, rfl, hrd4, hE3⟩))
          exact stk_next hlt hh hall Hl.out hrd4 (by exact (by repeat (first | exact Ext.refl _ | assumption | refine Ext.alloc ?_ _ | refine Ext.drew ?_ | refine Ext.drewN ?_ _ | refine Ext.setCell ?_ (by first | omega | (simp; done) | (simp; omega)) _ | refine Ext.trans ?_ (by assumption))))
      · have hkn' : k = n := by omega
        have hw : walkT s = foldT (s.take k) := by
          rw [walkT, if_pos, List.take_of_length_le (by have := Hn.out; omega)]
          rw [stackOk, Bool.and_eq_true, decide_eq_true_eq, List.all_eq_true]
          refine ⟨by have := Hn.out; omega, fun l hl => ?_⟩
          have := hall.out l
          rw [List.take_of_length_le (by have := Hn.out; omega)] at this
          exact this hl
        have Hw := Lib.hid hw
        clear hw
        go_wp2
        go_ret
        exact ⟨_, rfl, by rw [Hw.out]; exact hrd.out, hE⟩
  · have h9' : (9 : Int) < (n : Int) := by omega
    have hw : walkT s = [] := by
      rw [walkT, if_neg]
      intro h
      have := (stackOk_layers h).1
      have := Hn.out
      omega
    have Hw := Lib.hid hw
    clear hw
    go_enter Tryz.func30, Tryz.ntmps30
    go_wp2
    go_ret
    exact ⟨_, rfl, by rw [Hw.out]; exact Rd.nil _ _ _, Ext.refl _⟩
end Go.Proofs.YtneefmgidplbcaaGreatDoor

/-! SortU -/
namespace Go.Proofs.YtneefmgidplbcaaGreatDoor
open Go Go.RowKit Go.Shelf Go.Proofs Go.Sort

/-- A closure that compares entries by a function. -/
def CmpBy (cmp : Ent → Ent → Int) (g : Nat) : Prop := ∀ (x y : Ent) (W : World), Calls Tryz.prog g #[.agg x.cells.toArray, .agg y.cells.toArray] W fun e w' => e = .returned (.int .i64 (cmp x y)) ∧ ∃ q os', w' = grow (W.drewN q) os'

theorem sortBy_any [Inhabited Ent] (cmp : Ent → Ent → Int) (hlt : ∀ a b, ltOf cmp a b = lt a.path b.path) (g : Nat) (hg : CmpBy cmp g) (eg : ∀ args w, (callFunc g args).run Tryz.prog w = .ok (.enter g args) w) (base : Nat) (v : Value) (xs : List Ent) (w : World) (hrow : w.ownsRow base 66 3 v xs.length (flatE xs)) (hl : xs.length ≤ 1000000) :
    Calls Tryz.prog 88 #[v, .func (.func g) #[] #[]] w (SortAnsE base v xs w) := by
  have hswo : SWO (ltOf cmp) := {
    irrefl := fun x => by rw [hlt, lt_irrefl]
    trans := fun x y z h1 h2 => by rw [hlt] at *; exact lt_trans h1 h2
    ntrans := fun x y z h1 h2 => by
      rw [hlt] at *
      rcases h3 : lt x.path z.path with _ | _
      · rfl
      · rcases h4 : lt y.path x.path with _ | _
        · rw [lt_total h1 h4] at h3
          rw [h3] at h2
          cases h2
        · have := lt_trans h4 h3
          rw [this] at h2
          cases h2 }
  rcases hrow.2 with ⟨rfl, hz⟩ | ⟨gb, cap, cur, rfl, hbase, hgb, r1, r2, r3, r4⟩
  · have hss : xs = [] := List.eq_nil_of_length_eq_zero hz
    subst hss
    have h := AnyF.slices_SortFunc_none Tryz.sortE none 0 (.func (.func g) #[] #[]) w
    change Calls Tryz.prog 88 _ _ _ at h
    refine h.mono ?_
    rintro e w' ⟨rfl, rfl⟩
    refine ⟨rfl, [], List.Perm.refl _, List.Pairwise.nil, hrow, fun row _ => ⟨rfl, rfl, rfl, Nat.le_refl _, fun _ _ _ => rfl⟩⟩
  · have hsz3 : (flatK Ent.cells 3 xs.toArray).size = xs.length * 3 := by simp
    have hH : HoldsK Ent.cells 3 w gb 0 xs.toArray := by
      intro j hj
      rw [hsz3] at hj
      refine ⟨?_, by simp [World.frozen?, hgb]⟩
      have h1 : (cur.toList.take (xs.length * 3))[j]? = (flatE xs)[j]? := by rw [r4]
      rw [List.getElem?_take_of_lt hj] at h1
      simp only [World.cell?, hgb, Nat.zero_add]
      simp only [Option.isSome_none, Bool.false_eq_true, if_false]
      rw [← Array.getElem?_toList, h1, ← flatK_flatE, Array.getElem?_toList, getElem!_pos (flatK Ent.cells 3 xs.toArray) j (by omega), Array.getElem?_eq_getElem]
      rfl
    have hgl : gb < w.heap.size := (Array.getElem?_eq_some_iff.1 hgb).1
    have h := AnyQ.slices_SortFunc Tryz.sortE 3 Tryz.isAgg66 Tryz.sizeOf66 Ent.cells (fun _ => rfl) (fun x v hv => by simp [Ent.cells] at hv; rcases hv with rfl | rfl | rfl <;> rfl) cmp hswo g #[] gb 0 cap xs.toArray w eg (fun m os dk _ x y => by simpa using hg x y _) hH hgl (by simp; omega)
    change Calls Tryz.prog 88 _ _ _ at h
    rw [show xs.toArray.size = xs.length by simp] at h
    refine h.mono ?_
    rintro e w' ⟨rfl, d', nn, os, hp, hs, rfl⟩
    have hds : d'.size = xs.length := by have := hp.1; simpa using this
    have hperm : d'.toList.Perm xs := by
      have := hp.2.2
      rw [Array.extract_eq_self_of_le (by omega), Array.extract_eq_self_of_le (by simp)] at this
      simpa using this
    refine ⟨rfl, d'.toList, hperm, ?_, ⟨by rw [ents_length]; simp [hds], .inr ⟨gb, cap, _, rfl, hbase, heap_sortedK d' hgb, r1, r2, by simp [putCells, r3], ?_⟩⟩, fun row hr => ?_⟩
    · rw [List.pairwise_iff_getElem]
      intro i j hi hj hij
      have := hs i j (Nat.zero_le _) hij (by rw [Array.length_toList] at hj; omega)
      rw [hlt] at this
      rw [Array.length_toList] at hi hj
      rw [getElem!_pos d' j hj, getElem!_pos d' i hi] at this
      simpa using this
    · have h1 := take_putId cur (flatK Ent.cells 3 d') (by rw [size_flatK, hds, r3]; exact Nat.mul_le_mul_right 3 r1)
      rw [size_flatK, hds] at h1
      rw [h1]
      have := flatK_flatE d'.toList
      simpa using this
    · have : row = some gb := by rw [← hr]; rfl
      subst this
      exact grownBy_sortedK _
end Go.Proofs.YtneefmgidplbcaaGreatDoor

/-! EditU -/
namespace Go.Proofs.YtneefmgidplbcaaGreatDoor
open Go Go.RowKit Go.Shelf Go.Proofs Go.Sort

/-- The blocks that an upper layer turns. -/
def Sv (ub : Nat) (v : Value) : Nat → Prop := fun b => b = ub ∨ v.ownBlock = some b
/-- What an upper layer's calls do to what lay there. -/
structure Moved (ub : Nat) (v : Value) (w : World) (v' : Value) (w' : World) : Prop where
  but : But (Sv ub v) w w'
  new : v'.ownBlock = v.ownBlock ∨ ∀ g, v'.ownBlock = some g → w.heap.size ≤ g
theorem Moved.of_ext {ub : Nat} {v : Value} {w w' : World} (he : Ext w w') : Moved ub v w v w' := ⟨.of_ext he, .inl rfl⟩
theorem Moved.trans {ub : Nat} {v v' v'' : Value} {a b c : World} (h : Moved ub v a v' b) (k : Moved ub v' b v'' c) : Moved ub v a v'' c := by
  refine ⟨⟨k.but.os.trans h.but.os, k.but.tape.trans h.but.tape, k.but.output.trans h.but.output, Nat.le_trans h.but.size k.but.size, fun i hi hs => ?_⟩, ?_⟩
  · refine (k.but.block i (Nat.lt_of_lt_of_le hi h.but.size) ?_).trans (h.but.block i hi hs)
    rintro (rfl | e)
    · exact hs (.inl rfl)
    · rcases h.new with e2 | e2
      · exact hs (.inr (by rw [← e2]; exact e))
      · have := e2 i e
        omega
  · rcases k.new with e | e
    · rcases h.new with e2 | e2
      · exact .inl (e.trans e2)
      · exact .inr fun g hg => e2 g (by rw [← e]; exact hg)
    · exact .inr fun g hg => Nat.le_trans h.but.size (e g hg)
theorem Moved.blk {ub : Nat} {v v' : Value} {w w' : World} (h : Moved ub v w v' w') {b : Nat} {t : TypeId} {cs : Array Value} (hb : Blk w b t cs) (h1 : b ≠ ub) (h2 : v.ownBlock ≠ some b) : Blk w' b t cs :=
  hb.but h.but (fun e => e.elim (fun e => h1 e) (fun e => h2 e))

/-- An upper layer in memory, over a slice of lower ones. -/
structure Up (w0 : World) (ub : Nat) (lv v : Value) (l : List Ent) (w : World) : Prop where
  blk : Blk w ub 112 #[lv, v]
  row : w.ownsRow w0.heap.size 66 3 v l.length (flatE l)
  ext : Ext w0 w
  at_ : w0.heap.size ≤ ub
  fits : ∀ x ∈ l, x.fits
theorem Up.step {w0 w w' : World} {ub : Nat} {lv v : Value} {l : List Ent} (h : Up w0 ub lv v l w) (he : Ext w w') : Up w0 ub lv v l w' :=
  ⟨h.blk.ext he, own_ext h.row he, h.ext.trans he, h.at_, h.fits⟩

theorem blk_row {w : World} {b : Nat} {t e : TypeId} {cs : Array Value} {base size n : Nat} {v : Value} {xs : List Value} (h : Blk w b t cs) (hr : w.ownsRow base e size v n xs) (hne : e ≠ t) : v.ownBlock ≠ some b := by
  intro hv
  rcases hr.2 with ⟨rfl, _⟩ | ⟨g, cap, cur, rfl, _, hh, _⟩
  · cases hv
  · have : g = b := Option.some.inj hv
    subst this
    rw [Blk] at h
    rw [h] at hh
    cases hh
    exact hne rfl
theorem Up.ne {w0 w : World} {ub : Nat} {lv v : Value} {l : List Ent} (h : Up w0 ub lv v l w) : v.ownBlock ≠ some ub := blk_row h.blk h.row (by decide)
theorem Up.old {w0 w : World} {ub : Nat} {lv v : Value} {l : List Ent} (h : Up w0 ub lv v l w) {b : Nat} (hb : w.heap.size ≤ b) : b ≠ ub ∧ v.ownBlock ≠ some b := by
  have h1 := h.blk.lt
  refine ⟨by omega, fun e => ?_⟩
  have := (h.row.lt b e).2
  omega
theorem Up.rd {w0 w : World} {ub : Nat} {lv v : Value} {l : List Ent} (h : Up w0 ub lv v l w) (hl : l.length ≤ 100000) : RdE w v l := RdE.of_own h.row (by omega) h.fits

theorem grown_blk {w w' : World} {row : Option Nat} {b : Nat} {t : TypeId} {cs : Array Value} (hg : w.grownBy w' row) (hb : Blk w b t cs) (hne : row ≠ some b) : Blk w' b t cs :=
  (hg.block b hb.lt (fun e => hne (by first | exact e | exact e.symm))).trans hb

/-! ### at -/

theorem upat1_any (cb : Nat) (p : ByteArray) (x : Ent) (W : World) (hq : W.cell? ⟨cb, 0, none⟩ = some (.string p)) :
    Calls Tryz.prog 180 #[.agg #[.string x.path, .int .i64 x.kind, .string x.data], .pointer (some ⟨cb, 0, none⟩)] W fun e w' => e = .returned (.bool (decide (x.path = p))) ∧ Ext W w' := by
  have hq2 := Lib.cell?_alloc_some (.cells #[.string x.path, .int .i64 x.kind, .string x.data] 66) hq
  go_enter Tryz.func180, Tryz.ntmps180
  go_wp2
  go_ret
  exact ⟨congrArg (fun b => Ending.returned (.bool b)) (beq_path x.path p), (by repeat (first | exact Ext.refl _ | assumption | refine Ext.alloc ?_ _ | refine Ext.drew ?_ | refine Ext.drewN ?_ _ | refine Ext.setCell ?_ (by first | omega | (simp; done) | (simp; omega)) _ | refine Ext.trans ?_ (by assumption)))⟩
theorem asks_upat (cb : Nat) (p : ByteArray) : Asks 180 cb (fun x => decide (x.path = p)) (fun W => W.cell? ⟨cb, 0, none⟩ = some (.string p)) where
  enter := enters_of Tryz.func180 (by kernel_rfl) rfl
  call := fun x W _ hq => upat1_any cb p x W hq
  ext := fun W W' h he => he.cell h

set_option maxHeartbeats 2000000 in
theorem uAt_any {w0 w : World} {ub : Nat} {lv v : Value} {l : List Ent} (p : ByteArray) (h : Up w0 ub lv v l w) (hl : l.length ≤ 100000) :
    Calls Tryz.prog 133 #[.pointer (some ⟨ub, 0, none⟩), .string p] w fun e w' => e = .returned (.int .i64 (idxP (fun x => decide (x.path = p)) l)) ∧ Ext w w' := by
  have hE1 : Ext w (w.alloc (.cells #[.string p] 9)) := (Ext.refl w).alloc _
  have h1 := h.step hE1
  have hI := IdxE_any (asks_upat w.heap.size p) v l (w.alloc (.cells #[.string p] 9)) (h1.rd hl) ((Blk.new w 9 #[.string p]).one.1)
  obtain ⟨⟨b0, f0⟩, ⟨b1, f1⟩⟩ := h1.blk.two
  obtain ⟨A, c, rfl⟩ := own_form h.row
  clear h h1
  go_enter Tryz.func133, Tryz.ntmps133
  go_wp2_with (go_at_call 115; refine hI.mono ?_; rintro e W1 ⟨rfl, hE2⟩)
  go_ret
  exact ⟨rfl, hE1.trans hE2⟩

/-! ### sort -/

def cmpU (a b : Ent) : Int := if lt a.path b.path = true then -1 else 1
theorem ltOf_cmpU (a b : Ent) : ltOf cmpU a b = lt a.path b.path := by
  rw [ltOf, cmpU]
  rcases lt a.path b.path with _ | _ <;> rfl

set_option maxHeartbeats 1000000 in
theorem upsort1_any : CmpBy cmpU 214 := fun x y W => by
  show Calls Tryz.prog 214 #[.agg #[.string x.path, .int .i64 x.kind, .string x.data], .agg #[.string y.path, .int .i64 y.kind, .string y.data]] W _
  rcases hlt : lt x.path y.path with _ | _
  · have hc : cmpU x y = 1 := by rw [cmpU, hlt]; rfl
    have hn : Op.bytesLess x.path.toList y.path.toList = false := by rw [bytesLess_lt, hlt]
    rw [hc]
    clear hc hlt
    go_enter Tryz.func214, Tryz.ntmps214
    go_wp2
    go_ret
    exact ⟨rfl, 0, _, by rw [Sort.alloc_eq_grow, Sort.alloc_eq_grow, Sort.grow_grow]; rfl⟩
  · have hc : cmpU x y = -1 := by rw [cmpU, hlt]; rfl
    have hn : Op.bytesLess x.path.toList y.path.toList = true := by rw [bytesLess_lt, hlt]
    rw [hc]
    clear hc hlt
    go_enter Tryz.func214, Tryz.ntmps214
    go_wp2
    go_ret
    exact ⟨rfl, 0, _, by rw [Sort.alloc_eq_grow, Sort.alloc_eq_grow, Sort.grow_grow]; rfl⟩
theorem eg_upsort1 : ∀ args w, (callFunc 214 args).run Tryz.prog w = .ok (.enter 214 args) w := enters_of Tryz.func214 (by kernel_rfl) rfl

/-- Behind a call: another layer. -/
def UpAns (w0 : World) (ub : Nat) (lv v : Value) (l : List Ent) (w : World) (e : Ending) (w' : World) : Prop := e = .returned (.tuple #[]) ∧ ∃ v', Up w0 ub lv v' l w' ∧ Moved ub v w v' w'

set_option maxHeartbeats 2000000 in
theorem uSort_any {w0 w : World} {ub : Nat} {lv v : Value} {xs l : List Ent} (h : Up w0 ub lv v xs w) (hl : xs.length ≤ 100000) (hp : xs.Perm l) (hr : Rising l) :
    Calls Tryz.prog 181 #[.pointer (some ⟨ub, 0, none⟩)] w (UpAns w0 ub lv v l w) := by
  have HS := sortBy_any cmpU ltOf_cmpU 214 upsort1_any eg_upsort1 w0.heap.size v xs w h.row (by omega)
  have H := Lib.hid h
  have Hp := Lib.hid hp
  have Hr := Lib.hid hr
  obtain ⟨⟨b0, f0⟩, ⟨b1, f1⟩⟩ := h.blk.two
  obtain ⟨A, c, rfl⟩ := own_form h.row
  clear h hp hr
  go_enter Tryz.func181, Tryz.ntmps181
  go_wp2_with (go_at_call 88; refine HS.mono ?_; rintro e W1 ⟨rfl, ys, hperm, hsort, hrow, hgr⟩)
  have hgr2 := hgr _ rfl
  have hyl : ys = l := by
    have hpl := hperm.trans Hp.out
    have hz : l.Pairwise fun a b => a.path ≠ b.path := Hr.out.imp fun h => lt_ne h
    exact rising_ext (perm_rising hpl hsort hz) Hr.out fun x => hpl.mem_iff
  subst hyl
  have hlen := hperm.length_eq
  go_end0
  have hub := H.out.ne
  have hbt : But (Sv ub (.slice A xs.length c)) w W1 := (But.refl _ w).grown hgr2 (fun k hk => .inl (.inr hk))
  refine ⟨rfl, _, ⟨grown_blk hgr2 H.out.blk hub, by rw [hlen]; exact hrow, Ext.grown H.out.ext hgr2 (fun k hk => (H.out.row.lt k hk).1), H.out.at_, fun x hx => H.out.fits x (hperm.mem_iff.1 hx)⟩, hbt, .inl rfl⟩
end Go.Proofs.YtneefmgidplbcaaGreatDoor
