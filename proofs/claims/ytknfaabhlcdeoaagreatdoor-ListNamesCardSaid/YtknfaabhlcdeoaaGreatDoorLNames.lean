/- list.Names: the names in a directory of a stack, sorted, each once; for every stack and every path of at most 2^46 bytes. -/
import Derived.Test.YtknfaabhlcdeoaaGreatDoorLDir
import Derived.Test.YtknfaabhlcdeoaaGreatDoorLNW
import Derived.Test.YtknfaabhlcdeoaaGreatDoorKeysP
import Derived.Test.YtknfaabhlcdeoaaGreatDoorSortS
import Derived.Test.YtknfaabhlcdeoaaGreatDoorBlk
import Derived.Maps.OwnSet
import Derived.Maps.OwnIn
import Derived.StringKeys
import Derived.Sort.OwnSorted
namespace Go.Proofs.YtknfaabhlcdeoaaGreatDoor
open Go Go.RowKit Go.Shelf Go.Proofs Go.Maps Go.Sort
attribute [local go_sem] Oper.semAt_some

def NamesOk (s : List (List Ent)) (p : ByteArray) (f : Nat) (w : World) (e : Ending) (w' : World) : Prop := ∃ v l, e = .returned (.tuple #[v, .nilIface]) ∧ NamesIs s p f l ∧ RdS w' v l ∧ Ext w w'
def NamesBad (c : Int) (w : World) (e : Ending) (w' : World) : Prop := ∃ a, e = .returned (.tuple #[.slice none 0 0, .iface 181 (.pointer (some ⟨a, 0, none⟩))]) ∧ ErrN w' 1 (.iface 181 (.pointer (some ⟨a, 0, none⟩))) c ∧ Ext w w'
def NamesAns (s : List (List Ent)) (p : ByteArray) (w : World) (e : Ending) (w' : World) : Prop := match dirE s p with
  | .ok f => NamesOk s p f w e w'
  | .error c => NamesBad c w e w'

theorem ownsMap_ext {H : Type} {w w' : World} {k : TypeId} {R : Value → Option (DataW H × List MemPlace)} {b n : Nat} {D : DataW H} (h : w.ownsMap Tryz.prog k R b n D) (he : Ext w w') : w'.ownsMap Tryz.prog k R b n D := by
  have hlt := World.ownsMap.lt h
  obtain ⟨es, clock, hh, r⟩ := h
  exact ⟨es, clock, (Below.block he b hlt).trans hh, r⟩

theorem walks_ext {W W' : World} (he : Ext W W') : KeepsWalks W W' := ⟨he.size, fun _ _ hk _ => he.block hk⟩

theorem own_cells {w : World} {base e size n k : Nat} {v : Value} {xs : List Value} (h : w.ownsRow base e size v n xs) (hk : v.ownBlock = some k) : ∃ cs t fr, w.heap[k]? = some (.cells cs t fr) := by
  rcases h.2 with ⟨rfl, _⟩ | ⟨g, cap, cur, rfl, _, hh, _⟩
  · cases hk
  · cases hk
    exact ⟨_, _, _, hh⟩

theorem law_strS : Keyed Tryz.prog 9 := string_keyed Tryz.underlying9
theorem keySS (s : ByteArray) (h : s.size ≤ maxLen) : keyOf Tryz.prog 9 (.string s) = some (.string s.data.toList) := WideMaps.keyOf_string_mk Tryz.underlying9 h

set_option maxRecDepth 100000 in
set_option maxHeartbeats 2000000 in
theorem Names_bad (v : Value) (s : List (List Ent)) (p : ByteArray) (c : Int) (w : World) (hv : RdK w v s) (hp : p.size ≤ 70368744177664) (hd : dirE s p = .error c) :
    Calls Tryz.prog 18 #[v, .string p] w (NamesBad c w) := by
  have HD := fun w' h => Dir_any v s p w' h (by omega)
  rw [hd] at HD
  have HD : ∀ w', RdK w' v s → Calls Tryz.prog 55 #[v, .string p] w' (DirBad c w') := HD
  have HD2 := fun (W : World) h => (callsIn_wide (n := 3 - 1)).2 (HD W h)
  have Hv := Lib.hid hv
  obtain ⟨A, c', rfl, _, _, _⟩ := RdK.form hv rfl
  clear hv hd HD
  refine (callsIn_wide (n := 3)).1 ?_
  refine callsIn_of_wp_marks Tryz.func18 rfl trivial ?_ rfl
  simp only [Tryz.ntmps18, List.size_toArray, List.length_cons, List.length_nil, Nat.reduceAdd, Nat.reduceSub, Array.replicate_succ, Array.replicate_zero, List.push_toArray, List.append_toArray, List.nil_append, List.cons_append]
  gi_wp2_with (refine ⟨trivial, ?_⟩; gi_at_call 55; refine (HD2 _ (Hv.out.ext (by exact (by repeat (first | exact Ext.refl _ | assumption | refine Ext.alloc ?_ _ | refine Ext.drew ?_ | refine Ext.drewN ?_ _ | refine Ext.setCell ?_ (by first | omega | (simp; done) | (simp; omega)) _ | refine Ext.trans ?_ (by assumption)))))).mono ?_; rintro e w' ⟨a, rfl, hEr, hE⟩)
  refine ⟨.tuple #[.slice none 0 0, .iface 181 (.pointer (some ⟨a, 0, none⟩))], by simp [results, Tryz.f18, go_sem], ?_⟩
  exact ⟨_, rfl, hEr, Ext.trans (by exact (by repeat (first | exact Ext.refl _ | assumption | refine Ext.alloc ?_ _ | refine Ext.drew ?_ | refine Ext.drewN ?_ _ | refine Ext.setCell ?_ (by first | omega | (simp; done) | (simp; omega)) _ | refine Ext.trans ?_ (by assumption)))) hE⟩

/-- What lies in memory while the names are gathered. -/
structure NM (w wr : World) (N mb : Nat) (v : Value) (p : ByteArray) (acc : List ByteArray) : Prop where
  bs : Boxed wr N 22 v
  bp : Boxed wr (N + 1) 9 (.string p)
  own : wr.ownsMap Tryz.prog 9 RH mb acc.length (setS acc)
  ext : Ext w wr

theorem NM.grow {w wr w' : World} {N mb : Nat} {v : Value} {p : ByteArray} {acc : List ByteArray} (h : NM w wr N mb v p acc) (he : Ext wr w') : NM w w' N mb v p acc :=
  ⟨boxed_ext h.bs he, boxed_ext h.bp he, ownsMap_ext h.own he, h.ext.trans he⟩

theorem NM.put {w wr w' : World} {N mb : Nat} {v : Value} {p z : ByteArray} {acc : List ByteArray} (h : NM w wr N mb v p acc) (hm : w.heap.size ≤ mb) (hN : N + 1 < mb) (ho : w'.ownsMap Tryz.prog 9 RH mb (acc.length + 1) ((setS acc).put (keyL z) uT)) (ht : wr.mapTurned w' mb) : NM w w' N mb v p (acc ++ [z]) := by
  have hk : ∀ b, b < mb → w'.heap[b]? = wr.heap[b]? := fun b hb => ht.grown.block b (Nat.lt_trans hb h.own.lt) (fun e => by cases e; omega)
  refine ⟨(hk N (by omega)).trans h.bs, (hk (N + 1) (by omega)).trans h.bp, ?_, Below.grown h.ext ht.grown h.ext.size (fun k e => by cases e; exact hm)⟩
  rw [setS_snoc] at ho
  rw [List.length_append, List.length_singleton]
  exact ho

theorem RdE.form {w : World} {v : Value} {l : List Ent} {n : Nat} (hv : RdE w v l) (hn : n = l.length) :
    ∃ A c, v = .slice A n c ∧ n ≤ c ∧ c ≤ 9223372036854775807 ∧ Hid (l ≠ [] → ∃ b o, A = some ⟨b, o, none⟩ ∧
      ∀ (j : Nat) (h : j < l.length), w.cell? ⟨b, o + j * 3, Option.none⟩ = some (.string l[j].path) ∧ w.cell? ⟨b, o + j * 3 + 1, Option.none⟩ = some (.int .i64 l[j].kind) ∧ w.cell? ⟨b, o + j * 3 + 2, Option.none⟩ = some (.string l[j].data) ∧ l[j].fits) := by
  by_cases h0 : l = []
  · obtain ⟨A, c, e, h1, h2, _⟩ := hv
    rw [← hn] at e h1
    exact ⟨A, c, e, h1, h2, Lib.hid fun h => absurd h0 h⟩
  · obtain ⟨b, o, c, e, h1, h2, h3⟩ := RdE.open_ hv h0
    rw [← hn] at e h1
    exact ⟨_, c, e, h1, h2, Lib.hid fun _ => ⟨b, o, rfl, h3⟩⟩

/-- The outer loop's relation, and the inner one's. -/
def MetOut (s : List (List Ent)) (p : ByteArray) (f n : Nat) (w : World) (N mb : Nat) (v : Value) (i : Value) (wr : World) : Prop :=
  ∃ k : Nat, i = .int .i64 k ∧ f ≤ k ∧ k ≤ n ∧ NM w wr N mb v p (metAt s p f k)
def MetIn (s : List (List Ent)) (p : ByteArray) (f k m : Nat) (l : List Ent) (w : World) (N mb : Nat) (v : Value) (jv : Value) (wr : World) : Prop :=
  ∃ j : Nat, jv = .int .i64 j ∧ j ≤ m ∧ NM w wr N mb v p (metAt s p f k ++ (l.take j).filterMap (inP p))

theorem metIn_next {s : List (List Ent)} {p : ByteArray} {f k m j : Nat} {l : List Ent} {x : Ent} {acc zs : List ByteArray} {w w' : World} {N mb : Nat} {v : Value} (hjl : j < m) (Hacc : Hid (metAt s p f k ++ (l.take j).filterMap (inP p) = acc))
    (Hmi : Hid ((l.take (j + 1)).filterMap (inP p) = (l.take j).filterMap (inP p) ++ (inP p x).toList)) (hz : (inP p x).toList = zs) (h : NM w w' N mb v p (acc ++ zs)) :
    MetIn s p f k m l w N mb v (.int .i64 ((j : Int) + 1)) w' ∧ m - (intOf (.int .i64 ((j : Int) + 1))).toNat < m - (intOf (.int .i64 (j : Int))).toNat := by
  refine ⟨⟨j + 1, by simp, by omega, ?_⟩, by simp [intOf]; omega⟩
  rw [Hmi.out, ← List.append_assoc, Hacc.out, hz]
  exact h

theorem metOut_next {s : List (List Ent)} {p : ByteArray} {f k n : Nat} {w w' : World} {N mb : Nat} {v : Value} (hfk : f ≤ k) (hlt : k < n) (h : NM w w' N mb v p (metAt s p f (k + 1))) :
    MetOut s p f n w N mb v (.int .i64 ((k : Int) + 1)) w' ∧ n - (intOf (.int .i64 ((k : Int) + 1))).toNat < n - (intOf (.int .i64 (k : Int))).toNat :=
  ⟨⟨k + 1, by simp, by omega, by omega, h⟩, by simp [intOf]; omega⟩

set_option maxRecDepth 100000 in
set_option maxHeartbeats 16000000 in
theorem Names_ok (v : Value) (s : List (List Ent)) (p : ByteArray) (f : Nat) (w : World) (hv : RdK w v s) (hp : p.size ≤ 70368744177664) (hd : dirE s p = .ok f) :
    Calls Tryz.prog 18 #[v, .string p] w (NamesOk s p f w) := by
  have HD := fun w' h => Dir_any v s p w' h (by omega)
  rw [hd] at HD
  have HD : ∀ w', RdK w' v s → Calls Tryz.prog 55 #[v, .string p] w' (DirOk f w') := HD
  have HD2 := fun (W : World) h => (callsIn_wide (n := 3 - 1)).2 (HD W h)
  obtain ⟨x0, hx0, hk0, hf0⟩ := dirE_ok hd
  obtain ⟨xs0, hst, hn0, hl0, _⟩ := lookE_ok hx0
  have hfl := lookN_floor hl0
  rw [hf0] at hfl
  obtain ⟨hs9, hlay⟩ := stackOk_layers hst
  have Hlay := Lib.hid hlay
  have Hst := Lib.hid hst
  have Hv := Lib.hid hv
  have Hd := Lib.hid hd
  obtain ⟨n, hn⟩ : ∃ n, n = s.length := ⟨_, rfl⟩
  have Hn := Lib.hid hn
  have hlen := Rd.len hv
  obtain ⟨A, c, rfl, hc1, hc2, Hcell⟩ := RdK.form hv hn
  rw [← hn] at hlen hs9 hfl
  clear hv hd HD hx0 hk0 hf0 hn0 hl0 hlay hst hn
  refine (callsIn_wide (n := 3)).1 ?_
  refine callsIn_of_wp_marks Tryz.func18 rfl trivial ?_ rfl
  simp only [Tryz.ntmps18, List.size_toArray, List.length_cons, List.length_nil, Nat.reduceAdd, Nat.reduceSub, Array.replicate_succ, Array.replicate_zero, List.push_toArray, List.append_toArray, List.nil_append, List.cons_append]
  have hmm := @run_makeMap Tryz.prog
  gi_wp2_with (refine ⟨trivial, ?_⟩; gi_at_call 55; refine (HD2 _ (Hv.out.ext (by exact (by repeat (first | exact Ext.refl _ | assumption | refine Ext.alloc ?_ _ | refine Ext.drew ?_ | refine Ext.drewN ?_ _ | refine Ext.setCell ?_ (by first | omega | (simp; done) | (simp; omega)) _ | refine Ext.trans ?_ (by assumption)))))).mono ?_; rintro e W1 ⟨rfl, hE⟩)
  clear hmm HD2
  obtain ⟨N, hN⟩ : ∃ N, w.heap.size = N := ⟨_, rfl⟩
  obtain ⟨mb, hmb⟩ : ∃ mb, W1.heap.size = mb := ⟨_, rfl⟩
  have hNmb : N + 1 < mb := by have := hE.size; simp at this; omega
  have hM : NM w (W1.alloc (.map #[] 0)) N mb (.slice A n c) p (metAt s p f f) := by
    have b0 := (Boxed.new w 22 (.slice A n c)).alloc (.cells #[.string p] 9)
    have b1 := Boxed.new (w.alloc (.cells #[.slice A n c] 22)) 9 (.string p)
    simp only [World.size_alloc, hN] at b0 b1
    refine ⟨(boxed_ext b0 hE).alloc _, (boxed_ext b1 hE).alloc _, ?_, ?_⟩
    · rw [metAt_zero, ← hmb]
      exact World.ownsMap_made W1 _ _ _
    · exact Ext.alloc (Ext.trans (by exact (by repeat (first | exact Ext.refl _ | assumption | refine Ext.alloc ?_ _ | refine Ext.drew ?_ | refine Ext.drewN ?_ _ | refine Ext.setCell ?_ (by first | omega | (simp; done) | (simp; omega)) _ | refine Ext.trans ?_ (by assumption)))) hE) _
  have hmw : w.heap.size ≤ mb := by omega
  have hszm : mb < (W1.alloc (.map #[] 0)).heap.size := by simp [hmb]
  simp only [hN, hmb]
  have HN := Lib.hid hN
  clear hN hmb hE
  generalize W1.alloc (.map #[] 0) = W3 at hM hszm ⊢
  gi_loopw [9] (fun i wr => MetOut s p f n w N mb (.slice A n c) i wr) (fun i _ => n - (intOf i).toNat)
  case atStart => exact ⟨f, rfl, Nat.le_refl _, hfl, hM⟩
  case round =>
    obtain ⟨k, rfl, hfk, hkn, hm⟩ := hrel
    have bs := hm.bs.cell
    have bp := hm.bp.cell
    by_cases hlt : k < n
    · have hh : k < s.length := by have := Hn.out; omega
      obtain ⟨b, o, rfl, hcell⟩ := Hcell.out (List.ne_nil_of_length_pos (by omega))
      obtain ⟨u, q0, hu⟩ := hcell k hh
      have g0 := hm.ext.cell q0
      obtain ⟨l, hl⟩ : ∃ l, s[k]'hh = l := ⟨_, rfl⟩
      rw [hl] at hu
      obtain ⟨m, hmm⟩ : ∃ m, m = l.length := ⟨_, rfl⟩
      have Hmm := Lib.hid hmm
      have hll := layerOk_len (Hlay.out l (by rw [← hl]; exact List.getElem_mem hh))
      obtain ⟨A2, c2, rfl, hd1, hd2, Hcell2⟩ := RdE.form hu hmm
      have Hl := Lib.hid hl
      have HM := Lib.hid hm
      rw [← hmm] at hll
      clear hcell q0 hu hmm hl hm
      have hkk : (0 : Int) ≤ (k : Int) := by omega
      have hkk2 : (k : Int) < (n : Int) := by omega
      gi_wp2
      obtain ⟨wo, hwo⟩ : ∃ wo, wo = wr := ⟨_, rfl⟩
      subst hwo
      gi_loopw [39] (fun jv wr => MetIn s p f k m l w N mb (.slice (some ⟨b, o, none⟩) n c) jv wr) (fun jv _ => m - (intOf jv).toNat)
      case atStart => exact ⟨0, rfl, Nat.zero_le _, by simpa using HM.out⟩
      case round =>
        obtain ⟨j, rfl, hjm, hm⟩ := hrel
        clear bs bp
        have bs := hm.bs.cell
        have bp := hm.bp.cell
        by_cases hjl : j < m
        · have hjh : j < l.length := by have := Hmm.out; omega
          obtain ⟨b2, o2, rfl, hcell⟩ := Hcell2.out (List.ne_nil_of_length_pos (by omega))
          obtain ⟨x, hx⟩ : ∃ x, l[j]'hjh = x := ⟨_, rfl⟩
          obtain ⟨q0, q1, q2, hf⟩ := hcell j hjh
          rw [hx] at q0 q1 q2 hf
          have g1 := hm.ext.cell q0
          have g2 := hm.ext.cell q1
          have g3 := hm.ext.cell q2
          have hlk := Hlay.out l (by rw [← Hl.out]; exact List.getElem_mem hh)
          have hok := headOk_ent (okAt_head (layerOk_at hlk j hjh))
          rw [hx] at hok
          obtain ⟨ys, z, hnm, _⟩ := entOk_names hok
          have hin : inP p x = if pathOf ys = p then some z else none := by
            rw [inP, hnm]
            simp
          have hzn : z.size ≤ 8 := nameB_size (List.all_eq_true.1 (names_some hnm).1 z (by simp))
          have hmi := met_in p hjh
          rw [hx] at hmi
          have Hmi := Lib.hid hmi
          have HP := fun W => (callsIn_wide (n := 3 - 1)).2 (Parent_some x.path ys z W hf.1 hnm)
          have Hx := Lib.hid hx
          have Hlen := Lib.hid (metAt_len (f := f) p (k + 1) Hst.out)
          rw [metAt_succ p hfk hh] at Hlen
          have hacc : (metAt s p f k ++ (l.take j).filterMap (inP p)).length ≤ 576 := by
            have h1 := Hlen.out
            rw [Hl.out, ← List.take_append_drop j l, List.filterMap_append, List.length_append, List.length_append] at h1
            rw [List.length_append]
            omega
          obtain ⟨acc, hacc'⟩ : ∃ acc, metAt s p f k ++ (l.take j).filterMap (inP p) = acc := ⟨_, rfl⟩
          rw [hacc'] at hm hacc
          have Hacc := Lib.hid hacc'
          have HMm := Lib.hid hm
          clear q0 q1 q2 hcell hlk hok hnm hmi hx hf hacc' hm
          have hjj : (0 : Int) ≤ (j : Int) := by omega
          have hjj2 : (j : Int) < (m : Int) := by omega
          by_cases hd : pathOf ys = p
          · have hde : ((pathOf ys).toList == p.toList) = true := by rw [hd]; simp
            have hin' : inP p x = some z := by rw [hin, if_pos hd]
            have Hin := Lib.hid hin'
            clear hin hd hin'
            gi_wp2_with (refine ⟨trivial, ?_⟩; gi_at_call 33; refine (HP _).mono ?_; rintro e W7 ⟨rfl, hE7⟩; have hm7 := HMm.out.grow (Ext.trans (by exact (by repeat (first | exact Ext.refl _ | assumption | refine Ext.alloc ?_ _ | refine Ext.drew ?_ | refine Ext.drewN ?_ _ | refine Ext.setCell ?_ (by first | omega | (simp; done) | (simp; omega)) _ | refine Ext.trans ?_ (by assumption)))) hE7); have bp7 := hm7.bp.cell; obtain ⟨w8, r8, o8, t8⟩ := hm7.own.store (e := 4) (t := 97) law_strS Tryz.underlying97 (by unfold maxLen; omega) (key := .string z) (val := .bool true) (keySS z (by unfold maxLen; omega)) (d := uT) (ps := []) rfl)
            exact metIn_next hjl Hacc Hmi (zs := [z]) (by rw [Hin.out]; rfl) (hm7.put hmw hNmb o8 t8)
          · have hde : ((pathOf ys).toList == p.toList) = false := by
              rw [beq_eq_false_iff_ne]
              exact fun e => hd (data_inj (by rw [← toList_eq, e, toList_eq]))
            have hin' : inP p x = none := by rw [hin, if_neg hd]
            have Hin := Lib.hid hin'
            clear hin hd hin'
            gi_wp2_with (refine ⟨trivial, ?_⟩; gi_at_call 33; refine (HP _).mono ?_; rintro e W7 ⟨rfl, hE7⟩; have hm7 := HMm.out.grow (Ext.trans (by exact (by repeat (first | exact Ext.refl _ | assumption | refine Ext.alloc ?_ _ | refine Ext.drew ?_ | refine Ext.drewN ?_ _ | refine Ext.setCell ?_ (by first | omega | (simp; done) | (simp; omega)) _ | refine Ext.trans ?_ (by assumption)))) hE7); have bp7 := hm7.bp.cell)
            exact metIn_next hjl Hacc Hmi (zs := []) (by rw [Hin.out]; rfl) (by rw [List.append_nil]; exact hm7)
        · have hjm2 : j = m := by omega
          have hfin : NM w wr N mb (.slice (some ⟨b, o, none⟩) n c) p (metAt s p f (k + 1)) := by
            rw [metAt_succ p hfk hh, Hl.out]
            rw [List.take_of_length_le (by have := Hmm.out; omega)] at hm
            exact hm
          have HF := Lib.hid hfin
          clear hfin hm
          subst hjm2
          gi_wp2
          exact metOut_next hfk hlt HF.out
    · have hkn2 : k = n := by omega
      subst hkn2
      have hm2 : NM w wr N mb (.slice A k c) p (metP s p f) := by
        rw [← metAt_end, ← Hn.out]
        exact hm
      have hlen2 := metAt_len (f := f) p k Hst.out
      rw [Hn.out, metAt_end] at hlen2
      have HM := Lib.hid hm2
      clear hm hm2
      have cK : ∀ mb W, CallsIn Fence.wide (3 - 1) Tryz.prog 56 #[.map mb] W fun e w' => e = .returned (.func (.func 109) #[] #[.pointer (some ⟨W.heap.size, 0, none⟩)]) ∧ w' = W.alloc (.cells #[.map mb] 97) :=
        fun mb W => AnyZ.keys_in Tryz.keysS Fence.wide (3 - 1) trivial rfl mb W
      gi_wp2_with (refine ⟨trivial, ?_⟩; gi_at_call 56; refine (cK _ _).mono ?_; rintro e W7 ⟨rfl, rfl⟩)
      obtain ⟨OB, hOB⟩ : ∃ OB, wr.heap.size = OB := ⟨_, rfl⟩
      have hmo : mb < OB := by have := HM.out.own.lt; omega
      have b0 : Boxed ((wr.alloc (.cells #[.slice none 0 0] 27)).alloc (.cells #[.map (some mb)] 97)) OB 27 (.slice none 0 0) := by
        have := (Boxed.new wr 27 (.slice none 0 0)).alloc (.cells #[.map (some mb)] 97)
        rwa [hOB] at this
      have b1 : Boxed ((wr.alloc (.cells #[.slice none 0 0] 27)).alloc (.cells #[.map (some mb)] 97)) (OB + 1) 97 (.map (some mb)) := by
        have := Boxed.new (wr.alloc (.cells #[.slice none 0 0] 27)) 97 (.map (some mb))
        rwa [World.size_alloc, hOB] at this
      have hE0 : Ext wr ((wr.alloc (.cells #[.slice none 0 0] 27)).alloc (.cells #[.map (some mb)] 97)) := (by repeat (first | exact Ext.refl _ | assumption | refine Ext.alloc ?_ _ | refine Ext.drew ?_ | refine Ext.drewN ?_ _ | refine Ext.setCell ?_ (by first | omega | (simp; done) | (simp; omega)) _ | refine Ext.trans ?_ (by assumption)))
      have hsz : ((wr.alloc (.cells #[.slice none 0 0] 27)).alloc (.cells #[.map (some mb)] 97)).heap.size = OB + 1 + 1 := by simp [hOB]
      rw [hOB]
      have hM0 := HM.out.grow hE0
      clear hOB
      generalize (wr.alloc (.cells #[.slice none 0 0] 27)).alloc (.cells #[.map (some mb)] 97) = W0 at b0 b1 hE0 hsz hM0 ⊢
      have HM0 := Lib.hid hM0
      have Hl2 := Lib.hid hlen2
      have hmixed : Tryz.prog.follows .mixedOrders = true := by kernel_rfl
      clear hM0 hlen2 bs bp HM hE0
      refine wpIn_rangeFunc_ownC rfl (by omega) (gf := 109) (lb := #[.pointer (some ⟨OB + 1, 0, none⟩)]) rfl trivial (enters_of Tryz.func109 (by kernel_rfl) rfl)
        (keysP_stops 2 (by omega) (OB + 1) mb _ (OB + 1) (setS (metP s p f)) W0 (by omega) b1.cell HM0.out.own) (by omega) walksK_t walksK_b (Below.refl _ _) (fun _ => rfl)
        (fun pre W => ((∃ u, Boxed W OB 27 u ∧ W.ownsRow (OB + 1 + 1) 9 1 u (shownL s p pre).length ((shownL s p pre).map encStr)) ∧ (Boxed W N 22 (.slice A k c) ∧ Boxed W (N + 1) 9 (.string p))) ∧ Ext w W ∧ OB + 1 + 1 ≤ W.heap.size)
        (fun _ _ _ => False)
        ?hIc ?hI ?hIx ?h0
        (fun x => { tmps := #[Value.slice A k c, Value.string p, Value.pointer (some { block := N, off := 0 }),
          Value.pointer (some { block := N + 1, off := 0 }), Value.slice none 0 0, Value.nilIface,
          Value.int IntKind.i64 ↑f, Value.nilIface, Value.map (some mb), Value.int IntKind.i64 ↑k, undef, u11, u12, u13,
          u14, Value.pointer (some { block := OB, off := 0 }), encStr x,
          Value.tuple #[Value.int IntKind.i64 ↑f, Value.nilIface], Value.slice A k c, Value.string p,
          Value.tuple #[Value.int IntKind.i64 ↑f, Value.nilIface], Value.int IntKind.i64 ↑f, Value.nilIface,
          Value.nilIface, Value.bool false, undef, Value.map (some mb), Value.int IntKind.i64 ↑f,
          Value.int IntKind.i64 ↑k, Value.slice A k c, Value.int IntKind.i64 ↑k, Value.bool false, u32, u33, u34, u35,
          u36, u37, u38, u39, u40, u41, u42, u43, u44, u45, u46, u47, u48, u49, u50, u51, u52, u53, u54, u55,
          Value.map (some mb),
          Value.func (Fn.func 109) #[] #[Value.pointer (some { block := OB + 1, off := 0 })], encStr x, undef,
          undef, undef, undef, undef, undef, undef, undef, undef, undef, undef, undef], defers := [] }) ?assign ?body ?done ?stop
      case hIc =>
        rintro pre W u ⟨⟨⟨v, hv, hrow⟩, c0, c1⟩, hE, hlt⟩
        have hb : ∀ {B : Nat} {t : TypeId} {x : Value}, B ≠ OB + 1 → Boxed W B t x → Boxed (W.setCell ⟨OB + 1, 0, none⟩ u) B t x := fun hne h => (Below.heap_setCell W ⟨OB + 1, 0, none⟩ u _ hne).trans h
        exact ⟨⟨⟨v, hb (by omega) hv, ownsRow_setCell_below hrow (by show OB + 1 < OB + 1 + 1; omega) u⟩, hb (by omega) c0, hb (by omega) c1⟩, hE.setCell (by simp; omega) u, by simpa [World.setCell] using hlt⟩
      case hI =>
        refine OwnFrom.and (OwnFrom.and (Own.from (fun pre X Y row ⟨v, hv, hr⟩ hg hrow => ?_) _) (Own.from (fun pre X Y row ⟨c0, c1⟩ hg hrow => ?_) _)) (OwnFrom.and (ownFrom_below (Nat.le_refl _) (by omega)) (fun _ _ _ _ hs hg _ => Nat.le_trans hs hg.size))
        · obtain ⟨v', h1, h2, _⟩ := holdsRow_own (OB + 1 + 1) OB 27 9 1 (fun _ : Unit => (shownL s p pre).length) (fun _ => (shownL s p pre).map encStr) (fun _ _ => True) () X Y row ⟨v, hv, hr, trivial⟩ hg hrow
          exact ⟨v', h1, h2⟩
        · exact ⟨boxed_own _ _ (fun _ : Unit => _) () X Y row c0 hg hrow, boxed_own _ _ (fun _ : Unit => _) () X Y row c1 hg hrow⟩
      case hIx =>
        intro c pre X Y row h hg hrow
        exact h.elim
      case h0 => exact ⟨⟨⟨_, b0, World.ownsRow_nil _ _ _ _⟩, HM0.out.bs, HM0.out.bp⟩, HM0.out.ext, by omega⟩
      case assign =>
        intro l x W K hK
        gi_wp2
        exact hK
      case body =>
        rintro l pre x W ⟨⟨⟨v, hv, hrow⟩, c0, c1⟩, hE, hlt⟩ hpx
        have hxm : B x ∈ metP s p f := (setS_has _ _).1 (hpx.2 x (by simp))
        have hxn : nameB (B x) = true := by
          obtain ⟨i, l', y, _, _, _, hy⟩ := mem_metP.1 hxm
          obtain ⟨ys, hys, _⟩ := inP_iff.1 hy
          exact List.all_eq_true.1 (names_some hys).1 _ (by simp)
        have hxs := nameB_size hxn
        have hpl : (pre ++ [x]).length ≤ 576 := Nat.le_trans (nodup_len hpx.1 fun y hy => (setS_has _ _).1 (hpx.2 y hy)) Hl2.out
        rw [List.length_append, List.length_singleton] at hpl
        have hsl := shownL_len s p pre
        have Hsn := Lib.hid (shownL_snoc s p pre x)
        obtain ⟨A', cp, rfl⟩ := own_form hrow
        obtain ⟨q, hq⟩ : ∃ q, childP p (B x) = q := ⟨_, rfl⟩
        have hqs : q.size ≤ 140737488355328 := by
          rw [← hq, childP]
          have hz : (B x).data.toList.length = (B x).size := Array.length_toList
          have hz2 : p.data.toList.length = p.size := Array.length_toList
          split <;> rw [size_B] <;> simp only [List.length_append, List.length_cons] <;> omega
        have HC := fun W => child_any p (B x) W (by omega) (by omega)
        rw [hq] at HC
        have HC2 := fun W => (callsIn_wide (n := 3 - 1 - 1 - 1)).2 (HC W)
        have HS := fun W h => Shows_any (.slice A k c) s q W h hqs
        have HS2 := fun W h => (callsIn_wide (n := 3 - 1 - 1 - 1)).2 (HS W h)
        have Hq := Lib.hid hq
        have c0c := c0.cell
        have c1c := c1.cell
        clear hpx hxm hxn hq HC HS
        rcases hsx : showsE s q with _ | _
        · rw [hsx] at HS2
          have Hsx := Lib.hid hsx
          clear hsx
          gi_wp2
          gi_region_with_o (first | (refine ⟨trivial, ?_⟩; gi_at_call 58; refine (CallsIn.inRound l (HC2 _)).mono ?_; rintro e W1 ⟨rfl, hE1'⟩; have hE1 : Ext W W1 := Ext.trans (by exact (by repeat (first | exact Ext.refl _ | assumption | refine Ext.alloc ?_ _ | refine Ext.drew ?_ | refine Ext.drewN ?_ _ | refine Ext.setCell ?_ (by first | omega | (simp; done) | (simp; omega)) _ | refine Ext.trans ?_ (by assumption)))) hE1'; have d0 := (boxed_ext c0 hE1).cell) | (refine ⟨trivial, ?_⟩; gi_at_call 57; refine (CallsIn.inRound l (HS2 _ (Hv.out.ext (hE.trans hE1)))).mono ?_; rintro e W2 ⟨rfl, hE2⟩))
          all_goals gi_wp2
          all_goals
            have hE2' := hE1.trans hE2
            refine ⟨others_ext hE2', walks_ext hE2', ⟨⟨⟨_, boxed_ext hv hE2', ?_⟩, boxed_ext c0 hE2', boxed_ext c1 hE2'⟩, hE.trans hE2', Nat.le_trans hlt hE2'.size⟩⟩
            rw [Hsn.out, Hq.out, Hsx.out]
            simpa using own_ext hrow hE2'
        · rw [hsx] at HS2
          have Hsx := Lib.hid hsx
          obtain ⟨i0, hi, hz0, hz1, hz2⟩ := info_parts Tryz.info9s
          clear hsx
          gi_wp2
          gi_region_with_o (first | (refine ⟨trivial, ?_⟩; gi_at_call 58; refine (CallsIn.inRound l (HC2 _)).mono ?_; rintro e W1 ⟨rfl, hE1'⟩; have hE1 : Ext W W1 := Ext.trans (by exact (by repeat (first | exact Ext.refl _ | assumption | refine Ext.alloc ?_ _ | refine Ext.drew ?_ | refine Ext.drewN ?_ _ | refine Ext.setCell ?_ (by first | omega | (simp; done) | (simp; omega)) _ | refine Ext.trans ?_ (by assumption)))) hE1'; have d0 := (boxed_ext c0 hE1).cell) | (refine ⟨trivial, ?_⟩; gi_at_call 57; refine (CallsIn.inRound l (HS2 _ (Hv.out.ext (hE.trans hE1)))).mono ?_; rintro e W2 ⟨rfl, hE2⟩))
          all_goals
            have hE2' := hE1.trans hE2
            have hv1 := boxed_ext hv hE2'
            have hvc := hv1.cell
            have hrow1 := own_ext hrow hE2'
            gi_wp2_with (gi_at_builtin; go_must (refine wpListIn_append_own _ rfl _ _ 27 rfl (OB + 1 + 1) 9 i0 (.string ⟨#[]⟩) 1 16 Tryz.underlying27 hi hz0 hz1 hz2 rfl (by decide) _ _ _ rfl (hrow1.alloc _) ⟨W2.heap.size, 0, none⟩ 1 1 [encStr x] rfl rfl (cell_one_new _ _ _) (by simp [Value.oneCell', encStr]) (by simp [maxLen]; omega) (by omega) (by have := hE2'.size; simp; omega) ?_); intro v' w2 hown' hgrow _; obtain ⟨g', cap', rfl⟩ := ownsRow_succ hown'; obtain ⟨hv1', hv2, _, hk2, hb2⟩ := hv1.appended (n₀ := OB) (by decide) (own_lower hrow1 (by omega)) (by have := hE2'.size; omega) (by omega) (own_lower hown' (by omega)) hgrow; have hr2 := hown'.kept (grownBy_setCell' w2 OB (.slice (some ⟨g', 0, none⟩) ((shownL s p pre).length + 1) cap')) (.inr (hv1'.not_row (by decide) hown').symm); have hc1 := hv1'.cell; have hf1 := hv1'.frozen)
          all_goals
            have hB : ∀ {b : Nat} {t : TypeId} {u : Value}, b < OB + 1 + 1 → b ≠ OB → Boxed W b t u → Boxed (w2.setCell ⟨OB, 0, none⟩ (.slice (some ⟨g', 0, none⟩) ((shownL s p pre).length + 1) cap')) b t u := fun h1 h2 hb => by
              refine (?_ : _ = _).trans (boxed_ext hb hE2')
              rw [Below.heap_setCell _ _ _ _ h2, hgrow.block _ (by have := hE2'.size; simp; omega) (fun e => by have := (hrow1.lt _ e.symm).1; omega), Below.heap_alloc _ _ _ (by have := hE2'.size; omega)]
            refine ⟨(others_ext hE2').trans hk2, ((others_ext hE2').trans hk2).walks, ⟨⟨⟨_, hv2, ?_⟩, hB (by omega) (by omega) c0, hB (by omega) (by omega) c1⟩, ?_, ?_⟩⟩
            · rw [Hsn.out, Hq.out, Hsx.out]
              simpa using hr2
            · exact Below.trans (hE.trans hE2') (hb2.mono (by omega))
            · have := Below.size hb2
              have := hE2'.size
              omega
      case done =>
        rintro D xs W hD ⟨hnd, hmem⟩ ⟨⟨⟨v, hv, hrow⟩, c0, c1⟩, hE, hlt⟩ hK
        have hmet : ∀ x, x ∈ xs ↔ B x ∈ metP s p f := fun x => (hmem x).trans (setS_has _ _)
        have hlen3 := nodup_len hnd fun x hx => (hmet x).1 hx
        have hlen4 := shownL_len s p xs
        have hlen5 := Hl2.out
        have HN2 := Lib.hid (names_done hnd hmet)
        have hvc := hv.cell
        obtain ⟨A', cp, rfl⟩ := own_form hrow
        have HS := (callsIn_wide (n := 3 - 1)).2 (sortS_any _ _ _ W hrow (by omega))
        clear hmem hmet hnd
        gi_wp2_with (refine ⟨trivial, ?_⟩; gi_at_call 59; refine HS.mono ?_; rintro e W2 ⟨rfl, hrow2, hgr⟩; have hb2 : ∀ k o, W.heap[k]? = some o → k < OB + 1 + 1 ∨ o.isCells = false → W2.heap[k]? = some o := (fun k o ho hk => ((hgr _ rfl).block k (Array.getElem?_eq_some_iff.1 ho).1 (fun e => (hk.elim (fun h => by have := (hrow.lt k e.symm).1; omega) (fun h => by obtain ⟨cs, tt, fr, hc⟩ := own_cells hrow e.symm; rw [hc] at ho; cases ho; cases h)))).trans ho); have hv2 : Boxed W2 OB 27 (.slice A' (shownL s p xs).length cp) := hb2 _ _ hv (.inl (by omega)); have hv2c := hv2.cell)
        have hKf := hb2 D _ hK (.inr rfl)
        have hEf : Ext w W2 := Below.grown hE (hgr _ rfl) (by have := hE.size; omega) (fun j hj => by have := (hrow.lt j hj).1; have := HN.out; omega)
        refine ⟨by simp, .inl ⟨_, _, rfl, run_takeDeferred hKf, ?_⟩⟩
        refine ⟨.tuple #[.slice A' (shownL s p xs).length cp, .nilIface], by simp [results, Tryz.f18, go_sem], ?_⟩
        have hr3 := ownsRow_putObj hrow2 (.deferred none) hKf rfl
        refine ⟨_, _, rfl, HN2.out, ?_, Below.trans hEf (belowK_b (w := w) (Nat.le_refl _) W2 D _ _ (by omega) hKf rfl rfl)⟩
        have hlm : (((shownL s p xs).mergeSort fun x y => decide (x ≤ y)).map B).length = (shownL s p xs).length := by simp
        refine RdS.of_own (base := OB + 1 + 1) (e := 9) ?_ (by rw [hlm]; omega)
        rw [hlm, List.map_map]
        exact hr3
      case stop => 
        rintro D c pre W hD hpre h
        exact h.elim
/-- list.Names, for every stack and every path of at most 2^46 bytes. -/
theorem Names_any (v : Value) (s : List (List Ent)) (p : ByteArray) (w : World) (hv : RdK w v s) (hp : p.size ≤ 70368744177664) :
    Calls Tryz.prog 18 #[v, .string p] w (NamesAns s p w) := by
  rcases hd : dirE s p with c | f
  · exact (Names_bad v s p c w hv hp hd).mono fun e w' h => by rw [NamesAns, hd]; exact h
  · exact (Names_ok v s p f w hv hp hd).mono fun e w' h => by rw [NamesAns, hd]; exact h
end Go.Proofs.YtknfaabhlcdeoaaGreatDoor
