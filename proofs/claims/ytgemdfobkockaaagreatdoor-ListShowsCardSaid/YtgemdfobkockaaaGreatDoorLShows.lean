/- shalelaw13.ListShows is true. -/
import Derived.Test.YtgemdfobkockaaaGreatDoorLAwake
import Derived.Test.YtgemdfobkockaaaGreatDoorFew
import Derived.Deep.QuietTactic
import Derived.BigQuiet
import Derived.Lib.QuietBelow
namespace Go.Proofs.YtgemdfobkockaaaGreatDoor
open Go Go.RowKit Go.Shelf Go.Proofs

theorem lookN_code {s : List (List Ent)} {xs : List ByteArray} {i : Nat} {c : Int} (h : lookN s xs i = .error c) : c ≠ 0 := by
  induction i with
  | zero => rw [lookN] at h; cases h
  | succ i ih =>
    rw [lookN] at h
    split at h
    · rename_i c' hc
      cases h
      exact ih hc
    · split at h
      · cases h; decide
      · split at h
        · cases h
        · cases h; decide
theorem lookE_code {s : List (List Ent)} {p : ByteArray} {c : Int} (h : lookE s p = .error c) : c ≠ 0 := by
  rw [lookE] at h
  split at h
  · split at h
    · cases h; decide
    · exact lookN_code h
  · cases h; decide
theorem dirE_code {s : List (List Ent)} {p : ByteArray} {c : Int} (h : dirE s p = .error c) : c ≠ 0 := by
  rw [dirE] at h
  split at h
  · rename_i c' hc
    cases h
    exact lookE_code hc
  · split at h
    · cases h; decide
    · cases h

theorem few_yes {v : Value} {s : List (List Ent)} (h : fewOk s = true) (w : World) (hv : RdK w v s) : Calls Tryz.prog 16 #[v] w fun e w' => e = .returned (.int .i64 1) ∧ Ext w w' := by
  have := Few_any v s w hv
  rwa [h] at this
theorem few_no {v : Value} {s : List (List Ent)} (h : fewOk s = false) (w : World) (hv : RdK w v s) : Calls Tryz.prog 16 #[v] w fun e w' => e = .returned (.int .i64 0) ∧ Ext w w' := by
  have := Few_any v s w hv
  rwa [h] at this

set_option maxRecDepth 100000 in
set_option maxHeartbeats 4000000 in
/-- Where the law lets an input go. -/
theorem shows_let (v : Value) (s : List (List Ent)) (p name : ByteArray) (w : World) (hv : RdK w v s) (h : ¬ (fewOk s = true ∧ p.size ≤ 60 ∧ name.size ≤ 20)) :
    Calls Tryz.prog 3 #[v, .string p, .string name] w fun e w' => e = .returned (.bool true) ∧ Ext w w' := by
  have Hv := Lib.hid hv
  obtain ⟨A, c, rfl, _, _, _⟩ := RdK.form hv rfl
  clear hv
  rcases hf : fewOk s with _ | _
  · have HF := fun w => few_no (v := .slice A s.length c) hf w
    clear hf h
    go_enter Tryz.func3, Tryz.ntmps3
    go_wp2_with fail
    refine (LAwake_any _).mono ?_
    rintro e W1 ⟨rfl, hE1⟩
    go_wp2_with fail
    refine (HF _ (Hv.out.ext hE1)).mono ?_
    rintro e W2 ⟨rfl, hE2⟩
    have hE3 := hE1.trans hE2
    go_wp2_with fail
    refine (LAwake_any _).mono ?_
    rintro e W4 ⟨rfl, hE4⟩
    go_wp2
    go_ret
    exact ⟨rfl, hE3.trans hE4⟩
  · have HF := fun w => few_yes (v := .slice A s.length c) hf w
    by_cases hp : p.size ≤ 60
    · have hn : ¬ name.size ≤ 20 := fun hn => h ⟨hf, hp, hn⟩
      have hp' : ¬ (60 : Int) < (p.size : Int) := by omega
      have hn' : (20 : Int) < (name.size : Int) := by omega
      clear hf h
      go_enter Tryz.func3, Tryz.ntmps3
      go_wp2_with fail
      refine (LAwake_any _).mono ?_
      rintro e W1 ⟨rfl, hE1⟩
      go_wp2_with fail
      refine (HF _ (Hv.out.ext hE1)).mono ?_
      rintro e W2 ⟨rfl, hE2⟩
      have hE3 := hE1.trans hE2
      go_wp2_with fail
      refine (LAwake_any _).mono ?_
      rintro e W4 ⟨rfl, hE4⟩
      go_wp2
      go_ret
      exact ⟨rfl, hE3.trans hE4⟩
    · have hp' : (60 : Int) < (p.size : Int) := by omega
      clear hf h
      go_enter Tryz.func3, Tryz.ntmps3
      go_wp2_with fail
      refine (LAwake_any _).mono ?_
      rintro e W1 ⟨rfl, hE1⟩
      go_wp2_with fail
      refine (HF _ (Hv.out.ext hE1)).mono ?_
      rintro e W2 ⟨rfl, hE2⟩
      have hE3 := hE1.trans hE2
      go_wp2_with fail
      refine (LAwake_any _).mono ?_
      rintro e W4 ⟨rfl, hE4⟩
      go_wp2
      go_ret
      exact ⟨rfl, hE3.trans hE4⟩

set_option maxRecDepth 100000 in
set_option maxHeartbeats 4000000 in
/-- A directory that has no names. -/
theorem shows_bad (v : Value) (s : List (List Ent)) (p name : ByteArray) (w : World) (c : Int) (hL : Laid w) (hv : RdK w v s) (hf : fewOk s = true) (hp : p.size ≤ 60) (hn : name.size ≤ 20) (hd : dirE s p = .error c) :
    Calls Tryz.prog 3 #[v, .string p, .string name] w fun e w' => e = .returned (.bool true) ∧ Ext w w' := by
  have Hv := Lib.hid hv
  have HL := Lib.hid hL
  obtain ⟨A, c', rfl, _, _, _⟩ := RdK.form hv rfl
  have HF := fun w => few_yes (v := .slice A s.length c') hf w
  have hc := dirE_code hd
  have hc0 : (c == 0) = false := by simpa using hc
  have HN := fun w h => Names_bad (.slice A s.length c') s p c w h (by omega) hd
  have hp' : ¬ (60 : Int) < (p.size : Int) := by omega
  have hn' : ¬ (20 : Int) < (name.size : Int) := by omega
  clear hv hf hd hL hc
  go_enter Tryz.func3, Tryz.ntmps3
  go_wp2_with fail
  refine (LAwake_any _).mono ?_
  rintro e W1 ⟨rfl, hE1⟩
  go_wp2_with fail
  refine (HF _ (Hv.out.ext hE1)).mono ?_
  rintro e W2 ⟨rfl, hE2⟩
  have hE3 := hE1.trans hE2
  go_wp2_with fail
  refine (HN _ (Hv.out.ext hE3)).mono ?_
  rintro e W4 ⟨a, rfl, hEr, hE4⟩
  have hE5 := hE3.trans hE4
  go_wp2_with fail
  refine (Code_err 1 _ c _ hEr (HL.out.ext hE5)).mono ?_
  rintro e W6 ⟨rfl, hE6⟩
  go_wp2
  go_ret
  exact ⟨rfl, hE5.trans hE6⟩

theorem rdS_form {w : World} {v : Value} {l : List ByteArray} {n : Nat} (hv : RdS w v l) (hn : n = l.length) :
    ∃ A c, v = .slice A n c ∧ n ≤ c ∧ c ≤ 9223372036854775807 ∧ Hid (l ≠ [] → ∃ b o, A = some ⟨b, o, none⟩ ∧ ∀ (j : Nat) (h : j < l.length), w.cell? ⟨b, o + j, none⟩ = some (.string l[j])) := by
  by_cases h0 : l = []
  · obtain ⟨A, c, e, h1, h2, _⟩ := hv
    rw [← hn] at e h1
    exact ⟨A, c, e, h1, h2, Lib.hid fun h => absurd h0 h⟩
  · obtain ⟨b, o, c, e, h1, h2, h3⟩ := RdS.open_ hv h0
    rw [← hn] at e h1
    exact ⟨_, c, e, h1, h2, Lib.hid fun _ => ⟨b, o, rfl, fun j h => h3 j _ (List.getElem?_eq_getElem h)⟩⟩

/-- The first loop's relation: whether the name has come. -/
def FoundRel (l : List ByteArray) (name : ByteArray) (n : Nat) (w : World) (fv iv : Value) (wr : World) : Prop :=
  ∃ (k : Nat) (b : Bool), iv = .int .i64 k ∧ fv = .bool b ∧ k ≤ n ∧ Hid (b = (l.take k).any fun y => decide (y = name)) ∧ Ext w wr

theorem found_next {l : List ByteArray} {name : ByteArray} {n k : Nat} {b b' : Bool} {w wr : World} (hlt : k < n) (hh : k < l.length) (hb : Hid (b = (l.take k).any fun y => decide (y = name))) (hb' : b' = (b || decide (l[k] = name))) (hE : Ext w wr) :
    FoundRel l name n w (.bool b') (.int .i64 ((k : Int) + 1)) wr ∧ n - (intOf (.int .i64 ((k : Int) + 1))).toNat < n - (intOf (.int .i64 (k : Int))).toNat := by
  refine ⟨⟨k + 1, b', by simp, rfl, by omega, Lib.hid ?_, hE⟩, by simp [intOf]; omega⟩
  rw [hb', hb.out, ← List.take_append_getElem hh]
  rw [List.any_append]
  simp

theorem child_root {p name q : ByteArray} (h : (p.toList == [47]) = true) (hq : Hid (childP p name = q)) : p ++ name = q := by
  have hp : p = ⟨#[47]⟩ := data_inj (by rw [← toList_eq]; simpa using h)
  rw [← hq.out, childP, if_pos hp, hp]
  exact ByteArray.ext (by simp [B])
theorem child_deep {p name q : ByteArray} (h : (p.toList == [47]) = false) (hq : Hid (childP p name = q)) : p ++ ⟨#[47]⟩ ++ name = q := by
  have hp : ¬ p = ⟨#[47]⟩ := fun e => by
    rw [e, toList_eq] at h
    simp at h
  rw [← hq.out, childP, if_neg hp]
  exact ByteArray.ext (by simp [B])

/-- The second loop's relation: whether a slash has come. -/
def DeepRel (name : ByteArray) (n : Nat) (dv iv : Value) : Prop :=
  ∃ (k : Nat) (b : Bool), iv = .int .i64 k ∧ dv = .bool b ∧ k ≤ n ∧ Hid (b = (name.data.toList.take k).any fun c => decide (c = 47))

theorem deep_next {name : ByteArray} {n k : Nat} {b b' : Bool} (hlt : k < n) (hh : k < name.size) (hb : Hid (b = (name.data.toList.take k).any fun c => decide (c = 47))) (hb' : b' = (b || decide (name[k] = 47))) :
    DeepRel name n (.bool b') (.int .i64 ((k : Int) + 1)) ∧ n - (intOf (.int .i64 ((k : Int) + 1))).toNat < n - (intOf (.int .i64 (k : Int))).toNat := by
  refine ⟨⟨k + 1, b', by simp, rfl, by omega, Lib.hid ?_⟩, by simp [intOf]; omega⟩
  have hh' : k < name.data.toList.length := by rw [Array.length_toList]; exact hh
  rw [hb', hb.out, ← List.take_append_getElem hh', List.any_append]
  simp only [List.any_cons, List.any_nil, Bool.or_false]
  rfl

theorem found_iff {s : List (List Ent)} {p name q : ByteArray} {f : Nat} {l : List ByteArray} {b d : Bool} (hd : dirE s p = .ok f) (hl : NamesIs s p f l) (hq : childP p name = q) (hb : b = l.any fun y => decide (y = name))
    (hdp : d = name.data.toList.any fun c => decide (c = 47)) (hd0 : d = false) (hn : name.size ≠ 0) : b = showsE s q := by
  subst hq
  have hbare : bare name := fun c hc e => by
    rw [hd0] at hdp
    have := (List.any_eq_false.1 hdp.symm) c hc
    simp [e] at this
  have h := names_shows hd hl hbare hn
  rw [Bool.eq_iff_iff, ← h, hb, List.any_eq_true]
  constructor
  · rintro ⟨y, hy, e⟩
    rw [decide_eq_true_eq] at e
    subst e
    exact hy
  · intro hy
    exact ⟨name, hy, by simp⟩

set_option maxRecDepth 100000 in
set_option maxHeartbeats 16000000 in
/-- A directory that has names. -/
theorem shows_ok (v : Value) (s : List (List Ent)) (p name : ByteArray) (w : World) (f : Nat) (hL : Laid w) (hv : RdK w v s) (hf : fewOk s = true) (hp : p.size ≤ 60) (hn : name.size ≤ 20) (hd : dirE s p = .ok f) :
    Calls Tryz.prog 3 #[v, .string p, .string name] w fun e w' => e = .returned (.bool true) ∧ Ext w w' := by
  have Hv := Lib.hid hv
  have HL := Lib.hid hL
  obtain ⟨A, c', rfl, _, _, _⟩ := RdK.form hv rfl
  have HF := fun w => few_yes (v := .slice A s.length c') hf w
  have HN := fun w h => Names_ok (.slice A s.length c') s p f w h (by omega) hd
  have hp' : ¬ (60 : Int) < (p.size : Int) := by omega
  have hn' : ¬ (20 : Int) < (name.size : Int) := by omega
  obtain ⟨q, hq⟩ : ∃ q, childP p name = q := ⟨_, rfl⟩
  have hqs : q.size ≤ 140737488355328 := by
    rw [← hq, childP]
    have hz : name.data.toList.length = name.size := Array.length_toList
    have hz2 : p.data.toList.length = p.size := Array.length_toList
    split <;> rw [size_B] <;> simp only [List.length_append, List.length_cons] <;> omega
  have Hq := Lib.hid hq
  have Hd := Lib.hid hd
  clear hv hf hd hL hq
  go_enter Tryz.func3, Tryz.ntmps3
  go_wp2_with fail
  refine (LAwake_any _).mono ?_
  rintro e W1 ⟨rfl, hE1⟩
  go_wp2_with fail
  refine (HF _ (Hv.out.ext hE1)).mono ?_
  rintro e W2 ⟨rfl, hE2⟩
  have hE3 := hE1.trans hE2
  go_wp2_with fail
  refine (HN _ (Hv.out.ext hE3)).mono ?_
  rintro e W4 ⟨v1, l, rfl, hl, hr, hE4⟩
  have hE5 := hE3.trans hE4
  obtain ⟨n, hn⟩ : ∃ n, n = l.length := ⟨_, rfl⟩
  have Hn := Lib.hid hn
  have hlen := Rd.len hr
  obtain ⟨A1, c1, rfl, hd1, hd2, Hcell⟩ := rdS_form hr hn
  rw [← hn] at hlen
  have Hl := Lib.hid hl
  clear hn hr hl
  go_wp2_with fail
  refine (Code_nil _).mono ?_
  rintro e W6 ⟨rfl, hE6⟩
  have hE7 := hE5.trans hE6
  go_upto_region 9 with (fail)
  all_goals
    first
      | rw [child_root (by assumption) Hq]
      | rw [child_deep (by assumption) Hq]
    go_wp2
    go_loopw [10, 11] (fun fv iv wr => FoundRel l name n W6 fv iv wr) (fun _ iv _ => n - (intOf iv).toNat)
    case atStart => exact ⟨0, false, rfl, rfl, Nat.zero_le _, Lib.hid rfl, Ext.refl _⟩
    case round =>
      obtain ⟨k, b, rfl, rfl, hkn, hb, hE⟩ := hrel
      by_cases hlt : k < n
      · have hh : k < l.length := by have := Hn.out; omega
        obtain ⟨ba, bo, rfl, hcell⟩ := Hcell.out (List.ne_nil_of_length_pos (by omega))
        obtain ⟨x, hx⟩ : ∃ x, l[k]'hh = x := ⟨_, rfl⟩
        have q0 := (hE6.trans hE).cell (hcell k hh)
        rw [hx] at q0
        have Hx := Lib.hid hx
        clear hx
        have hb' : (b || decide (l[k]'hh = name)) = (b || (x.toList == name.toList)) := by
          rw [Hx.out]
          congr 1
          rw [Bool.eq_iff_iff, decide_eq_true_eq, beq_iff_eq]
          exact ⟨fun e => by rw [e], fun e => data_inj (by rw [← toList_eq, e, toList_eq])⟩
        have Hb' := Lib.hid hb'
        clear hb'
        rcases k with _ | j
        · clear hcell
          rw [Nat.add_zero] at q0
          cases b
          · obtain ⟨e, he⟩ : ∃ e, (x.toList == name.toList) = e := ⟨_, rfl⟩
            rw [he] at Hb'
            go_wp2
            go_quiet (fail)
            go_wp2
            exact found_next hlt hh hb Hb'.out.symm (hE.drewN _)
          · go_wp2
            go_quiet (fail)
            go_wp2
            exact found_next hlt hh hb Hb'.out.symm (hE.drewN _)
        · have hj : j < l.length := by omega
          obtain ⟨y, hy⟩ : ∃ y, l[j]'hj = y := ⟨_, rfl⟩
          have q1 := (hE6.trans hE).cell (hcell j hj)
          rw [hy] at q1
          have hlt2 : lt y x = true := by
            rw [← hy, ← Hx.out]
            exact List.pairwise_iff_getElem.1 Hl.out.1 j (j + 1) hj hh (by omega)
          have hless : Op.bytesLess x.toList y.toList = false := by rw [bytesLess_lt]; exact lt_asymm hlt2
          have hne2 : (x.toList == y.toList) = false := by
            rw [beq_eq_false_iff_ne]
            exact fun e => lt_ne hlt2 (data_inj (by rw [← toList_eq, ← e, toList_eq]))
          have hsub : IntKind.i64.wrap ((↑(j + 1) : Int) - 1) = (j : Int) := by
            have : ((↑(j + 1) : Int) - 1) = (j : Int) := by omega
            rw [this]
            exact IntWalk.i64_in _ ⟨by omega, by omega⟩
          have hjn : j < n := by omega
          clear hcell hy hlt2
          cases b
          · obtain ⟨e, he⟩ : ∃ e, (x.toList == name.toList) = e := ⟨_, rfl⟩
            rw [he] at Hb'
            go_wp2
            go_quiet (fail)
            go_wp2
            exact found_next hlt hh hb Hb'.out.symm (hE.drewN _)
          · go_wp2
            go_quiet (fail)
            go_wp2
            exact found_next hlt hh hb Hb'.out.symm (hE.drewN _)
      · have hkn2 : k = n := by omega
        have hbn : b = l.any fun y => decide (y = name) := by rw [hb.out, List.take_of_length_le (by have := Hn.out; omega)]
        have Hb := Lib.hid hbn
        have hE8 := hE7.trans hE
        have HA := LAt_any _ s q wr (Hv.out.ext hE8) hqs
        clear hb hbn hE
        subst hkn2
        have hnl : name.size ≤ 20 := hn
        rcases hlk : lookE s q with c | x
        · rw [hlk] at HA
          have HA : Calls Tryz.prog 19 #[.slice A s.length c', .string q] wr (AtBad c wr) := HA
          have hsh : showsE s q = false := by rw [showsE, hlk]
          have hc := lookE_code hlk
          have hc0 : (c == 0) = false := by simpa using hc
          have Hsh := Lib.hid hsh
          clear hlk hsh hc
          go_wp2_with (go_at_call 19; refine HA.mono ?_; rintro e W9 ⟨u, rfl, hEr, hE9⟩; obtain ⟨a5, rfl⟩ := ErrN_one hEr)
          have hE10 := hE8.trans (hE9.alloc (.cells #[.string ⟨#[]⟩, .int .i64 0, .string ⟨#[]⟩, .int .i64 0] 34))
          have hEr2 := hEr.below ((Ext.refl W9).alloc (.cells #[.string ⟨#[]⟩, .int .i64 0, .string ⟨#[]⟩, .int .i64 0] 34)).below
          have HC := Code_err 1 _ c _ hEr2 (HL.out.ext hE10)
          clear hEr hEr2
          go_loop [14, 15] (fun dv iv => DeepRel name name.size dv iv) (fun _ iv => name.size - (intOf iv).toNat)
          case atStart => exact ⟨0, false, rfl, rfl, Nat.zero_le _, Lib.hid rfl⟩
          case round =>
            obtain ⟨j, d, rfl, rfl, hjm, hdp⟩ := hrel
            by_cases hjl : j < name.size
            · have hce : ((name[j].toNat : Int) == 47) = decide (name[j] = 47) := by
                rw [Bool.eq_iff_iff, beq_iff_eq, decide_eq_true_eq, ← UInt8.toNat_inj]
                show _ ↔ name[j].toNat = 47
                omega
              obtain ⟨e, he⟩ : ∃ e, ((name[j].toNat : Int) == 47) = e := ⟨_, rfl⟩
              have He : Hid (e = decide (name[j] = 47)) := Lib.hid (by rw [← he]; exact hce)
              clear hce
              cases d
              · go_wp2
                exact deep_next hjl hjl hdp (by rw [← He.out]; rfl)
              · go_wp2
                exact deep_next hjl hjl hdp (by rw [← He.out]; rfl)
            · have hdn : d = name.data.toList.any fun c => decide (c = 47) := by
                rw [hdp.out, List.take_of_length_le (by rw [Array.length_toList]; show name.size ≤ _; omega)]
              have Hdn := Lib.hid hdn
              clear hdp hdn
              cases d
              · by_cases hz : name.size = 0
                · have hz' : ((name.size : Int) == 0) = true := by simp [hz]
                  clear HC hz
                  go_wp2
                  go_ret
                  exact ⟨rfl, hE10⟩
                · have hz' : ((name.size : Int) == 0) = false := by simpa using hz
                  have hbs : b = false := by rw [found_iff Hd.out Hl.out Hq.out Hb.out Hdn.out rfl hz, Hsh.out]
                  subst hbs
                  clear hz
                  go_wp2_with (go_at_call 18; refine HC.mono ?_; rintro e W11 ⟨rfl, hE11⟩)
                  go_ret
                  exact ⟨rfl, hE10.trans hE11⟩
              · clear HC
                go_wp2
                go_ret
                exact ⟨rfl, hE10⟩
        · rw [hlk] at HA
          obtain ⟨x, fl⟩ := x
          have HA : Calls Tryz.prog 19 #[.slice A s.length c', .string q] wr (AtOk (x, fl) wr) := HA
          have hsh : showsE s q = true := by rw [showsE, hlk]
          have hxq : x.path = q := by
            obtain ⟨_, _, _, _, h⟩ := lookE_ok hlk
            exact h
          have Hsh := Lib.hid hsh
          have hxe : (x.path.toList == q.toList) = true := by rw [hxq]; simp
          clear hlk hsh hxq
          go_wp2_with (go_at_call 19; refine HA.mono ?_; rintro e W9 ⟨rfl, hE9⟩)
          have hE10 := hE8.trans (hE9.alloc (.cells #[.string x.path, .int .i64 x.kind, .string x.data, .int .i64 fl] 34))
          have hX := Blk.new W9 34 #[.string x.path, .int .i64 x.kind, .string x.data, .int .i64 fl]
          go_loop [14, 15] (fun dv iv => DeepRel name name.size dv iv) (fun _ iv => name.size - (intOf iv).toNat)
          case atStart => exact ⟨0, false, rfl, rfl, Nat.zero_le _, Lib.hid rfl⟩
          case round =>
            obtain ⟨j, d, rfl, rfl, hjm, hdp⟩ := hrel
            by_cases hjl : j < name.size
            · have hce : ((name[j].toNat : Int) == 47) = decide (name[j] = 47) := by
                rw [Bool.eq_iff_iff, beq_iff_eq, decide_eq_true_eq, ← UInt8.toNat_inj]
                show _ ↔ name[j].toNat = 47
                omega
              obtain ⟨e, he⟩ : ∃ e, ((name[j].toNat : Int) == 47) = e := ⟨_, rfl⟩
              have He : Hid (e = decide (name[j] = 47)) := Lib.hid (by rw [← he]; exact hce)
              clear hce
              cases d
              · go_wp2
                exact deep_next hjl hjl hdp (by rw [← He.out]; rfl)
              · go_wp2
                exact deep_next hjl hjl hdp (by rw [← He.out]; rfl)
            · have hdn : d = name.data.toList.any fun c => decide (c = 47) := by
                rw [hdp.out, List.take_of_length_le (by rw [Array.length_toList]; show name.size ≤ _; omega)]
              have Hdn := Lib.hid hdn
              clear hdp hdn
              cases d
              · by_cases hz : name.size = 0
                · have hz' : ((name.size : Int) == 0) = true := by simp [hz]
                  clear hz
                  go_wp2
                  go_ret
                  exact ⟨rfl, hE10⟩
                · have hz' : ((name.size : Int) == 0) = false := by simpa using hz
                  have hbs : b = true := by rw [found_iff Hd.out Hl.out Hq.out Hb.out Hdn.out rfl hz, Hsh.out]
                  subst hbs
                  clear hz
                  go_wp2_with (go_at_call 18; refine (Code_nil _).mono ?_; rintro e W11 ⟨rfl, hE11⟩; obtain ⟨⟨c0, d0⟩, _⟩ := (hX.ext hE11).four)
                  go_ret
                  exact ⟨rfl, hE10.trans hE11⟩
              · go_wp2
                go_ret
                exact ⟨rfl, hE10⟩

/-- The law, for every stack and every two texts. -/
theorem Shows13_any (v : Value) (s : List (List Ent)) (p name : ByteArray) (w : World) (hL : Laid w) (hv : RdK w v s) :
    Calls Tryz.prog 3 #[v, .string p, .string name] w fun e w' => e = .returned (.bool true) ∧ Ext w w' := by
  by_cases h : fewOk s = true ∧ p.size ≤ 60 ∧ name.size ≤ 20
  · rcases hd : dirE s p with c | f
    · exact shows_bad v s p name w c hL hv h.1 h.2.1 h.2.2 hd
    · exact shows_ok v s p name w f hL hv h.1 h.2.1 h.2.2 hd
  · exact shows_let v s p name w hv h
end Go.Proofs.YtgemdfobkockaaaGreatDoor
