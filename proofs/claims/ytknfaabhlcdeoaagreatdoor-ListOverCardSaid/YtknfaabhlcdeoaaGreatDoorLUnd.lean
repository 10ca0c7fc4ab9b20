/- list.under and list.Walk: all that a stack shows, sorted; for every stack. -/
import Derived.Test.YtknfaabhlcdeoaaGreatDoorShN
import Derived.Test.YtknfaabhlcdeoaaGreatDoorUnder
import Derived.Test.YtknfaabhlcdeoaaGreatDoorLHelp
import Derived.Test.YtknfaabhlcdeoaaGreatDoorDelE
import Derived.Test.YtknfaabhlcdeoaaGreatDoorLNames
import Derived.Maps.AppendAt
import Derived.Deep.AppendLies
import Derived.Laws.AppendOwnNone
namespace Go.Proofs.YtknfaabhlcdeoaaGreatDoor
open Go Go.RowKit Go.Shelf Go.Proofs Go.Maps

variable {s : List (List Ent)} {xs : List ByteArray}

/-- What a name of a directory leads to. -/
theorem und_name (hst : stackOk s = true) (hv : ValN xs) {f : Nat} {l : List ByteArray} (hd : dirE s (pathOf xs) = .ok f) (hl : NamesIs s (pathOf xs) f l) {z : ByteArray} (hz : z ∈ l) :
    ∃ e fl, ValN (xs ++ [z]) ∧ childP (pathOf xs) z = pathOf (xs ++ [z]) ∧ lookE s (pathOf (xs ++ [z])) = .ok (e, fl) ∧ showL s (pathOf (xs ++ [z])) = some e ∧ z.size ≤ 8 ∧ (e.kind = 1 ∨ e.kind = 2) ∧ (e.kind = 2 → dirE s (pathOf (xs ++ [z])) = .ok fl) ∧ e.path = pathOf (xs ++ [z]) ∧ e.fits := by
  obtain ⟨h1, h2⟩ := (hl.2 z).1 hz
  have hzn := metP_name h1
  have hc := child_path hv.1 hv.2 z
  rw [hc] at h2
  obtain ⟨⟨e, fl⟩, h3, h4⟩ := shows_path h2
  obtain ⟨ws, _, h5, _, _⟩ := lookE_ok h3
  have h6 : ws = xs ++ [z] := by
    rcases names_child hv.1 (nameOk_no hzn) h5 with h | h
    · subst h
      have e1 := (ValN.of h5).2
      have h7 := childP_size (pathOf xs) z
      rw [hc, ← e1] at h7
      have h8 : (pathOf []).size = 1 := rfl
      rw [nameB, nameOk, Bool.and_eq_true, Bool.and_eq_true, decide_eq_true_eq, Array.length_toList] at hzn
      have h9 : 1 ≤ z.size := hzn.1.1
      omega
    · exact h
  subst h6
  have hv2 := (ValN.of h5).1
  have h7 : showL s (pathOf (xs ++ [z])) = some e := lookE_show h5 (by simp) h3
  obtain ⟨h8, h9, h10, _⟩ := show_path hst h7
  have h11 := entOk_kind h9
  refine ⟨e, fl, hv2, hc, h3, h7, nameB_size hzn, by omega, fun hk => ?_, h8, entOk_fits h9⟩
  rw [dirE, h3]
  exact if_neg (by show ¬ e.kind = 1; omega)

/-- What under answers. -/
def UnderAns (s : List (List Ent)) (xs : List ByteArray) (w : World) (e : Ending) (w' : World) : Prop :=
  ∃ v ys, e = .returned v ∧ AllUnder s xs ys ∧ ys.length ≤ 576 ∧ (∀ x ∈ ys, x.fits) ∧ w'.ownsRow w.heap.size 33 3 v ys.length (flatE ys) ∧ Ext w w'

def UndRel (s : List (List Ent)) (xs : List ByteArray) (l : List ByteArray) (n : Nat) (w : World) (v5 i : Value) (wr : World) : Prop :=
  ∃ (k : Nat) (ys : List Ent), i = .int .i64 k ∧ k ≤ n ∧ Hid (SomeUnder s xs (l.take k) ys) ∧ wr.ownsRow w.heap.size 33 3 v5 ys.length (flatE ys) ∧ Ext w wr

theorem und_next {l : List ByteArray} {n k : Nat} {w W : World} {v5 : Value} {ys : List Ent} (hlt : k < n) (h : Hid (SomeUnder s xs (l.take (k + 1)) ys)) (hrow : W.ownsRow w.heap.size 33 3 v5 ys.length (flatE ys)) (hE : Ext w W) :
    UndRel s xs l n w v5 (.int .i64 ((k : Int) + 1)) W ∧ n - (intOf (.int .i64 ((k : Int) + 1))).toNat < n - (intOf (.int .i64 (k : Int))).toNat :=
  ⟨⟨k + 1, ys, by simp, by omega, h, hrow, hE⟩, by simp [intOf]; omega⟩

theorem flatE_app (a b : List Ent) : flatE (a ++ b) = flatE a ++ flatE b := by simp [flatE]

theorem some_step (hst : stackOk s = true) {l : List ByteArray} (hl : l.Pairwise fun a b => lt a b = true) {k : Nat} (hk : k < l.length) {z : ByteArray} (hz : l[k] = z) (hv : ValN (xs ++ [z])) {ys sub : List Ent} {e : Ent} (h : SomeUnder s xs (l.take k) ys) (he : showL s (pathOf (xs ++ [z])) = some e)
    (hsub : (e.kind = 2 ∧ AllUnder s (xs ++ [z]) sub) ∨ (e.kind ≠ 2 ∧ sub = [])) : SomeUnder s xs (l.take (k + 1)) (ys ++ (e :: sub)) ∧ (ys ++ (e :: sub)).length ≤ 576 := by
  have hn : z ∉ l.take k := fun hm => by
    obtain ⟨j, hj, e2⟩ := List.getElem_of_mem hm
    rw [List.length_take] at hj
    rw [List.getElem_take] at e2
    have := List.pairwise_iff_getElem.1 hl j k (by omega) hk (by omega)
    rw [e2, hz, lt_irrefl] at this
    cases this
  have h1 := some_snoc hst hn hv h he hsub
  rw [← hz, List.take_append_getElem hk] at h1
  exact ⟨h1, (some_len hst h1).1⟩

theorem und_row {w : World} {base : Nat} {v : Value} {ys : List Ent} {m : Nat} {p d : ByteArray} {k : Int} (hm : ys.length = m) (h : w.ownsRow base 33 3 v (m + 1) (flatE ys ++ [.string p, .int .i64 k, .string d])) :
    w.ownsRow base 33 3 v (ys ++ ((⟨p, k, d⟩ : Ent) :: [])).length (flatE (ys ++ ((⟨p, k, d⟩ : Ent) :: []))) := by
  rw [flatE_app, List.length_append, hm]
  exact h
theorem und_row2 {w : World} {base : Nat} {v : Value} {ys sub : List Ent} {m : Nat} {p d : ByteArray} {k : Int} (hm : ys.length = m) (h : w.ownsRow base 33 3 v (m + 1 + sub.length) ((flatE ys ++ [.string p, .int .i64 k, .string d]) ++ flatE sub)) :
    w.ownsRow base 33 3 v (ys ++ ((⟨p, k, d⟩ : Ent) :: sub)).length (flatE (ys ++ ((⟨p, k, d⟩ : Ent) :: sub))) := by
  rw [flatE_app, flatE_cons, List.length_append, hm, List.length_cons, ← List.append_assoc, show m + (sub.length + 1) = m + 1 + sub.length by omega]
  exact h

theorem ents_news {w : World} {base e n : Nat} {g c : Nat} {xs : List Value} (h : w.ownsRow base e 3 (.slice (some ⟨g, 0, none⟩) n c) n xs) : ∀ (j : Nat) u, xs[j]? = some u → w.cell? ((⟨g, 0, none⟩ : Addr).add j) = some u := by
  intro j u hj
  rw [Addr.add_lit, Nat.zero_add, h.cellAt j (by have := (List.getElem?_eq_some_iff.1 hj).1; have := h.1; omega), hj]

/-- A row of entries behind another. -/
theorem append_rows {w : World} {ops : Array Oper} {rest : List Oper} {o : Oper} {a : Act} {Q : Exit → Act → World → Prop} (hgd : o.guard = none) (s x : Operand)
    (ho : o.op = .call { callee := .builtin .append, args := #[s, x], argTypes := #[34, 34] }) (base : Nat) (hbase : base ≤ w.heap.size) (v : Value) (n : Nat) (xs : List Value) (hs : a.eval s = v) (hown : w.ownsRow base 33 3 v n xs)
    (b6 : Nat) (u : Value) (hx : a.eval x = u) (sub : List Ent) (h6 : w.ownsRow b6 33 3 u sub.length (flatE sub)) (hn : n + sub.length ≤ 1000000)
    (h : ∀ v' w', w'.ownsRow base 33 3 v' (n + sub.length) (xs ++ flatE sub) → w.grownBy w' v.ownBlock → wpList Tryz.prog ops Q rest (a.put o.dst v') w') : wpList Tryz.prog ops Q (o :: rest) a w := by
  obtain ⟨i0, hi, hz0, hz1, hz2⟩ := info_parts info_ent
  rcases h6.2 with ⟨rfl, h06⟩ | ⟨g6, cap6, cur6, rfl, _⟩
  · have hs0 : sub = [] := List.eq_nil_of_length_eq_zero h06
    subst hs0
    exact wpList_append_own_none hgd _ _ 34 ho base 33 _ 3 Tryz.underlying34 hi v n xs hs hown hx (h v w (by simpa [flatE] using hown) ⟨rfl, rfl, rfl, Nat.le_refl _, fun _ _ _ => rfl⟩)
  · exact wpList_append_own w hgd _ _ 34 ho base 33 i0 (.agg #[.string ⟨#[]⟩, .int .i64 0, .string ⟨#[]⟩]) 3 40 Tryz.underlying34 hi hz0 hz1 hz2 rfl (by decide) v n xs hs hown ⟨g6, 0, none⟩ sub.length cap6 (flatE sub) hx (ents_length sub) (ents_news h6) (ents_one sub) (by unfold maxLen; omega) (by omega) hbase fun v' w' h2 h3 _ => h v' w' h2 h3

set_option maxHeartbeats 8000000 in
set_option maxRecDepth 20000 in
theorem under_step (hst : stackOk s = true) (hv : ValN xs) {f : Nat} (hd : dirE s (pathOf xs) = .ok f) (v : Value) (w : World) (hr : RdK w v s)
    (ih : ∀ (z : ByteArray) (f' : Nat) (W : World), ValN (xs ++ [z]) → dirE s (pathOf (xs ++ [z])) = .ok f' → RdK W v s → Calls Tryz.prog 76 #[v, .string (pathOf (xs ++ [z]))] W (UnderAns s (xs ++ [z]) W)) :
    Calls Tryz.prog 76 #[v, .string (pathOf xs)] w (UnderAns s xs w) := by
  have hps := pathOf_size hv.1 hv.2
  have HN := fun W h => Names_ok v s (pathOf xs) f W h (by omega) hd
  have HI := Lib.hid ih
  have Hr := Lib.hid hr
  have Hv := Lib.hid hv
  have Hd := Lib.hid hd
  have Hst := Lib.hid hst
  obtain ⟨A, c, rfl, _, _, _⟩ := RdK.form hr rfl
  obtain ⟨i0, hi, hz0, hz1, hz2⟩ := info_parts info_ent
  obtain ⟨p, hp⟩ : ∃ p, pathOf xs = p := ⟨_, rfl⟩
  rw [hp] at HN hps ⊢
  have Hp := Lib.hid hp
  clear hr hv hd ih hst hp
  go_enter Tryz.func76, Tryz.ntmps76
  go_upto_region 4 with (go_at_call 18; refine (HN _ (Hr.out.ext (by exact (by repeat (first | exact Ext.refl _ | assumption | refine Ext.alloc ?_ _ | refine Ext.drew ?_ | refine Ext.drewN ?_ _ | refine Ext.setCell ?_ (by first | omega | (simp; done) | (simp; omega)) _ | refine Ext.trans ?_ (by assumption)))))).mono ?_; rintro e W1 ⟨u, l, rfl, hl, hu, hE1⟩; obtain ⟨n, hn⟩ : ∃ n, n = l.length := ⟨_, rfl⟩; have hlen := Rd.len hu; obtain ⟨A1, c1, rfl, hc1, hc2, Hcell⟩ := rdS_form hu hn; have Hn := Lib.hid hn; have Hl := Lib.hid hl; rw [← hn] at hlen; clear hn hl hu)
  clear HN
  go_loopw [5, 20] (fun v5 i wr => UndRel s xs l n W1 v5 i wr) (fun _ i _ => n - (intOf i).toNat)
  case atStart => exact ⟨0, [], rfl, Nat.zero_le _, Lib.hid (some_nil s xs), World.ownsRow_nil _ _ _ _, Ext.refl _⟩
  case round =>
    obtain ⟨k, ys, rfl, hkn, hsome, hrow, hE⟩ := hrel
    by_cases hlt : k < n
    · have hh : k < l.length := by have := Hn.out; omega
      obtain ⟨b, o, rfl, hcell⟩ := Hcell.out (List.ne_nil_of_length_pos (by omega))
      obtain ⟨z, hz⟩ : ∃ z, l[k]'hh = z := ⟨_, rfl⟩
      obtain ⟨e, fl, hvz, hcz, hlz, hsz, hz8, hkz, hdz, hpe, hfe⟩ := und_name Hst.out Hv.out Hd.out (by rw [Hp.out]; exact Hl.out) (z := z) (by rw [← hz]; exact List.getElem_mem hh)
      rw [Hp.out] at hcz
      have hqs := pathOf_size hvz.1 hvz.2
      have HC := fun W => child_any p z W (by omega) (by omega)
      have HU := HI.out z fl
      have Hkz := Lib.hid hkz
      have Hstep := Lib.hid fun sub => some_step Hst.out Hl.out.1 hh hz hvz hsome.out hsz (sub := sub)
      have Hsub := Lib.hid fun (sub : List Ent) => (some_len Hst.out hsome.out).1
      rw [hcz] at HC
      obtain ⟨q, hq⟩ : ∃ q, pathOf (xs ++ [z]) = q := ⟨_, rfl⟩
      rw [hq] at HC HU hlz hqs hdz hpe
      have hA : ∀ W, RdK W (.slice A s.length c) s → Calls Tryz.prog 64 #[.slice A s.length c, .string q] W (AtOk (e, fl) W) := fun W h => by
        have := LAt_any (.slice A s.length c) s q W h (by omega)
        rw [hlz] at this
        exact this
      have g0 := hE.cell (hcell k hh)
      rw [hz] at g0
      obtain ⟨m, hm⟩ : ∃ m, ys.length = m := ⟨_, rfl⟩
      have hm6 : m ≤ 576 := by rw [← hm]; exact Hsub.out []
      have Hm := Lib.hid hm
      rw [hm] at hrow
      have Hrow := Lib.hid hrow
      have HAt := Lib.hid hA
      have HU2 : Hid (∀ W, e.kind = 2 → RdK W (.slice A s.length c) s → Calls Tryz.prog 76 #[.slice A s.length c, .string q] W (UnderAns s (xs ++ [z]) W)) := Lib.hid fun W hk h => HU W hvz (hdz hk) h
      have Hdz := Lib.hid hdz
      have hElen := fun (sub : List Ent) (h : (ys ++ (e :: sub)).length ≤ 576) => h
      have Hfe := Lib.hid hfe
      obtain ⟨ep, ek, ed⟩ := e
      have hpe : ep = q := hpe
      subst hpe
      obtain ⟨A5, c5, rfl⟩ := own_form hrow
      have Hhe := Lib.hid hE
      clear hz hsome hsz hvz hcz hq hlz hA hcell hrow HU hm hdz hfe hElen hE hkz
      go_upto_region 7 with (first | (go_at_call 58; refine (HC _).mono ?_; rintro e W2 ⟨rfl, hE2⟩) | (go_at_call 64; refine (HAt.out _ (Hr.out.ext (hE1.trans (Hhe.out.trans (Ext.trans (by exact (by repeat (first | exact Ext.refl _ | assumption | refine Ext.alloc ?_ _ | refine Ext.drew ?_ | refine Ext.drewN ?_ _ | refine Ext.setCell ?_ (by first | omega | (simp; done) | (simp; omega)) _ | refine Ext.trans ?_ (by assumption)))) hE2))))).mono ?_; rintro e W3 ⟨rfl, hE3⟩))
      have hX := Blk.new W3 111 #[.string ep, .int .i64 ek, .string ed, .int .i64 fl]
      have hE4 : Ext wr (W3.alloc (.cells #[.string ep, .int .i64 ek, .string ed, .int .i64 fl] 111)) := Ext.alloc (Ext.trans (Ext.trans (by exact (by repeat (first | exact Ext.refl _ | assumption | refine Ext.alloc ?_ _ | refine Ext.drew ?_ | refine Ext.drewN ?_ _ | refine Ext.setCell ?_ (by first | omega | (simp; done) | (simp; omega)) _ | refine Ext.trans ?_ (by assumption)))) hE2) hE3) _
      have hwx : wr.heap.size ≤ W3.heap.size := Ext.size (Ext.trans (Ext.trans (by exact (by repeat (first | exact Ext.refl _ | assumption | refine Ext.alloc ?_ _ | refine Ext.drew ?_ | refine Ext.drewN ?_ _ | refine Ext.setCell ?_ (by first | omega | (simp; done) | (simp; omega)) _ | refine Ext.trans ?_ (by assumption)))) hE2) hE3)
      obtain ⟨xb, hxb⟩ : ∃ xb, W3.heap.size = xb := ⟨_, rfl⟩
      rw [hxb] at hX hwx
      rw [hxb]
      clear hxb
      generalize W3.alloc (.cells #[.string ep, .int .i64 ek, .string ed, .int .i64 fl] 111) = W4 at hX hE4 ⊢
      have Hrow4 := Lib.hid (own_ext Hrow.out hE4)
      have hsz4 : W1.heap.size ≤ W4.heap.size := Nat.le_trans Hhe.out.size hE4.size
      have HX := Lib.hid hX
      obtain ⟨⟨x0, y0⟩, ⟨x1, y1⟩, ⟨x2, y2⟩, ⟨x3, y3⟩⟩ := hX.four
      clear hX HC hE2 hE3 g0
      go_upto_region 8 with (at_builtin; refine wpList_append_own _ rfl _ _ 34 rfl W1.heap.size 33 i0 (.agg #[.string ⟨#[]⟩, .int .i64 0, .string ⟨#[]⟩]) 3 40 Tryz.underlying34 hi hz0 hz1 hz2 rfl (by decide) _ _ _ rfl (Hrow4.out.alloc _) ⟨W4.heap.size, 0, none⟩ 1 1 [.string ep, .int .i64 ek, .string ed] rfl rfl (World.news_of_block (cs := #[.string ep, .int .i64 ek, .string ed]) (t := 33) (fr := (0, 0)) (Blk.new W4 _ _)) (by simp [Value.oneCell']) (by unfold maxLen; omega) (by omega) (by rw [World.size_alloc]; omega) ?_; intro v5 W5 hown5 hgrow5 hnil5)
      have hE5 : Ext W1 W5 := Ext.grown ((Hhe.out.trans hE4).alloc _) hgrow5 (fun j hj => (Hrow4.out.lt j hj).1)
      have hX5 : Blk W5 xb 111 #[.string ep, .int .i64 ek, .string ed, .int .i64 fl] := (hgrow5.block xb (by rw [World.size_alloc]; have := HX.out.lt; omega) (fun e => by have := (Hrow.out.lt xb (by first | exact e | exact e.symm)).2; omega)).trans (HX.out.ext ((Ext.refl W4).alloc _))
      have Hown5 := Lib.hid hown5
      have HE5 := Lib.hid hE5
      clear x0 y0 x1 y1 x2 y2 x3 y3 hgrow5 hnil5 hE4 hsz4
      obtain ⟨⟨x0, y0⟩, ⟨x1, y1⟩, ⟨x2, y2⟩, ⟨x3, y3⟩⟩ := hX5.four
      obtain ⟨A7, c7, rfl⟩ := own_form hown5
      clear hown5
      by_cases hk : ek = 2
      · have hk' : (ek == 2) = true := by simpa using hk
        have Hk := Lib.hid hk
        have HW5 := Lib.hid (hE1.trans hE5)
        have h51 := hE5.size
        have HU6 : Hid (∀ W, RdK W (.slice A s.length c) s → Calls Tryz.prog 76 #[.slice A s.length c, .string ep] W (UnderAns s (xs ++ [z]) W)) := Lib.hid fun W h => HU2.out W hk h
        clear hk
        go_wp2_with (first | (go_at_call 76; refine (HU6.out _ (Hr.out.ext HW5.out)).mono ?_; rintro e W6 ⟨v6, sub, rfl, hall6, hlen6, hfit6, hrow6, hE6⟩; have hst' := Hstep.out sub (.inl ⟨Hk.out, hall6⟩); have Hst' := Lib.hid hst'; have Hown6 := Lib.hid (own_ext Hown5.out hE6); have HE16 := Lib.hid (HE5.out.trans hE6); have Hb6 := Lib.hid (Nat.le_trans h51 hE6.size); have Hl6 := Lib.hid hlen6; have Hr6 := Lib.hid hrow6; clear hst' hall6 hfit6 hlen6 hE6 hrow6 x0 y0 x1 y1 x2 y2 x3 y3 hX5) | (at_builtin; refine append_rows rfl _ _ rfl W1.heap.size Hb6.out _ _ _ rfl Hown6.out W5.heap.size _ rfl sub Hr6.out (by have := Hl6.out; omega) ?_; intro v8 W8 hown8 hgrow8))
        exact und_next hlt (Lib.hid Hst'.out.1) (und_row2 Hm.out hown8) (Ext.grown HE16.out hgrow8 (fun j hj => (Hown6.out.lt j hj).1))
      · have hk' : (ek == 2) = false := by simpa using hk
        have hst' := Hstep.out [] (.inr ⟨hk, rfl⟩)
        have Hst' := Lib.hid hst'
        clear hst'
        go_wp2
        exact und_next hlt (Lib.hid Hst'.out.1) (und_row Hm.out Hown5.out) HE5.out
    · have hkn' : k = n := by omega
      have hall : AllUnder s xs ys := all_of Hst.out Hv.out Hd.out (by rw [Hp.out]; exact Hl.out) (by have := hsome.out; rwa [List.take_of_length_le (by have := Hn.out; omega)] at this)
      have Hall := Lib.hid hall
      have Hlen := Lib.hid (some_len Hst.out hsome.out)
      have Hrow := Lib.hid hrow
      clear hall hsome hrow
      go_wp2
      go_ret
      exact ⟨_, ys, rfl, Hall.out, Hlen.out.1, fun x hx => entOk_fits (Hlen.out.2 x hx), own_lower Hrow.out hE1.size, hE1.trans hE⟩

/-- list.under, at each directory of a stack that is right. -/
theorem under_any (hst : stackOk s = true) (v : Value) : ∀ (n : Nat) (xs : List ByteArray), xs.length + n = 7 → ValN xs → ∀ (f : Nat) (w : World), dirE s (pathOf xs) = .ok f → RdK w v s → Calls Tryz.prog 76 #[v, .string (pathOf xs)] w (UnderAns s xs w)
  | 0, xs, hl, hv, f, w, _, _ => by
    have := hv.2
    omega
  | n + 1, xs, hl, hv, f, w, hd, hr => under_step hst hv hd v w hr fun z f' W hvz hdz hrz => under_any hst v n (xs ++ [z]) (by rw [List.length_append, List.length_singleton]; omega) hvz f' W hdz hrz

/-- .. and at one that isn't. -/
theorem under_bad (hst : stackOk s = false) (v : Value) (w : World) (hr : RdK w v s) : Calls Tryz.prog 76 #[v, .string ⟨#[47]⟩] w fun e w' => e = .returned (.slice none 0 0) ∧ Ext w w' := by
  have hd : dirE s ⟨#[47]⟩ = .error 16 := by rw [dirE, lookE, if_neg (by rw [hst]; simp)]
  have HN := fun W h => Names_bad v s ⟨#[47]⟩ 16 W h (by decide) hd
  have Hr := Lib.hid hr
  obtain ⟨A, c, rfl, _, _, _⟩ := RdK.form hr rfl
  clear hr hd hst
  go_enter Tryz.func76, Tryz.ntmps76
  go_upto_region 4 with (go_at_call 18; refine (HN _ (Hr.out.ext (by exact (by repeat (first | exact Ext.refl _ | assumption | refine Ext.alloc ?_ _ | refine Ext.drew ?_ | refine Ext.drewN ?_ _ | refine Ext.setCell ?_ (by first | omega | (simp; done) | (simp; omega)) _ | refine Ext.trans ?_ (by assumption)))))).mono ?_; rintro e W1 ⟨a, rfl, hEr, hE1⟩)
  go_loopw [5, 20] (fun v5 i wr => v5 = .slice none 0 0 ∧ i = .int .i64 0 ∧ Ext w wr) (fun _ _ _ => 0)
  case atStart => exact ⟨rfl, rfl, hE1⟩
  case round =>
    obtain ⟨rfl, rfl, hE⟩ := hrel
    go_wp2
    go_ret
    exact ⟨rfl, hE⟩

/-- What list.Walk answers. -/
def walkT (s : List (List Ent)) : List Ent := if stackOk s = true then foldT s else []
def WalkAns (s : List (List Ent)) (w : World) (e : Ending) (w' : World) : Prop := ∃ v, e = .returned v ∧ RdE w' v (walkT s) ∧ Ext w w'

instance inhEntU : Inhabited Ent := ⟨⟨⟨#[]⟩, 0, ⟨#[]⟩⟩⟩

theorem walk1_any : CmpPaths 78 := fun x y W => by
  have H := fun w => Tryz.strings_Compare x.path y.path w
  show Calls Tryz.prog 78 #[.agg #[.string x.path, .int .i64 x.kind, .string x.data], .agg #[.string y.path, .int .i64 y.kind, .string y.data]] W _
  go_enter Tryz.func78, Tryz.ntmps78
  go_wp2_with (go_at_call 79; refine (H _).mono ?_; rintro e w' ⟨rfl, rfl⟩)
  go_ret
  exact ⟨rfl, 0, _, by rw [Sort.alloc_eq_grow, Sort.alloc_eq_grow, Sort.grow_grow]; rfl⟩
theorem eg_walk1 : ∀ args w, (callFunc 78 args).run Tryz.prog w = .ok (.enter 78 args) w := enters_of Tryz.func78 (by kernel_rfl) rfl

theorem fold_fits (hst : stackOk s = true) : ∀ x ∈ foldT s, x.fits := fun x hx => entOk_fits ((treeOk_iff.1 (fold_show hst).1).2.2 x hx).1
theorem root_val : ValN [] := ⟨rfl, by simp⟩

set_option maxHeartbeats 4000000 in
/-- list.Walk, for every stack. -/
theorem Walk_any (v : Value) (s : List (List Ent)) (w : World) (hr : RdK w v s) : Calls Tryz.prog 34 #[v] w (WalkAns s w) := by
  rcases hst : stackOk s with _ | _
  · have HU := fun W h => under_bad hst v W h
    have hw : walkT s = [] := by rw [walkT, if_neg (by simp [hst])]
    have Hr := Lib.hid hr
    have Hw := Lib.hid hw
    obtain ⟨A, c, rfl, _, _, _⟩ := RdK.form hr rfl
    clear hr hst hw
    have HS := fun W => sortE_any 78 walk1_any eg_walk1 W.heap.size (.slice none 0 0) [] W (World.ownsRow_nil _ _ _ _) (by simp)
    go_enter Tryz.func34, Tryz.ntmps34
    go_wp2_with (first | (go_at_call 76; refine (HU _ Hr.out).mono ?_; rintro e W1 ⟨rfl, hE1⟩) | (go_at_call 77; refine (HS _).mono ?_; rintro e W2 ⟨rfl, ys, hperm, hsort, hrow, hgr⟩))
    go_ret
    refine ⟨_, rfl, by rw [Hw.out]; exact Rd.nil _ _ _, Ext.grown hE1 (hgr none rfl) (fun j hj => by cases hj)⟩
  · have hd := dir_root hst
    have HU := fun W h => under_any hst v 7 [] rfl root_val 0 W hd h
    have hw : walkT s = foldT s := by rw [walkT, if_pos hst]
    have Hr := Lib.hid hr
    have Hw := Lib.hid hw
    have Hst := Lib.hid hst
    obtain ⟨A, c, rfl, _, _, _⟩ := RdK.form hr rfl
    clear hr hst hw hd
    have HU2 : ∀ W, RdK W (.slice A s.length c) s → Calls Tryz.prog 76 #[.slice A s.length c, .string ⟨#[47]⟩] W (UnderAns s [] W) := HU
    clear HU
    go_enter Tryz.func34, Tryz.ntmps34
    go_wp2_with (first | (go_at_call 76; refine (HU2 _ Hr.out).mono ?_; rintro e W1 ⟨v1, ys, rfl, hall, hlen, hfit, hrow, hE1⟩; have Hrow := Lib.hid hrow; obtain ⟨A1, c1, rfl⟩ := own_form hrow; clear hrow) | (go_at_call 77; refine (sortE_any 78 walk1_any eg_walk1 w.heap.size _ ys _ Hrow.out (by omega)).mono ?_; rintro e W2 ⟨rfl, zs, hperm, hsort, hrow2, hgr⟩))
    have hz : zs = foldT s := walk_fold Hst.out hall hperm hsort
    subst hz
    have Hrow2 := Lib.hid hrow2
    have hl2 : (foldT s).length = ys.length := hperm.length_eq
    have HE2 := Lib.hid (Ext.grown hE1 (hgr _ rfl) (fun j hj => (Hrow.out.lt j hj).1))
    clear hrow2 hgr hperm hsort hall
    go_ret
    exact ⟨_, rfl, by rw [Hw.out, ← hl2]; exact RdE.of_own (by have := Hrow2.out; rw [← hl2] at this; exact this) (by omega) (fold_fits Hst.out), HE2.out⟩
end Go.Proofs.YtknfaabhlcdeoaaGreatDoor
