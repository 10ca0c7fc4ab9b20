/- (script.Act).line and script.Right: an act's line. -/
import Derived.Test.YtiomljaengonoaaGreatDoorActOf
import Derived.Test.YtiomljaengonoaaGreatDoorActEq
import Derived.Laws.OwnMore
import Derived.Deep.AppendLies
import Derived.Lib.Join
import Derived.Lib.ItoaLen
import Derived.Deep.DeepCutAuto
import Derived.Deep.RegionWith
namespace Go.Proofs.YtiomljaengonoaaGreatDoor
open Go Go.RowKit Go.Shelf Go.Proofs Go.Maps

theorem step_append {P : Program} (w : World) {ops : Array Oper} {o : Oper} {a : Act} {K : Act → World → Prop} {Q : Exit → Act → World → Prop} {E : Prop} (hgd : o.guard = none) (s x : Operand) (t : TypeId)
    (ho : o.op = .call { callee := .builtin .append, args := #[s, x], argTypes := #[t, t] })
    (base : Nat) (e : TypeId) (i : TypeInfo) (z : Value) (size bytes : Nat) (ht : P.underlying t = some (.slice e)) (hi : P.info? e = some i) (hz : i.zero = some z)
    (hsize : i.size = size) (hby : i.bytes = bytes) (hzs : z.cells.size = size) (hsz : 0 < size)
    (v : Value) (n : Nat) (xs : List Value) (hs : a.eval s = v) (hown : w.ownsRow base e size v n xs)
    (ad : Addr) (m c : Nat) (news : List Value) (hx : a.eval x = .slice (some ad) m c) (hl : news.length = m * size) (hnews : ∀ j u, news[j]? = some u → w.cell? (ad.add j) = some u) (h1 : ∀ u ∈ news, u.oneCell' = true)
    (h63 : n + m ≤ maxLen) (hbytes : (n + m) * bytes ≤ 140737488355328) (hbase : base ≤ w.heap.size)
    (h : ∀ v' w', w'.ownsRow base e size v' (n + m) (xs ++ news) → w.grownBy w' v.ownBlock → K (a.put o.dst v') w') : if Region.wanted o (yielded ops a.tmps) = true then Oper.wp P o a w K Q else E := by
  have hw : Region.wanted o (yielded ops a.tmps) = true := by simp [Region.wanted, hgd]
  rw [if_pos hw]
  exact wp_append_own w s x t ho base e i z size bytes ht hi hz hsize hby hzs hsz v n xs hs hown ad m c news hx hl hnews h1 h63 hbytes hbase fun v' w' h2 h3 _ => h v' w' h2 h3

theorem step_append_nil {P : Program} (w : World) {ops : Array Oper} {o : Oper} {a : Act} {K : Act → World → Prop} {Q : Exit → Act → World → Prop} {E : Prop} (hgd : o.guard = none) (s x : Operand) (t : TypeId)
    (ho : o.op = .call { callee := .builtin .append, args := #[s, x], argTypes := #[t, t] })
    (base : Nat) (e : TypeId) (i : TypeInfo) (size : Nat) (ht : P.underlying t = some (.slice e)) (hi : P.info? e = some i)
    (v : Value) (n : Nat) (xs : List Value) (hs : a.eval s = v) (hown : w.ownsRow base e size v n xs) (hx : a.eval x = .slice none 0 0)
    (h : K (a.put o.dst v) w) : if Region.wanted o (yielded ops a.tmps) = true then Oper.wp P o a w K Q else E := by
  have hw : Region.wanted o (yielded ops a.tmps) = true := by simp [Region.wanted, hgd]
  rw [if_pos hw]
  have hrun := run_append_owned_none (P := P) (w := w) base t o.type e i size ht hi v n xs hown
  unfold Oper.wp
  simp [execOp, ho, resolve, invoke, builtin, hs, hx, hrun, Result.andThen]
  exact h

/-- A text of a literal's row. -/
theorem own_one (w : World) (x : Value) {base : Nat} (hb : base ≤ w.heap.size) : (w.alloc (.cells #[x] 9)).ownsRow base 9 1 (.slice (some ⟨w.heap.size, 0, none⟩) 1 1) 1 [x] :=
  ⟨rfl, .inr ⟨w.heap.size, 1, #[x], rfl, hb, heap_alloc_new w _, Nat.le_refl _, by decide, rfl, rfl⟩⟩

theorem joinP_eq : ∀ ps : List (List UInt8), joinP 32 ps = Lib.join ps [32]
  | [] => rfl
  | [x] => by rw [Lib.join_one]; rfl
  | x :: y :: r => by
    rw [joinP, joinP_eq (y :: r), Lib.join_cons, Lib.join_cons, Lib.joinTail, Lib.joinTail, List.map_cons, List.flatten_cons]
    simp

set_option maxRecDepth 100000 in
set_option maxHeartbeats 4000000 in
/-- Nothing is needed. -/
theorem texts_nil (a : ActP) (w : World) :
    Calls Tryz.prog 72 #[a.val, .string ⟨#[]⟩] w fun e w' => e = .returned (.slice none 0 0) ∧ Ext w w' := by
  rw [show a.val = .agg #[.string (B a.name), .string (B a.p), .string (B a.q), .int .i64 a.n, .int .i64 a.m] from rfl]
  go_enter Tryz.func72, Tryz.ntmps72
  go_upto_region 2 with (fail)
  have hE1 := (Ext.refl w).alloc (.cells #[.string (B a.name), .string (B a.p), .string (B a.q), .int .i64 a.n, .int .i64 a.m] 48)
  generalize w.alloc (.cells #[.string (B a.name), .string (B a.p), .string (B a.q), .int .i64 a.n, .int .i64 a.m] 48) = W1 at hE1 ⊢
  go_wp2
  go_loopg [5, 7] 0 (fun _ out _ wx => wx.heap[W1.heap.size]? = some (.stringIter ⟨#[]⟩ 0) ∧ Ext W1 wx ∧ out = .slice none 0 0)
  case atStart => exact ⟨World.iter_heap W1 ⟨#[]⟩ 0, (Ext.refl W1).alloc _, rfl⟩
  case round =>
    obtain ⟨hit, hbw, rfl⟩ := hrel
    have hnx : ∀ ty, (Instr.next (.pointer (some ⟨W1.heap.size, 0, none⟩)) true ty).run Tryz.prog wr = _ := fun ty => Lib.run_next_end_at wr W1.heap.size ⟨#[]⟩ 0 ty hit (by decide)
    go_wp2
    go_ret
    exact ⟨rfl, hE1.trans hbw⟩

theorem rd_parts {w : World} {base : Nat} {v : Value} {a : ActP} {what : List UInt8} (h : w.ownsRow base 9 1 v (1 + what.length) ([.string (B a.name)] ++ textsV a what)) (hl : what.length ≤ 3) : RdS w v ((a.name :: textsP a what).map B) := by
  have e1 : ((a.name :: textsP a what).map B).length = 1 + what.length := by simp [textsP]; omega
  have e2 : ((a.name :: textsP a what).map B).map Value.string = [.string (B a.name)] ++ textsV a what := by simp [textsP, textsV]
  refine RdS.of_own (base := base) (e := 9) ?_ (by rw [e1]; omega)
  rw [e1, e2]
  exact h

theorem news_own {W W' : World} {base e g n cap : Nat} {xs : List Value} (h : W.ownsRow base e 1 (.slice (some ⟨g, 0, none⟩) n cap) n xs) (he : Ext W W') : ∀ (j : Nat) u, xs[j]? = some u → W'.cell? ((⟨g, 0, none⟩ : Addr).add j) = some u := by
  intro j u hj
  have hl : xs.length = n * 1 := h.1
  have hj2 := (List.getElem?_eq_some_iff.1 hj).1
  have h1 := h.cellAt j (by omega)
  rw [Addr.add_lit, Nat.zero_add]
  exact he.cell (h1.trans hj)

theorem texts_one (a : ActP) (what : List UInt8) : ∀ u ∈ textsV a what, u.oneCell' = true := by
  intro u hu
  obtain ⟨c, _, rfl⟩ := List.mem_map.1 hu
  rfl

theorem join_any (v : Value) (ps : List (List UInt8)) (w : World) (h : RdS w v (ps.map B)) (hne : ps ≠ []) (hlen : (joinP 32 ps).length ≤ 140737488355328) :
    Calls Tryz.prog 73 #[v, .string ⟨#[32]⟩] w fun e w' => e = .returned (.string (B (joinP 32 ps))) ∧ Ext w w' := by
  obtain ⟨bk, o, c, rfl, hc, hm, hcell⟩ := RdS.open_ h (by simpa using hne)
  have hl := Rd.len h
  have e1 : ((ps.map B).map fun x : ByteArray => x.data.toList) = ps := by
    rw [List.map_map]
    conv => rhs; rw [← List.map_id ps]
    exact List.map_congr_left fun x _ => toList_B x
  have e2 : (⟨#[32]⟩ : ByteArray).data.toList = [32] := rfl
  have h0 : bk < w.heap.size := by
    obtain ⟨x, xs, rfl⟩ := List.exists_cons_of_ne_nil hne
    exact World.block_lt_of_cell? w _ (hcell 0 (B x) rfl)
  refine (Tryz.strings_Join bk o c (ps.map B) ⟨#[32]⟩ w (fun j x hj => hcell j x hj) h0 hl hc (by rw [e1, e2, ← joinP_eq]; exact hlen)).mono ?_
  rintro e w' ⟨rfl, hb⟩
  rw [e1, e2, ← joinP_eq]
  exact ⟨rfl, hb⟩

theorem joinP_len (b : UInt8) : ∀ (ps : List (List UInt8)) (M : Nat), (∀ x ∈ ps, x.length ≤ M) → (joinP b ps).length ≤ (M + 1) * ps.length
  | [], M, _ => by simp [joinP]
  | [x], M, h => by have := h x (.head _); simp [joinP]; omega
  | x :: y :: r, M, h => by
    have h1 := h x (.head _)
    have h2 := joinP_len b (y :: r) M fun z hz => h z (.tail _ hz)
    rw [joinP, List.length_append, List.length_cons]
    simp only [List.length_cons] at h2 ⊢
    rw [show r.length + 1 + 1 = (r.length + 1) + 1 from rfl, Nat.mul_succ]
    omega

theorem texts_fit {a : ActP} (hf : a.fits) {what : List UInt8} : ∀ x ∈ a.name :: textsP a what, x.length ≤ 35184372088831 := by
  intro x hx
  have := hf.nm
  have := hf.p
  have := hf.q
  rcases List.mem_cons.1 hx with rfl | hx
  · assumption
  · obtain ⟨c, _, rfl⟩ := List.mem_map.1 hx
    rw [textP]
    split
    · assumption
    · split
      · assumption
      · split
        · have := Lib.itoa_length_le a.n hf.n0 hf.n1
          omega
        · have := Lib.itoa_length_le a.m hf.m0 hf.m1
          omega

/-- What line answers. -/
def LinePost (a : ActP) (w : World) (e : Ending) (w' : World) : Prop :=
  ∃ x, e = .returned (.tuple #[.string x, .bool (partsP a).isSome]) ∧ (∀ ps, partsP a = some ps → x = B (joinP 32 ps)) ∧ Ext w w'

set_option maxRecDepth 100000 in
set_option maxHeartbeats 8000000 in
theorem line_any (a : ActP) (hf : a.fits) (w : World) (hN : NumVars w) :
    Calls Tryz.prog 42 #[a.val] w (LinePost a w) := by
  rw [show a.val = .agg #[.string (B a.name), .string (B a.p), .string (B a.q), .int .i64 a.n, .int .i64 a.m] from rfl]
  have HN := Lib.hid hN
  clear hN
  go_enter Tryz.func42, Tryz.ntmps42
  go_upto_region 1 with (fail)
  have hX := Blk.new w 48 #[.string (B a.name), .string (B a.p), .string (B a.q), .int .i64 a.n, .int .i64 a.m]
  have hE1 := (Ext.refl w).alloc (.cells #[.string (B a.name), .string (B a.p), .string (B a.q), .int .i64 a.n, .int .i64 a.m] 48)
  obtain ⟨xb, hxb⟩ : ∃ xb, w.heap.size = xb := ⟨_, rfl⟩
  rw [hxb] at hX ⊢
  clear hxb
  generalize w.alloc (.cells #[.string (B a.name), .string (B a.p), .string (B a.q), .int .i64 a.n, .int .i64 a.m] 48) = W1 at hX hE1 ⊢
  have x0 := hX.cell 0 rfl
  have hLK := fun w' b h => look_run (w := w') (b := b) h a.name (Nat.le_trans hf.nm (by decide))
  obtain ⟨what, hwhat⟩ : ∃ what, (needsOf a.name).getD [] = what := ⟨_, rfl⟩
  obtain ⟨okb, hokb⟩ : ∃ okb, (needsOf a.name).isSome = okb := ⟨_, rfl⟩
  simp only [needV, hwhat, hokb] at hLK
  have Hwhat := Lib.hid hwhat
  have Hokb := Lib.hid hokb
  have hkinds : what.all needB = true ∧ what.length ≤ 3 := by
    rw [← hwhat]
    cases hn : needsOf a.name with
    | none => exact ⟨rfl, by decide⟩
    | some w => exact needs_all hn
  clear hwhat hokb
  go_region_held3 (fun w' => w'.cell? ⟨xb, 0, none⟩ = some (.string (B a.name)))
    (first | go_keep | exact hE7.cell x0)
    (first
      | (go_at_call 71; refine (needs_any _).mono ?_; rintro e W7 ⟨mb, rfl, hm7, hE7'⟩; have hE7 : Ext W1 W7 := Ext.trans (by exact (by repeat (first | exact Ext.refl _ | assumption | refine Ext.alloc ?_ _ | refine Ext.drew ?_ | refine Ext.drewN ?_ _ | refine Ext.setCell ?_ (by first | omega | (simp; done) | (simp; omega)) _ | refine Ext.trans ?_ (by assumption)))) hE7'; have hlk := hLK _ _ hm7))
  have hX7 := hX.ext hE7
  have hE8 := hE1.trans hE7
  clear hX hm7 hlk hE7 hE7' x0 hLK
  obtain ⟨⟨x0, _⟩, ⟨x1, _⟩, ⟨x2, _⟩, ⟨x3, _⟩, ⟨x4, _⟩⟩ := hX7.five
  have hS : ∀ W' : World, Ext W7 W' → W'.cell? ⟨xb, 0, none⟩ = some (.string (B a.name)) ∧ W'.cell? ⟨xb, 1, none⟩ = some (.string (B a.p)) ∧ W'.cell? ⟨xb, 2, none⟩ = some (.string (B a.q)) ∧ W'.cell? ⟨xb, 3, none⟩ = some (.int .i64 a.n) ∧ W'.cell? ⟨xb, 4, none⟩ = some (.int .i64 a.m) :=
    fun W' h => ⟨h.cell x0, h.cell x1, h.cell x2, h.cell x3, h.cell x4⟩
  have HS := Lib.hid hS
  clear hS
  obtain ⟨i0, hi, hz0, hz1, hz2⟩ := info_parts info_str
  go_upto_region 2 with (fail)
  go_cut [6] (fun v6 wx => RdS wx v6 ((a.name :: textsP a what).map B) ∧ Ext W7 wx)
  case first =>
    rcases what with _ | ⟨c, cs⟩
    · have HT := fun w' => texts_nil a w'
      go_region_held3 (fun w' => w'.cell? ⟨xb, 0, none⟩ = some (.string (B a.name)) ∧ w'.cell? ⟨xb, 1, none⟩ = some (.string (B a.p)) ∧ w'.cell? ⟨xb, 2, none⟩ = some (.string (B a.q)) ∧ w'.cell? ⟨xb, 3, none⟩ = some (.int .i64 a.n) ∧ w'.cell? ⟨xb, 4, none⟩ = some (.int .i64 a.m))
        (first | go_keep | exact HS.out _ (by exact (by repeat (first | exact Ext.refl _ | assumption | refine Ext.alloc ?_ _ | refine Ext.drew ?_ | refine Ext.drewN ?_ _ | refine Ext.setCell ?_ (by first | omega | (simp; done) | (simp; omega)) _ | refine Ext.trans ?_ (by assumption)))) | exact HS.out _ hE9)
        (first
          | (go_at_call 72; refine (HT _).mono ?_; rintro e W9 ⟨rfl, hE9'⟩; have hE9 : Ext W7 W9 := Ext.trans (by exact (by repeat (first | exact Ext.refl _ | assumption | refine Ext.alloc ?_ _ | refine Ext.drew ?_ | refine Ext.drewN ?_ _ | refine Ext.setCell ?_ (by first | omega | (simp; done) | (simp; omega)) _ | refine Ext.trans ?_ (by assumption)))) hE9')
          | (refine step_append_nil W9 rfl _ _ 74 rfl W7.heap.size 9 i0 1 Tryz.underlying74 hi _ 1 [.string (B a.name)] (by simp [Act.eval]) (own_ext (own_one W7 (.string (B a.name)) (Nat.le_refl W7.heap.size)) (Ext.trans ((Ext.refl _).drew) hE9')) (by simp [Act.eval]) ?_)
          | (refine step_append_nil (W9.alloc (.cells #[.string (B a.name)] 9)) rfl _ _ 74 rfl W7.heap.size 9 i0 1 Tryz.underlying74 hi _ 1 [.string (B a.name)] (by simp [Act.eval]) (own_one W9 (.string (B a.name)) hE9.size) (by simp [Act.eval]) ?_))
      all_goals (go_wp2 ; go_meet)
      all_goals first
        | exact ⟨rd_parts (base := W7.heap.size) (what := []) (own_ext (own_one W7 (.string (B a.name)) (Nat.le_refl W7.heap.size)) (Ext.trans ((Ext.refl _).drew) hE9')) (by decide), hE9⟩
        | exact ⟨rd_parts (base := W7.heap.size) (what := []) (own_one W9 (.string (B a.name)) hE9.size) (by decide), hE9.alloc _⟩
    · have hk3 : cs.length ≤ 2 := by have := hkinds.2; simp at this; omega
      go_region_held3 (fun w' => w'.cell? ⟨xb, 0, none⟩ = some (.string (B a.name)) ∧ w'.cell? ⟨xb, 1, none⟩ = some (.string (B a.p)) ∧ w'.cell? ⟨xb, 2, none⟩ = some (.string (B a.q)) ∧ w'.cell? ⟨xb, 3, none⟩ = some (.int .i64 a.n) ∧ w'.cell? ⟨xb, 4, none⟩ = some (.int .i64 a.m))
        (first | go_keep | exact HS.out _ (by exact (by repeat (first | exact Ext.refl _ | assumption | refine Ext.alloc ?_ _ | refine Ext.drew ?_ | refine Ext.drewN ?_ _ | refine Ext.setCell ?_ (by first | omega | (simp; done) | (simp; omega)) _ | refine Ext.trans ?_ (by assumption)))) | exact HS.out _ hE9 | exact HS.out _ hE10)
        (first
          | (go_at_call 72; refine (texts_any a hf (c :: cs) hkinds.1 hkinds.2 _ (HN.out.ext (Ext.trans hE8 (by exact (by repeat (first | exact Ext.refl _ | assumption | refine Ext.alloc ?_ _ | refine Ext.drew ?_ | refine Ext.drewN ?_ _ | refine Ext.setCell ?_ (by first | omega | (simp; done) | (simp; omega)) _ | refine Ext.trans ?_ (by assumption))))))).mono ?_; rintro e W9 ⟨v9, rfl, hown9, hE9'⟩; have hE9 : Ext W7 W9 := Ext.trans (by exact (by repeat (first | exact Ext.refl _ | assumption | refine Ext.alloc ?_ _ | refine Ext.drew ?_ | refine Ext.drewN ?_ _ | refine Ext.setCell ?_ (by first | omega | (simp; done) | (simp; omega)) _ | refine Ext.trans ?_ (by assumption)))) hE9'; obtain ⟨g9, c9, rfl, hg9, hl9⟩ := World.ownsRow.form hown9 (by simp))
          | (refine step_append W9 rfl _ _ 74 rfl W7.heap.size 9 i0 (.string ⟨#[]⟩) 1 16 Tryz.underlying74 hi hz0 hz1 hz2 rfl (by decide) _ 1 [.string (B a.name)] (by simp [Act.eval]) (own_ext (own_one W7 (.string (B a.name)) (Nat.le_refl W7.heap.size)) (Ext.trans ((Ext.refl _).drew) hE9')) ⟨g9, 0, none⟩ (cs.length + 1) c9 (textsV a (c :: cs)) (by simp [Act.eval]) (by simp [textsV]) (news_own hown9 (Ext.refl _)) (texts_one a _) (by unfold maxLen; omega) (by omega) hE9.size ?_; intro v10 W10 hown10 hgrow10; have hE10 : Ext W7 W10 := hE9.grown hgrow10 (by intro k hk; simp [Value.ownBlock] at hk; omega))
          | (refine step_append (W9.alloc (.cells #[.string (B a.name)] 9)) rfl _ _ 74 rfl W7.heap.size 9 i0 (.string ⟨#[]⟩) 1 16 Tryz.underlying74 hi hz0 hz1 hz2 rfl (by decide) _ 1 [.string (B a.name)] (by simp [Act.eval]) (own_one W9 (.string (B a.name)) hE9.size) ⟨g9, 0, none⟩ (cs.length + 1) c9 (textsV a (c :: cs)) (by simp [Act.eval]) (by simp [textsV]) (news_own hown9 ((Ext.refl _).alloc _)) (texts_one a _) (by unfold maxLen; omega) (by omega) (by have := hE9.size; simp; omega) ?_; intro v10 W10 hown10 hgrow10; have hE10 : Ext W7 W10 := (hE9.alloc _).grown hgrow10 (by intro k hk; simp [Value.ownBlock] at hk; have := hE9.size; omega)))
      all_goals (go_wp2 ; go_meet)
      all_goals exact ⟨rd_parts hown10 hkinds.2, hE10⟩
  case rest =>
    obtain ⟨hR6, hE9⟩ := hcut
    cases okb with
    | false =>
      have hnone : Hid (partsP a = none) := Lib.hid (by
        have := Hokb.out
        rw [partsP]
        cases hn : needsOf a.name with
        | none => rfl
        | some w => rw [hn] at this; cases this)
      go_wp2
      go_ret2
      exact ⟨⟨#[]⟩, by rw [hnone.out]; rfl, fun ps h => (by rw [hnone.out] at h; cases h), hE8.trans hE9⟩
    | true =>
      have hneed : Hid (needsOf a.name = some what) := Lib.hid (by
        have h1 := Hokb.out
        have h2 := Hwhat.out
        cases hn : needsOf a.name with
        | none => rw [hn] at h1; cases h1
        | some w => rw [hn] at h2; exact congrArg some h2)
      have hfit := texts_fit hf (what := what)
      have hlen : (joinP 32 (a.name :: textsP a what)).length ≤ 140737488355328 := by
        have h1 := joinP_len 32 _ _ hfit
        have h2 : (a.name :: textsP a what).length ≤ 4 := by have := hkinds.2; simp [textsP]; omega
        have h3 := Nat.mul_le_mul_left (35184372088831 + 1) h2
        omega
      have HO := of_any _ (a.name :: textsP a what) wc hR6 (by simp) (fun p hp => Nat.le_trans (hfit p hp) (by decide)) (HN.out.ext (hE8.trans hE9))
      have HJ := fun w' h => join_any _ (a.name :: textsP a what) w' (RdS.ext hR6 h) (by simp) hlen
      cases hof : ofP (a.name :: textsP a what) with
      | none =>
        rw [hof] at HO
        have hnone : Hid (partsP a = none) := Lib.hid (by simp only [partsP, hneed.out]; rw [hof, if_neg (by simp)])
        have HO' : Calls Tryz.prog 46 #[u6] wc fun e w' => e = .returned (.tuple #[.agg #[.string ⟨#[]⟩, .string ⟨#[]⟩, .string ⟨#[]⟩, .int .i64 0, .int .i64 0], .bool false]) ∧ Ext wc w' := HO
        clear HO hof
        go_upto_region 6 with (go_at_call 46; refine HO'.mono ?_; rintro e W11 ⟨rfl, hE11⟩)
        have hE12 := hE11.alloc (.cells #[.string ⟨#[]⟩, .string ⟨#[]⟩, .string ⟨#[]⟩, .int .i64 0, .int .i64 0] 48)
        obtain ⟨yb, hyb⟩ : ∃ yb, W11.heap.size = yb := ⟨_, rfl⟩
        rw [hyb]
        clear hyb
        generalize W11.alloc (.cells #[.string ⟨#[]⟩, .string ⟨#[]⟩, .string ⟨#[]⟩, .int .i64 0, .int .i64 0] 48) = W12 at hE12 ⊢
        clear x0 x1 x2 x3 x4 hX7
        have HJ' := HJ _ hE12.drew
        go_region_with (go_at_call 73; refine HJ'.mono ?_; rintro e W13 ⟨rfl, hE13'⟩)
        all_goals (go_wp2; go_ret2)
        all_goals exact ⟨_, by rw [hnone.out]; rfl, fun ps h => (by rw [hnone.out] at h; cases h), (hE8.trans hE9).trans (hE12.trans (Ext.trans ((Ext.refl _).drew) hE13'))⟩
      | some b =>
        rw [hof] at HO
        have HO' : Calls Tryz.prog 46 #[u6] wc fun e w' => e = .returned (.tuple #[.agg #[.string (B b.name), .string (B b.p), .string (B b.q), .int .i64 b.n, .int .i64 b.m], .bool true]) ∧ Ext wc w' := HO
        have hres : Hid ((partsP a).isSome = decide (a = b) ∧ ∀ ps, partsP a = some ps → ps = a.name :: textsP a what) := Lib.hid (by
          simp only [partsP, hneed.out]
          rw [hof]
          by_cases h : b = a
          · subst h
            rw [if_pos rfl]
            exact ⟨by simp, fun ps h => (Option.some.inj h).symm⟩
          · rw [if_neg (fun e => h (Option.some.inj e))]
            exact ⟨by simp [Ne.symm h], fun ps h => by cases h⟩)
        have heq := fun w => eql_act a b w
        clear HO hof
        go_upto_region 6 with (go_at_call 46; refine HO'.mono ?_; rintro e W11 ⟨rfl, hE11⟩)
        have hY := Blk.new W11 48 #[.string (B b.name), .string (B b.p), .string (B b.q), .int .i64 b.n, .int .i64 b.m]
        have hE12 := hE11.alloc (.cells #[.string (B b.name), .string (B b.p), .string (B b.q), .int .i64 b.n, .int .i64 b.m] 48)
        obtain ⟨yb, hyb⟩ : ∃ yb, W11.heap.size = yb := ⟨_, rfl⟩
        rw [hyb] at hY ⊢
        clear hyb
        generalize W11.alloc (.cells #[.string (B b.name), .string (B b.p), .string (B b.q), .int .i64 b.n, .int .i64 b.m] 48) = W12 at hE12 hY ⊢
        obtain ⟨⟨y0, _⟩, ⟨y1, _⟩, ⟨y2, _⟩, ⟨y3, _⟩, ⟨y4, _⟩⟩ := hY.five
        have hS2 : ∀ W' : World, Ext W12 W' → W'.cell? ⟨yb, 0, none⟩ = some (.string (B b.name)) ∧ W'.cell? ⟨yb, 1, none⟩ = some (.string (B b.p)) ∧ W'.cell? ⟨yb, 2, none⟩ = some (.string (B b.q)) ∧ W'.cell? ⟨yb, 3, none⟩ = some (.int .i64 b.n) ∧ W'.cell? ⟨yb, 4, none⟩ = some (.int .i64 b.m) ∧ W'.cell? ⟨xb, 0, none⟩ = some (.string (B a.name)) ∧ W'.cell? ⟨xb, 1, none⟩ = some (.string (B a.p)) ∧ W'.cell? ⟨xb, 2, none⟩ = some (.string (B a.q)) ∧ W'.cell? ⟨xb, 3, none⟩ = some (.int .i64 a.n) ∧ W'.cell? ⟨xb, 4, none⟩ = some (.int .i64 a.m) :=
          fun W' h => ⟨h.cell y0, h.cell y1, h.cell y2, h.cell y3, h.cell y4, HS.out W' (hE9.trans (hE12.trans h))⟩
        have HS2 := Lib.hid hS2
        clear hS2 y0 y1 y2 y3 y4 x0 x1 x2 x3 x4 hY hX7
        have hE12' := Lib.hid hE12
        have htest := HS2.out W12.drew (by exact (by repeat (first | exact Ext.refl _ | assumption | refine Ext.alloc ?_ _ | refine Ext.drew ?_ | refine Ext.drewN ?_ _ | refine Ext.setCell ?_ (by first | omega | (simp; done) | (simp; omega)) _ | refine Ext.trans ?_ (by assumption))))
        go_region_held3 (fun w' => w'.cell? ⟨yb, 0, none⟩ = some (.string (B b.name)) ∧ w'.cell? ⟨yb, 1, none⟩ = some (.string (B b.p)) ∧ w'.cell? ⟨yb, 2, none⟩ = some (.string (B b.q)) ∧ w'.cell? ⟨yb, 3, none⟩ = some (.int .i64 b.n) ∧ w'.cell? ⟨yb, 4, none⟩ = some (.int .i64 b.m) ∧ w'.cell? ⟨xb, 0, none⟩ = some (.string (B a.name)) ∧ w'.cell? ⟨xb, 1, none⟩ = some (.string (B a.p)) ∧ w'.cell? ⟨xb, 2, none⟩ = some (.string (B a.q)) ∧ w'.cell? ⟨xb, 3, none⟩ = some (.int .i64 a.n) ∧ w'.cell? ⟨xb, 4, none⟩ = some (.int .i64 a.m))
          (first | go_keep | exact HS2.out _ (by exact (by repeat (first | exact Ext.refl _ | assumption | refine Ext.alloc ?_ _ | refine Ext.drew ?_ | refine Ext.drewN ?_ _ | refine Ext.setCell ?_ (by first | omega | (simp; done) | (simp; omega)) _ | refine Ext.trans ?_ (by assumption)))) | exact HS2.out _ hE13)
          (first
            | (go_at_call 73; refine (HJ _ (by first | exact hE12 | exact hE12.drew | exact (by exact (by repeat (first | exact Ext.refl _ | assumption | refine Ext.alloc ?_ _ | refine Ext.drew ?_ | refine Ext.drewN ?_ _ | refine Ext.setCell ?_ (by first | omega | (simp; done) | (simp; omega)) _ | refine Ext.trans ?_ (by assumption)))))).mono ?_; rintro e W13 ⟨rfl, hE13'⟩; have hE13 : Ext W12 W13 := Ext.trans (by exact (by repeat (first | exact Ext.refl _ | assumption | refine Ext.alloc ?_ _ | refine Ext.drew ?_ | refine Ext.drewN ?_ _ | refine Ext.setCell ?_ (by first | omega | (simp; done) | (simp; omega)) _ | refine Ext.trans ?_ (by assumption)))) hE13'))
        go_wp2
        go_ret2
        exact ⟨_, by rw [hres.out.1]; rfl, fun ps h => by rw [hres.out.2 ps h], (hE8.trans hE9).trans (hE12'.out.trans hE13)⟩

set_option maxHeartbeats 4000000 in
/-- script.Right tells whether an act is right. -/
theorem Right_any (a : ActP) (hf : a.fits) (w : World) (hN : NumVars w) :
    Calls Tryz.prog 22 #[a.val] w fun e w' => e = .returned (.bool (partsP a).isSome) ∧ Ext w w' := by
  rw [show a.val = .agg #[.string (B a.name), .string (B a.p), .string (B a.q), .int .i64 a.n, .int .i64 a.m] from rfl]
  have hX := Blk.new w 48 #[.string (B a.name), .string (B a.p), .string (B a.q), .int .i64 a.n, .int .i64 a.m]
  have hE1 := (Ext.refl w).alloc (.cells #[.string (B a.name), .string (B a.p), .string (B a.q), .int .i64 a.n, .int .i64 a.m] 48)
  go_enter Tryz.func22, Tryz.ntmps22
  go_upto_region 1 with (fail)
  generalize w.alloc (.cells #[.string (B a.name), .string (B a.p), .string (B a.q), .int .i64 a.n, .int .i64 a.m] 48) = W1 at hX hE1 ⊢
  obtain ⟨⟨x0, _⟩, ⟨x1, _⟩, ⟨x2, _⟩, ⟨x3, _⟩, ⟨x4, _⟩⟩ := hX.five
  have HL := line_any a hf W1 (hN.ext hE1)
  clear hN
  go_wp2_with (go_at_call 42; refine HL.mono ?_; rintro e W2 ⟨x, rfl, _, hE2⟩)
  go_ret
  exact ⟨rfl, hE1.trans hE2⟩
end Go.Proofs.YtiomljaengonoaaGreatDoor
