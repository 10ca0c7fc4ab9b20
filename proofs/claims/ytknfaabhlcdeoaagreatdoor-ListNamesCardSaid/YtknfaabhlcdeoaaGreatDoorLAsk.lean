/- look.ask: what lies at a place, from a floor on. -/
import Derived.Test.YtknfaabhlcdeoaaGreatDoorLFind
namespace Go.Proofs.YtknfaabhlcdeoaaGreatDoor
open Go Go.RowKit Go.Shelf Go.Proofs

/-- What is asked of the layers below a number, down to a floor. -/
def askR (s : List (List Ent)) (p : ByteArray) (f : Nat) : Nat → Nat → Bool → (Ent × Nat) × Bool
  | 0, fl, met => ((⟨p, 2, ⟨#[]⟩⟩, fl), met)
  | i + 1, fl, met =>
    if i < f then ((⟨p, 2, ⟨#[]⟩⟩, fl), met)
    else match findE (s[i]?.getD []) p with
      | none => askR s p f i fl met
      | some e =>
        if e.kind = 3 ∨ (e.kind = 1 ∧ met = true) then ((⟨p, 2, ⟨#[]⟩⟩, fl), met)
        else if e.kind = 1 then ((e, i), true)
        else if e.kind = 4 then ((⟨p, 2, ⟨#[]⟩⟩, i), true)
        else askR s p f i i true
def askE (s : List (List Ent)) (p : ByteArray) (f : Nat) : (Ent × Nat) × Bool := askR s p f s.length 0 false

def fndV (x : Ent × Nat) : Value := .agg #[.string x.1.path, .int .i64 x.1.kind, .string x.1.data, .int .i64 x.2]

theorem blk_other {w : World} {b : Nat} {t : TypeId} {cs : Array Value} (h : Blk w b t cs) {p : Addr} (hp : p.block ≠ b) (v : Value) : Blk (w.setCell p v) b t cs := by
  rw [Blk] at h ⊢
  show (w.heap.modify p.block _)[b]? = _
  rw [Array.getElem?_modify, if_neg hp, h]

def AskRel (s : List (List Ent)) (p : ByteArray) (f n : Nat) (w : World) (rb ob : Nat) (m i : Value) (wr : World) : Prop :=
  ∃ (k fl : Nat) (met : Bool) (j : Int), m = .bool met ∧ i = .int .i64 j ∧ j = (k : Int) - 1 ∧ k ≤ n ∧ Hid (askR s p f k fl met = askR s p f n 0 false) ∧ Ext w wr ∧
    Blk wr rb 111 #[.string ⟨#[]⟩, .int .i64 0, .string ⟨#[]⟩, .int .i64 0] ∧ Blk wr ob 111 #[.string p, .int .i64 2, .string ⟨#[]⟩, .int .i64 fl]

theorem ask_round {s : List (List Ent)} {p : ByteArray} {f n i fl rb ob : Nat} {met : Bool} {w wr : World} {j : Int} (hj : j = (i : Int) - 1) (hkn : i + 1 ≤ n) (hask : Hid (askR s p f i fl met = askR s p f n 0 false)) (hE : Ext w wr)
    (hR : Blk wr rb 111 #[.string ⟨#[]⟩, .int .i64 0, .string ⟨#[]⟩, .int .i64 0]) (hO : Blk wr ob 111 #[.string p, .int .i64 2, .string ⟨#[]⟩, .int .i64 fl]) :
    AskRel s p f n w rb ob (.bool met) (.int .i64 j) wr ∧ (intOf (.int .i64 j) + 1).toNat < (intOf (.int .i64 i) + 1).toNat :=
  ⟨⟨i, fl, met, j, rfl, rfl, hj, by omega, hask, hE, hR, hO⟩, by simp [intOf]; omega⟩

set_option maxHeartbeats 4000000 in
theorem ask_any (v : Value) (s : List (List Ent)) (p : ByteArray) (f : Nat) (w : World) (hv : RdK w v s) (hf : f ≤ 9223372036854775807) :
    Calls Tryz.prog 118 #[v, .string p, .int .i64 f] w fun e w' => e = .returned (.tuple #[fndV (askE s p f).1, .bool (askE s p f).2]) ∧ Ext w w' := by
  obtain ⟨n, hn⟩ : ∃ n, n = s.length := ⟨_, rfl⟩
  have Hn := Lib.hid hn
  have hlen := Rd.len hv
  obtain ⟨A, c, rfl, hc1, hc2, Hcell⟩ := RdK.form hv hn
  rw [← hn] at hlen
  clear hn hv
  go_enter Tryz.func118, Tryz.ntmps118
  go_wp2
  go_step3
  go_wp2
  go_step3
  go_wp2
  obtain ⟨W2, hW2⟩ : ∃ W2, (w.alloc (.cells #[.string ⟨#[]⟩, .int .i64 0, .string ⟨#[]⟩, .int .i64 0] 111)).alloc (.cells #[.string p, .int .i64 2, .string ⟨#[]⟩, .int .i64 0] 111) = W2 := ⟨_, rfl⟩
  have hE2 : Ext w W2 := by rw [← hW2]; exact ((Ext.refl w).alloc _).alloc _
  have hR : Blk W2 w.heap.size 111 #[.string ⟨#[]⟩, .int .i64 0, .string ⟨#[]⟩, .int .i64 0] := by rw [← hW2]; exact (Blk.new w _ _).ext ((Ext.refl _).alloc _)
  have hO : Blk W2 (w.heap.size + 1) 111 #[.string p, .int .i64 2, .string ⟨#[]⟩, .int .i64 0] := by
    have := Blk.new (w.alloc (.cells #[.string ⟨#[]⟩, .int .i64 0, .string ⟨#[]⟩, .int .i64 0] 111)) 111 #[.string p, .int .i64 2, .string ⟨#[]⟩, .int .i64 0]
    rw [World.size_alloc] at this
    rw [← hW2]; exact this
  rw [hW2]
  clear hW2
  obtain ⟨rb, hrb⟩ : ∃ rb, w.heap.size = rb := ⟨_, rfl⟩
  obtain ⟨ob, hob⟩ : ∃ ob, rb + 1 = ob := ⟨_, rfl⟩
  rw [hrb] at hR hO ⊢
  rw [hob] at hO ⊢
  have hne1 : rb ≠ ob := by omega
  have hle1 : w.heap.size ≤ rb := by omega
  have hle2 : w.heap.size ≤ ob := by omega
  have Hrb := Lib.hid hrb
  have Hob := Lib.hid hob
  clear hrb hob
  go_loopw [9, 10] (fun m i wr => AskRel s p f n w rb ob m i wr) (fun _ i _ => (intOf i + 1).toNat)
  case atStart => exact ⟨n, 0, false, (n : Int) - 1, rfl, rfl, rfl, Nat.le_refl _, Lib.hid rfl, hE2, hR, hO⟩
  case round =>
    obtain ⟨k, fl, met, j, rfl, rfl, hj, hkn, hask, hE, hR, hO⟩ := hrel
    by_cases hlt : f < k
    · obtain ⟨i, rfl⟩ : ∃ i, k = i + 1 := ⟨k - 1, by omega⟩
      obtain rfl : j = (i : Int) := by omega
      have hh : i < s.length := by have := Hn.out; omega
      have hin : i < n := by omega
      have hfi : (f : Int) ≤ i := by omega
      clear hj
      obtain ⟨b, o, rfl, hcell⟩ := Hcell.out (List.ne_nil_of_length_pos (by omega))
      obtain ⟨u, q0, hu⟩ := hcell i hh
      have g0 := hE.cell q0
      have HF := Find_any u s[i] p wr (hu.ext hE)
      have hstep : askR s p f (i + 1) fl met = match findE s[i] p with
        | none => askR s p f i fl met
        | some e => if e.kind = 3 ∨ (e.kind = 1 ∧ met = true) then ((⟨p, 2, ⟨#[]⟩⟩, fl), met) else if e.kind = 1 then ((e, i), true) else if e.kind = 4 then ((⟨p, 2, ⟨#[]⟩⟩, i), true) else askR s p f i i true := by
        rw [askR, if_neg (by omega), List.getElem?_eq_getElem hh]
        rfl
      clear q0 hu hcell
      obtain ⟨⟨a0, b0⟩, ⟨a1, b1⟩, ⟨a2, b2⟩, ⟨a3, b3⟩⟩ := hO.four
      rcases hfe : findE s[i] p with _ | x
      · rw [hfe] at hstep HF
        simp only [foundV] at HF
        have Hstep := Lib.hid hstep
        clear hstep hfe
        go_wp2_with (go_at_call 43; refine HF.mono ?_; rintro e W3 ⟨rfl, hE3⟩)
        exact ask_round rfl hkn (Lib.hid (by rw [← hask.out, Hstep.out])) (by have := hE.trans hE3; exact (by repeat (first | exact Ext.refl _ | assumption | refine Ext.alloc ?_ _ | refine Ext.drew ?_ | refine Ext.drewN ?_ _ | refine Ext.setCell ?_ (by first | omega | (simp; done) | (simp; omega)) _ | refine Ext.trans ?_ (by assumption)))) (hR.ext (by have := hE3; exact (by repeat (first | exact Ext.refl _ | assumption | refine Ext.alloc ?_ _ | refine Ext.drew ?_ | refine Ext.drewN ?_ _ | refine Ext.setCell ?_ (by first | omega | (simp; done) | (simp; omega)) _ | refine Ext.trans ?_ (by assumption))))) (hO.ext (by have := hE3; exact (by repeat (first | exact Ext.refl _ | assumption | refine Ext.alloc ?_ _ | refine Ext.drew ?_ | refine Ext.drewN ?_ _ | refine Ext.setCell ?_ (by first | omega | (simp; done) | (simp; omega)) _ | refine Ext.trans ?_ (by assumption)))))
      · rw [hfe] at hstep HF
        simp only [foundV] at HF
        have Hstep := Lib.hid hstep
        clear hstep hfe
        go_upto_region 6 with (go_at_call 43; refine HF.mono ?_; rintro e W3 ⟨rfl, hE3⟩)
        have hX := Blk.new W3 33 #[.string x.path, .int .i64 x.kind, .string x.data]
        have hE4 : Ext wr (W3.alloc (.cells #[.string x.path, .int .i64 x.kind, .string x.data] 33)) := by have := hE3; exact (by repeat (first | exact Ext.refl _ | assumption | refine Ext.alloc ?_ _ | refine Ext.drew ?_ | refine Ext.drewN ?_ _ | refine Ext.setCell ?_ (by first | omega | (simp; done) | (simp; omega)) _ | refine Ext.trans ?_ (by assumption)))
        have hlx : ob < W3.heap.size := Nat.lt_of_lt_of_le hO.lt hE3.size
        have hlx1 : rb < W3.heap.size := Nat.lt_of_lt_of_le hR.lt hE3.size
        have hlx2 : w.heap.size ≤ W3.heap.size := Nat.le_trans hE.size hE3.size
        obtain ⟨xb, hxb⟩ : ∃ xb, W3.heap.size = xb := ⟨_, rfl⟩
        rw [hxb] at hX hlx hlx1 hlx2 ⊢
        have Hxb := Lib.hid hxb
        clear hxb
        generalize W3.alloc (.cells #[.string x.path, .int .i64 x.kind, .string x.data] 33) = W4 at hX hE4 ⊢
        have hR4 := hR.ext hE4
        have hO4 := hO.ext hE4
        have hE5 := hE.trans hE4
        clear g0 a0 a1 a2 a3 b0 b1 b2 b3 hR hO
        obtain ⟨⟨a0, b0⟩, ⟨a1, b1⟩, ⟨a2, b2⟩, ⟨a3, b3⟩⟩ := hO4.four
        obtain ⟨⟨c0, d0⟩, ⟨c1, d1⟩, ⟨c2, d2⟩, ⟨c3, d3⟩⟩ := hR4.four
        obtain ⟨⟨x0, y0⟩, ⟨x1, y1⟩, ⟨x2, y2⟩⟩ := hX.three
        have hox : xb ≠ ob := by omega
        have hrx : xb ≠ rb := by omega
        by_cases h3 : x.kind = 3
        · have Hval : Hid (askR s p f n 0 false = ((⟨p, 2, ⟨#[]⟩⟩, fl), met)) := Lib.hid (by rw [← hask.out, Hstep.out]; exact if_pos (.inl h3))
          go_wp2
          try rw [Exit.noGoto_ret]
          refine bodyPost_ret (v := .tuple #[fndV (⟨p, 2, ⟨#[]⟩⟩, fl), .bool met]) (by simp [results, Tryz.f118, go_sem, fndV, c0, c1, c2, c3]) rfl ?_
          rw [askE, ← Hn.out, Hval.out]
          exact ⟨rfl, (by repeat (first | exact Ext.refl _ | assumption | refine Ext.alloc ?_ _ | refine Ext.drew ?_ | refine Ext.drewN ?_ _ | refine Ext.setCell ?_ (by first | omega | (simp; done) | (simp; omega)) _ | refine Ext.trans ?_ (by assumption)))⟩
        · by_cases h1 : x.kind = 1
          · rcases met with _ | _
            · have Hval : Hid (askR s p f n 0 false = ((x, i), true)) := Lib.hid (by rw [← hask.out, Hstep.out]; exact (if_neg (by simp [h3])).trans (if_pos h1))
              go_wp2
              try rw [Exit.noGoto_ret]
              refine bodyPost_ret (v := .tuple #[fndV (x, i), .bool true]) (by simp [results, Tryz.f118, go_sem, fndV, c0, c1, c2, c3, h1]) rfl ?_
              rw [askE, ← Hn.out, Hval.out]
              exact ⟨rfl, (by repeat (first | exact Ext.refl _ | assumption | refine Ext.alloc ?_ _ | refine Ext.drew ?_ | refine Ext.drewN ?_ _ | refine Ext.setCell ?_ (by first | omega | (simp; done) | (simp; omega)) _ | refine Ext.trans ?_ (by assumption)))⟩
            · have Hval : Hid (askR s p f n 0 false = ((⟨p, 2, ⟨#[]⟩⟩, fl), true)) := Lib.hid (by rw [← hask.out, Hstep.out]; exact if_pos (.inr ⟨h1, rfl⟩))
              go_wp2
              try rw [Exit.noGoto_ret]
              refine bodyPost_ret (v := .tuple #[fndV (⟨p, 2, ⟨#[]⟩⟩, fl), .bool true]) (by simp [results, Tryz.f118, go_sem, fndV, c0, c1, c2, c3]) rfl ?_
              rw [askE, ← Hn.out, Hval.out]
              exact ⟨rfl, (by repeat (first | exact Ext.refl _ | assumption | refine Ext.alloc ?_ _ | refine Ext.drew ?_ | refine Ext.drewN ?_ _ | refine Ext.setCell ?_ (by first | omega | (simp; done) | (simp; omega)) _ | refine Ext.trans ?_ (by assumption)))⟩
          · by_cases h4 : x.kind = 4
            · have Hval : Hid (askR s p f n 0 false = ((⟨p, 2, ⟨#[]⟩⟩, i), true)) := Lib.hid (by rw [← hask.out, Hstep.out]; exact (if_neg (by simp [h3, h1])).trans ((if_neg h1).trans (if_pos h4)))
              go_wp2
              try rw [Exit.noGoto_ret]
              refine bodyPost_ret (v := .tuple #[fndV (⟨p, 2, ⟨#[]⟩⟩, i), .bool true]) (by simp [results, Tryz.f118, go_sem, fndV, c0, c1, c2, c3]) rfl ?_
              rw [askE, ← Hn.out, Hval.out]
              exact ⟨rfl, (by repeat (first | exact Ext.refl _ | assumption | refine Ext.alloc ?_ _ | refine Ext.drew ?_ | refine Ext.drewN ?_ _ | refine Ext.setCell ?_ (by first | omega | (simp; done) | (simp; omega)) _ | refine Ext.trans ?_ (by assumption)))⟩
            · have Hnext : Hid (askR s p f i i true = askR s p f n 0 false) := Lib.hid (by rw [← hask.out, Hstep.out]; exact ((if_neg (by simp [h3, h1])).trans ((if_neg h1).trans (if_neg h4))).symm)
              have hO5 := hO4.set 3 (.int .i64 i)
              have hR5 := blk_other (t := 111) hR4 (show (⟨ob, 3, none⟩ : Addr).block ≠ rb from Ne.symm hne1) (.int .i64 i)
              clear c0 c1 c2 c3 d0 d1 d2 d3 a0 a1 a2 b0 b1 b2 x0 x2 y0 y1 y2
              go_wp2
              exact ask_round rfl hkn Hnext (by repeat (first | exact Ext.refl _ | assumption | refine Ext.alloc ?_ _ | refine Ext.drew ?_ | refine Ext.drewN ?_ _ | refine Ext.setCell ?_ (by first | omega | (simp; done) | (simp; omega)) _ | refine Ext.trans ?_ (by assumption))) hR5 hO5
    · have hfi : ¬ (f : Int) ≤ j := by omega
      have hval : askR s p f n 0 false = ((⟨p, 2, ⟨#[]⟩⟩, fl), met) := by
        rw [← hask.out]
        rcases k with _ | k
        · rfl
        · rw [askR, if_pos (by omega)]
      have Hval := Lib.hid hval
      have Hj := Lib.hid hj
      obtain ⟨⟨a0, b0⟩, ⟨a1, b1⟩, ⟨a2, b2⟩, ⟨a3, b3⟩⟩ := hO.four
      obtain ⟨⟨c0, d0⟩, ⟨c1, d1⟩, ⟨c2, d2⟩, ⟨c3, d3⟩⟩ := hR.four
      clear hval hj
      go_wp2
      refine bodyPost_ret (v := .tuple #[fndV (⟨p, 2, ⟨#[]⟩⟩, fl), .bool met]) (by simp [results, Tryz.f118, go_sem, fndV, c0, c1, c2, c3]) rfl ?_
      rw [askE, ← Hn.out, Hval.out]
      exact ⟨rfl, (by repeat (first | exact Ext.refl _ | assumption | refine Ext.alloc ?_ _ | refine Ext.drew ?_ | refine Ext.drewN ?_ _ | refine Ext.setCell ?_ (by first | omega | (simp; done) | (simp; omega)) _ | refine Ext.trans ?_ (by assumption)))⟩
end Go.Proofs.YtknfaabhlcdeoaaGreatDoor
