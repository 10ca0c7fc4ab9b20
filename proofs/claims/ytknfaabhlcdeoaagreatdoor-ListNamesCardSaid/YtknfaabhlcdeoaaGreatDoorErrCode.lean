/- fail.Code answers the number of an error; condition: the cell of errors.errorType. -/
import Derived.Test.YtknfaabhlcdeoaaGreatDoorErrAs
import Derived.Test.YtknfaabhlcdeoaaGreatDoorBase
namespace Go.Proofs.YtknfaabhlcdeoaaGreatDoor
open Go.RowKit Go.Extern.Stop Go.Stop Go.Extern

/-- v is an error of the number c, wrapped n times. -/
def ErrN (w : World) : Nat → Value → Int → Prop
  | 0, v, c => v = .iface 102 (.int .i64 c)
  | n + 1, v, c => ∃ a x, v = .iface 181 (.pointer (some ⟨a, 0, none⟩)) ∧ w.cell? ⟨a, 2, none⟩ = some x ∧ ErrN w n x c

theorem nilAhead_Unwrap (a : Addr) (w : World) : (nilAhead 425 181 (.pointer (some a)) "Unwrap").run Tryz.prog w = .ok (some false) w := by kernel_rfl
theorem method_Unwrap (a : Addr) (w : World) : (Go.method 425 181 (.pointer (some a)) "Unwrap").run Tryz.prog w = .ok (287, .pointer (some a)) w := by kernel_rfl

theorem Unwrap_any (a : Nat) (x : Value) (w : World) (h : w.cell? ⟨a, 2, none⟩ = some x) :
    Calls Tryz.prog 287 #[.pointer (some ⟨a, 0, none⟩)] w fun e w' => e = .returned x ∧ w = w' := by
  go_enter Tryz.func287, Tryz.ntmps287
  go_wp2
  go_ret
  exact ⟨rfl, rfl⟩


theorem ErrN_ne {w : World} {n : Nat} {v : Value} {c : Int} (h : ErrN w n v c) : (∃ a, v = .iface 181 (.pointer (some ⟨a, 0, none⟩))) ∨ v = .iface 102 (.int .i64 c) := by
  cases n with
  | zero => exact .inr h
  | succ n => obtain ⟨a, _, rfl, _⟩ := h; exact .inl ⟨a, rfl⟩

set_option maxHeartbeats 4000000 in
theorem as_loop (n : Nat) (v : Value) (c : Int) (t : Addr) (b : Addr) (old : Value) (w : World) (he : ErrN w n v c)
    (ht0 : w.cell? t = some old) (hf0 : w.frozen? t = false) (hb : w.cell? b = some (.pointer (some t))) :
    Calls Tryz.prog 115 #[v, .iface 104 (.pointer (some t)), .agg #[.pointer (some ⟨4, 104, none⟩), .pointer (some b), .int .u64 150], .iface 222 (.agg #[.pointer (some ⟨4, 102, none⟩)])] w
      fun ev w' => ev = .returned (.bool true) ∧ w' = ((w.alloc (.cells #[.pointer (some ⟨4, 104, none⟩), .pointer (some b), .int .u64 150] 172)).alloc (.cells #[.int .i64 c] 102)).setCell t (.int .i64 c) := by
  have htl : t.block < w.heap.size := World.block_lt_of_cell? w t ht0
  have hbl : b.block < w.heap.size := World.block_lt_of_cell? w b hb
  have hb2 : (w.alloc (.cells #[.pointer (some ⟨4, 104, none⟩), .pointer (some b), .int .u64 150] 172)).cell? b = some (.pointer (some t)) := by
    rw [World.cell?_alloc_lt _ _ b hbl]; exact hb
  have el := rl_elemVT b t (w.alloc (.cells #[.pointer (some ⟨4, 104, none⟩), .pointer (some b), .int .u64 150] 172)) hb2
  have st := rl_setE t ⟨w.heap.size + 1, 0, none⟩ c old ((w.alloc (.cells #[.pointer (some ⟨4, 104, none⟩), .pointer (some b), .int .u64 150] 172)).alloc (.cells #[.int .i64 c] 102))
    (by rw [World.cell?_alloc_at _ _ _ _ (by simp)]; rfl)
    (by rw [World.cell?_alloc_lt _ _ t (by simp; omega), World.cell?_alloc_lt _ _ t htl]; exact ht0)
    (by rw [World.frozen?_alloc_old _ _ t (by simp; omega), World.frozen?_alloc_old _ _ t (Nat.ne_of_lt htl)]; exact hf0)
  clear hb2 hb ht0 hf0
  have h67 := @run_callFunc_extern Tryz.prog 112 _ (fun args => ReflectliteValue.unpack (args.getD 0 (.tuple #[]))) Tryz.func112 (by kernel_rfl) (by kernel_rfl) (by kernel_rfl) (by kernel_rfl)
  have hTO := @run_callFunc_extern Tryz.prog 173 _ ReflectliteType.typeOf Tryz.func173 (by kernel_rfl) (by kernel_rfl) (by kernel_rfl) (by kernel_rfl)
  have hAs := @run_callFunc_extern Tryz.prog 289 _ (ReflectliteType.relation "AssignableTo" ReflectliteType.assignableTo) Tryz.func289 (by kernel_rfl) (by kernel_rfl) (by kernel_rfl) (by kernel_rfl)
  have hEV := @run_callFunc_extern Tryz.prog 174 _ (ReflectliteValue.method (ReflectliteValue.valueError "reflectlite.Value.Elem" 0) ReflectliteValue.elem) Tryz.func174 (by kernel_rfl) (by kernel_rfl) (by kernel_rfl) (by kernel_rfl)
  have hSet := @run_callFunc_extern Tryz.prog 175 _ ReflectliteValue.set Tryz.func175 (by kernel_rfl) (by kernel_rfl) (by kernel_rfl) (by kernel_rfl)
  have f1 := rl_methodAssignableTo
  have f2 := rl_typeOfE
  have f3 := rl_typeOfF
  have f4 := rl_assignE
  have f5 := rl_assignF
  have f6 := rl_valueOfE
  have f7 := asn_As
  have f8 := asn_Unwrap
  have f9 := nilAhead_Unwrap
  have f10 := method_Unwrap
  go_enter Tryz.func115, Tryz.ntmps115
  go_wp2
  go_loopg [0] n (fun g v' wr => w.alloc (.cells #[.pointer (some ⟨4, 104, none⟩), .pointer (some b), .int .u64 150] 172) = wr ∧ ErrN w g v' c)
  case atStart => exact ⟨rfl, he⟩
  case round =>
    obtain ⟨rfl, hE⟩ := hrel
    cases gk with
    | zero =>
      obtain rfl := hE
      go_wp2
      go_ret
      exact ⟨rfl, rfl⟩
    | succ g =>
      obtain ⟨a, x, rfl, hx, hE'⟩ := hE
      have hx2 : (w.alloc (.cells #[.pointer (some ⟨4, 104, none⟩), .pointer (some b), .int .u64 150] 172)).cell? ⟨a, 2, none⟩ = some x := by
        rw [World.cell?_alloc_lt _ _ ⟨a, 2, none⟩ (World.block_lt_of_cell? w ⟨a, 2, none⟩ hx)]; exact hx
      have HE := Lib.hid hE'
      clear hx
      rcases ErrN_ne hE' with ⟨a', rfl⟩ | rfl
      · clear hE'
        go_wp2_with (go_at_call 287; refine (Unwrap_any _ _ _ hx2).mono ?_; rintro e w' ⟨rfl, rfl⟩)
        go_roundg g
        case rel => exact ⟨rfl, HE.out⟩
        case measure => omega
      · clear hE'
        go_wp2_with (go_at_call 287; refine (Unwrap_any _ _ _ hx2).mono ?_; rintro e w' ⟨rfl, rfl⟩)
        go_roundg g
        case rel => exact ⟨rfl, HE.out⟩
        case measure => omega

theorem ErrN_old : ∀ {n : Nat} {w : World} {v : Value} {c : Int} {w' : World}, ErrN w n v c → (∀ b x, w.cell? ⟨b, 2, none⟩ = some x → w'.cell? ⟨b, 2, none⟩ = some x) → ErrN w' n v c
  | 0, _, _, _, _, h, _ => h
  | _ + 1, _, _, _, _, ⟨a, x, e, hx, h⟩, hc => ⟨a, x, e, hc _ _ hx, ErrN_old h hc⟩
theorem ErrN.below {w w' : World} {n : Nat} {v : Value} {c : Int} (h : ErrN w n v c) (hb : Below w.heap.size w w') : ErrN w' n v c :=
  ErrN_old h fun b _ hx => (hb.cell (p := ⟨b, 2, none⟩) (World.block_lt_of_cell? w ⟨b, 2, none⟩ hx)).trans hx

set_option maxHeartbeats 4000000 in
theorem As_any (n : Nat) (v : Value) (c : Int) (t : Addr) (old : Value) (w : World) (he : ErrN w n v c)
    (hg : w.cell? ⟨0, 0, none⟩ = some (.iface 222 (.agg #[.pointer (some ⟨4, 29, none⟩)])))
    (ht0 : w.cell? t = some old) (hf0 : w.frozen? t = false) :
    Calls Tryz.prog 60 #[v, .iface 104 (.pointer (some t))] w
      fun ev w' => ev = .returned (.bool true) ∧ w' = ((((w.alloc (.cells #[.pointer (some t)] 104)).alloc (.cells #[.pointer (some ⟨4, 104, none⟩), .pointer (some ⟨w.heap.size, 0, none⟩), .int .u64 150] 172)).alloc (.cells #[.pointer (some ⟨4, 104, none⟩), .pointer (some ⟨w.heap.size, 0, none⟩), .int .u64 150] 172)).alloc (.cells #[.int .i64 c] 102)).setCell t (.int .i64 c) := by
  have htl : t.block < w.heap.size := World.block_lt_of_cell? w t ht0
  have hgl : 0 < w.heap.size := World.block_lt_of_cell? w ⟨0, 0, none⟩ hg
  obtain ⟨w2, hw2⟩ : ∃ w2, w2 = (w.alloc (.cells #[.pointer (some t)] 104)).alloc (.cells #[.pointer (some ⟨4, 104, none⟩), .pointer (some ⟨w.heap.size, 0, none⟩), .int .u64 150] 172) := ⟨_, rfl⟩
  have hB : Below w.heap.size w w2 := by rw [hw2]; exact ((Below.refl _ w).alloc (Nat.le_refl _) _).alloc (by simp) _
  have hg2 : w2.cell? ⟨0, 0, none⟩ = some (.iface 222 (.agg #[.pointer (some ⟨4, 29, none⟩)])) := (hB.cell (p := ⟨0, 0, none⟩) hgl).trans hg
  have ht2 : w2.cell? t = some old := by rw [hw2, World.cell?_alloc_lt _ _ t (by simp; omega), World.cell?_alloc_lt _ _ t htl]; exact ht0
  have hf2 : w2.frozen? t = false := by rw [hw2, World.frozen?_alloc_old _ _ t (by simp; omega), World.frozen?_alloc_old _ _ t (Nat.ne_of_lt htl)]; exact hf0
  have hp2 : w2.cell? ⟨w.heap.size, 0, none⟩ = some (.pointer (some t)) := by rw [hw2, World.cell?_alloc_lt _ _ ⟨w.heap.size, 0, none⟩ (by simp)]; simp
  have n8 := rl_isNilT ⟨w.heap.size, 0, none⟩ t w2 hp2
  have HL := as_loop n v c t ⟨w.heap.size, 0, none⟩ old w2 (he.below hB) ht2 hf2 hp2
  rw [hw2] at HL n8 hg2
  clear ht2 hf2 hp2 hB hw2 hg ht0 hf0
  have h67 := @run_callFunc_extern Tryz.prog 112 _ (fun args => ReflectliteValue.unpack (args.getD 0 (.tuple #[]))) Tryz.func112 (by kernel_rfl) (by kernel_rfl) (by kernel_rfl) (by kernel_rfl)
  have h68 := @run_callFunc_extern Tryz.prog 113 _ (ReflectliteValue.methodAny (ReflectliteValue.valueError "reflectlite.Value.Type" 0) (fun t _ _ _ => ReflectliteType.toType t)) Tryz.func113 (by kernel_rfl) (by kernel_rfl) (by kernel_rfl) (by kernel_rfl)
  have h69 := @run_callFunc_extern Tryz.prog 114 _ (ReflectliteValue.method (ReflectliteValue.valueError "reflectlite.Value.IsNil" 0) ReflectliteValue.isNil) Tryz.func114 (by kernel_rfl) (by kernel_rfl) (by kernel_rfl) (by kernel_rfl)
  have hK := @run_callFunc_extern Tryz.prog 279 _ (ReflectliteType.abiMethod fun t => do pure (.int .u8 (← Rtype.kind t))) Tryz.func279 (by kernel_rfl) (by kernel_rfl) (by kernel_rfl) (by kernel_rfl)
  have hE := @run_callFunc_extern Tryz.prog 291 _ (ReflectliteType.method ReflectliteType.elem) Tryz.func291 (by kernel_rfl) (by kernel_rfl) (by kernel_rfl) (by kernel_rfl)
  have hI := @run_callFunc_extern Tryz.prog 292 _ (ReflectliteType.relation "Implements" ReflectliteType.implements_) Tryz.func292 (by kernel_rfl) (by kernel_rfl) (by kernel_rfl) (by kernel_rfl)
  have f1 := rl_valueOfT
  have f2 := rl_typeT
  have f3 := rl_methodKind
  have f4 := rl_kindT
  have f5 := rl_kindE
  have f6 := rl_methodElem
  have f7 := rl_elemT
  have f8 := rl_methodImplements
  have f9 := rl_implements
  rcases ErrN_ne he with ⟨a', rfl⟩ | rfl
  all_goals
    clear he
    go_enter Tryz.func60, Tryz.ntmps60
    go_wp2_with (go_at_call 115; refine HL.mono ?_; rintro e w' ⟨rfl, rfl⟩)
    go_ret
    exact ⟨rfl, rfl⟩

theorem fail_At_c (op path : ByteArray) (c : Int) (w : World) :
    Calls Tryz.prog 63 #[.string op, .string path, .iface 102 (.int .i64 c)] w fun e w' => (∃ a, e = .returned (.iface 181 (.pointer (some ⟨a, 0, none⟩))) ∧ ErrN w' 1 (.iface 181 (.pointer (some ⟨a, 0, none⟩))) c) ∧ Ext w w' := by
  refine (fail_At_int op path c w).mono ?_
  rintro e w' ⟨rfl, rfl⟩
  exact ⟨⟨_, rfl, _, .iface 102 (.int .i64 c), rfl, by rw [World.cell?_alloc_at _ _ _ _ rfl]; rfl, rfl⟩, (Ext.refl w).alloc _⟩

/-- An error is wrapped once more. -/
theorem fail_At_w (op path : ByteArray) (n : Nat) (v : Value) (c : Int) (w : World) (he : ErrN w n v c) :
    Calls Tryz.prog 63 #[.string op, .string path, v] w fun e w' => (∃ a, e = .returned (.iface 181 (.pointer (some ⟨a, 0, none⟩))) ∧ ErrN w' (n + 1) (.iface 181 (.pointer (some ⟨a, 0, none⟩))) c) ∧ Ext w w' := by
  rcases ErrN_ne he with ⟨a, rfl⟩ | rfl
  · refine (fail_At_ptr op path _ w).mono ?_
    rintro e w' ⟨rfl, rfl⟩
    exact ⟨⟨_, rfl, _, _, rfl, by rw [World.cell?_alloc_at _ _ _ _ rfl]; rfl, he.below ((Ext.refl w).alloc _)⟩, (Ext.refl w).alloc _⟩
  · refine (fail_At_int op path c w).mono ?_
    rintro e w' ⟨rfl, rfl⟩
    exact ⟨⟨_, rfl, _, _, rfl, by rw [World.cell?_alloc_at _ _ _ _ rfl]; rfl, he.below ((Ext.refl w).alloc _)⟩, (Ext.refl w).alloc _⟩

theorem Code_nil (w : World) : Calls Tryz.prog 19 #[.nilIface] w fun e w' => e = .returned (.int .i64 0) ∧ Ext w w' := by
  go_enter Tryz.func19, Tryz.ntmps19
  go_wp2
  go_ret
  exact ⟨rfl, (Below.refl _ w).alloc (Nat.le_refl _) _⟩

set_option maxHeartbeats 4000000 in
theorem Code_err (n : Nat) (v : Value) (c : Int) (w : World) (he : ErrN w n v c)
    (hg : w.cell? ⟨0, 0, none⟩ = some (.iface 222 (.agg #[.pointer (some ⟨4, 29, none⟩)]))) :
    Calls Tryz.prog 19 #[v] w fun e w' => e = .returned (.int .i64 c) ∧ Ext w w' := by
  have hB : Below w.heap.size w (w.alloc (.cells #[.int .i64 0] 102)) := (Below.refl _ w).alloc (Nat.le_refl _) _
  have hgl : 0 < w.heap.size := World.block_lt_of_cell? w ⟨0, 0, none⟩ hg
  have HA := As_any n v c ⟨w.heap.size, 0, none⟩ (.int .i64 0) (w.alloc (.cells #[.int .i64 0] 102)) (he.below hB) ((hB.cell (p := ⟨0, 0, none⟩) hgl).trans hg) (by simp) (by simp)
  clear hB hg
  rcases ErrN_ne he with ⟨a', rfl⟩ | rfl
  all_goals
    clear he
    go_enter Tryz.func19, Tryz.ntmps19
    go_wp2_with (go_at_call 60; refine HA.mono ?_; rintro e w' ⟨rfl, rfl⟩)
    go_ret
    exact ⟨rfl, (by repeat (first | exact Ext.refl _ | assumption | refine Ext.alloc ?_ _ | refine Ext.drew ?_ | refine Ext.drewN ?_ _ | refine Ext.setCell ?_ (by first | omega | (simp; done) | (simp; omega)) _ | refine Ext.trans ?_ (by assumption)))⟩
end Go.Proofs.YtknfaabhlcdeoaaGreatDoor
