/- fail.Code answers the number of an error; condition: the cell of errors.errorType. -/
import Derived.Test.YtiomljaengonoaaGreatDoorErrAs
import Derived.Test.YtiomljaengonoaaGreatDoorBase
namespace Go.Proofs.YtiomljaengonoaaGreatDoor
open Go.RowKit Go.Extern.Stop Go.Stop Go.Extern

/-- v is an error of the number c, wrapped n times. -/
def ErrN (w : World) : Nat → Value → Int → Prop
  | 0, v, c => v = .iface 87 (.int .i64 c)
  | n + 1, v, c => ∃ a x, v = .iface 131 (.pointer (some ⟨a, 0, none⟩)) ∧ w.cell? ⟨a, 2, none⟩ = some x ∧ ErrN w n x c

theorem nilAhead_Unwrap (a : Addr) (w : World) : (nilAhead 398 131 (.pointer (some a)) "Unwrap").run Tryz.prog w = .ok (some false) w := by kernel_rfl
theorem method_Unwrap (a : Addr) (w : World) : (Go.method 398 131 (.pointer (some a)) "Unwrap").run Tryz.prog w = .ok (224, .pointer (some a)) w := by kernel_rfl

theorem Unwrap_any (a : Nat) (x : Value) (w : World) (h : w.cell? ⟨a, 2, none⟩ = some x) :
    Calls Tryz.prog 224 #[.pointer (some ⟨a, 0, none⟩)] w fun e w' => e = .returned x ∧ w = w' := by
  go_enter Tryz.func224, Tryz.ntmps224
  go_wp2
  go_ret
  exact ⟨rfl, rfl⟩


theorem ErrN_ne {w : World} {n : Nat} {v : Value} {c : Int} (h : ErrN w n v c) : (∃ a, v = .iface 131 (.pointer (some ⟨a, 0, none⟩))) ∨ v = .iface 87 (.int .i64 c) := by
  cases n with
  | zero => exact .inr h
  | succ n => obtain ⟨a, _, rfl, _⟩ := h; exact .inl ⟨a, rfl⟩

set_option maxHeartbeats 4000000 in
theorem as_loop (n : Nat) (v : Value) (c : Int) (t : Addr) (b : Addr) (old : Value) (w : World) (he : ErrN w n v c)
    (ht0 : w.cell? t = some old) (hf0 : w.frozen? t = false) (hb : w.cell? b = some (.pointer (some t))) :
    Calls Tryz.prog 70 #[v, .iface 98 (.pointer (some t)), .agg #[.pointer (some ⟨9, 98, none⟩), .pointer (some b), .int .u64 150], .iface 172 (.agg #[.pointer (some ⟨9, 87, none⟩)])] w
      fun ev w' => ev = .returned (.bool true) ∧ w' = ((w.alloc (.cells #[.pointer (some ⟨9, 98, none⟩), .pointer (some b), .int .u64 150] 143)).alloc (.cells #[.int .i64 c] 87)).setCell t (.int .i64 c) := by
  have htl : t.block < w.heap.size := World.block_lt_of_cell? w t ht0
  have hbl : b.block < w.heap.size := World.block_lt_of_cell? w b hb
  have hb2 : (w.alloc (.cells #[.pointer (some ⟨9, 98, none⟩), .pointer (some b), .int .u64 150] 143)).cell? b = some (.pointer (some t)) := by
    rw [World.cell?_alloc_lt _ _ b hbl]; exact hb
  have el := rl_elemVT b t (w.alloc (.cells #[.pointer (some ⟨9, 98, none⟩), .pointer (some b), .int .u64 150] 143)) hb2
  have st := rl_setE t ⟨w.heap.size + 1, 0, none⟩ c old ((w.alloc (.cells #[.pointer (some ⟨9, 98, none⟩), .pointer (some b), .int .u64 150] 143)).alloc (.cells #[.int .i64 c] 87))
    (by rw [World.cell?_alloc_at _ _ _ _ (by simp)]; rfl)
    (by rw [World.cell?_alloc_lt _ _ t (by simp; omega), World.cell?_alloc_lt _ _ t htl]; exact ht0)
    (by rw [World.frozen?_alloc_old _ _ t (by simp; omega), World.frozen?_alloc_old _ _ t (Nat.ne_of_lt htl)]; exact hf0)
  clear hb2 hb ht0 hf0
  have h67 := @run_callFunc_extern Tryz.prog 67 _ (fun args => ReflectliteValue.unpack (args.getD 0 (.tuple #[]))) Tryz.func67 (by kernel_rfl) (by kernel_rfl) (by kernel_rfl) (by kernel_rfl)
  have hTO := @run_callFunc_extern Tryz.prog 96 _ ReflectliteType.typeOf Tryz.func96 (by kernel_rfl) (by kernel_rfl) (by kernel_rfl) (by kernel_rfl)
  have hAs := @run_callFunc_extern Tryz.prog 229 _ (ReflectliteType.relation "AssignableTo" ReflectliteType.assignableTo) Tryz.func229 (by kernel_rfl) (by kernel_rfl) (by kernel_rfl) (by kernel_rfl)
  have hEV := @run_callFunc_extern Tryz.prog 97 _ (ReflectliteValue.method (ReflectliteValue.valueError "reflectlite.Value.Elem" 0) ReflectliteValue.elem) Tryz.func97 (by kernel_rfl) (by kernel_rfl) (by kernel_rfl) (by kernel_rfl)
  have hSet := @run_callFunc_extern Tryz.prog 98 _ ReflectliteValue.set Tryz.func98 (by kernel_rfl) (by kernel_rfl) (by kernel_rfl) (by kernel_rfl)
  have f1 := rl_methodAssignableTo
  have f2 := rl_typeOfE
  have f3 := rl_typeOfF
  have f4 := rl_assignE
  have f5 := rl_assignF
  have f6 := rl_valueOfE
  have f7 := asn_As
  have f8 := asn_Unwrap
  have f9 := nilAhead_Unwrap
  have f10 := method_Unwrap
  go_enter Tryz.func70, Tryz.ntmps70
  go_wp2
  go_loopg [0] n (fun g v' wr => w.alloc (.cells #[.pointer (some ⟨9, 98, none⟩), .pointer (some b), .int .u64 150] 143) = wr ∧ ErrN w g v' c)
  case atStart => exact ⟨rfl, he⟩
  case round =>
    obtain ⟨rfl, hE⟩ := hrel
    cases gk with
    | zero =>
      obtain rfl := hE
      go_wp2
      go_ret
      exact ⟨rfl, rfl⟩
    | succ g =>
      obtain ⟨a, x, rfl, hx, hE'⟩ := hE
      have hx2 : (w.alloc (.cells #[.pointer (some ⟨9, 98, none⟩), .pointer (some b), .int .u64 150] 143)).cell? ⟨a, 2, none⟩ = some x := by
        rw [World.cell?_alloc_lt _ _ ⟨a, 2, none⟩ (World.block_lt_of_cell? w ⟨a, 2, none⟩ hx)]; exact hx
      have HE := Lib.hid hE'
      clear hx
      rcases ErrN_ne hE' with ⟨a', rfl⟩ | rfl
      · clear hE'
        go_wp2_with (go_at_call 224; refine (Unwrap_any _ _ _ hx2).mono ?_; rintro e w' ⟨rfl, rfl⟩)
        go_roundg g
        case rel => exact ⟨rfl, HE.out⟩
        case measure => omega
      · clear hE'
        go_wp2_with (go_at_call 224; refine (Unwrap_any _ _ _ hx2).mono ?_; rintro e w' ⟨rfl, rfl⟩)
        go_roundg g
        case rel => exact ⟨rfl, HE.out⟩
        case measure => omega

theorem ErrN_old : ∀ {n : Nat} {w : World} {v : Value} {c : Int} {w' : World}, ErrN w n v c → (∀ b x, w.cell? ⟨b, 2, none⟩ = some x → w'.cell? ⟨b, 2, none⟩ = some x) → ErrN w' n v c
  | 0, _, _, _, _, h, _ => h
  | _ + 1, _, _, _, _, ⟨a, x, e, hx, h⟩, hc => ⟨a, x, e, hc _ _ hx, ErrN_old h hc⟩
theorem ErrN.below {w w' : World} {n : Nat} {v : Value} {c : Int} (h : ErrN w n v c) (hb : Below w.heap.size w w') : ErrN w' n v c :=
  ErrN_old h fun b _ hx => (hb.cell (p := ⟨b, 2, none⟩) (World.block_lt_of_cell? w ⟨b, 2, none⟩ hx)).trans hx

set_option maxHeartbeats 4000000 in
theorem As_any (n : Nat) (v : Value) (c : Int) (t : Addr) (old : Value) (w : World) (he : ErrN w n v c)
    (hg : w.cell? ⟨0, 0, none⟩ = some (.iface 172 (.agg #[.pointer (some ⟨9, 26, none⟩)])))
    (ht0 : w.cell? t = some old) (hf0 : w.frozen? t = false) :
    Calls Tryz.prog 41 #[v, .iface 98 (.pointer (some t))] w
      fun ev w' => ev = .returned (.bool true) ∧ w' = ((((w.alloc (.cells #[.pointer (some t)] 98)).alloc (.cells #[.pointer (some ⟨9, 98, none⟩), .pointer (some ⟨w.heap.size, 0, none⟩), .int .u64 150] 143)).alloc (.cells #[.pointer (some ⟨9, 98, none⟩), .pointer (some ⟨w.heap.size, 0, none⟩), .int .u64 150] 143)).alloc (.cells #[.int .i64 c] 87)).setCell t (.int .i64 c) := by
  have htl : t.block < w.heap.size := World.block_lt_of_cell? w t ht0
  have hgl : 0 < w.heap.size := World.block_lt_of_cell? w ⟨0, 0, none⟩ hg
  obtain ⟨w2, hw2⟩ : ∃ w2, w2 = (w.alloc (.cells #[.pointer (some t)] 98)).alloc (.cells #[.pointer (some ⟨9, 98, none⟩), .pointer (some ⟨w.heap.size, 0, none⟩), .int .u64 150] 143) := ⟨_, rfl⟩
  have hB : Below w.heap.size w w2 := by rw [hw2]; exact ((Below.refl _ w).alloc (Nat.le_refl _) _).alloc (by simp) _
  have hg2 : w2.cell? ⟨0, 0, none⟩ = some (.iface 172 (.agg #[.pointer (some ⟨9, 26, none⟩)])) := (hB.cell (p := ⟨0, 0, none⟩) hgl).trans hg
  have ht2 : w2.cell? t = some old := by rw [hw2, World.cell?_alloc_lt _ _ t (by simp; omega), World.cell?_alloc_lt _ _ t htl]; exact ht0
  have hf2 : w2.frozen? t = false := by rw [hw2, World.frozen?_alloc_old _ _ t (by simp; omega), World.frozen?_alloc_old _ _ t (Nat.ne_of_lt htl)]; exact hf0
  have hp2 : w2.cell? ⟨w.heap.size, 0, none⟩ = some (.pointer (some t)) := by rw [hw2, World.cell?_alloc_lt _ _ ⟨w.heap.size, 0, none⟩ (by simp)]; simp
  have n8 := rl_isNilT ⟨w.heap.size, 0, none⟩ t w2 hp2
  have HL := as_loop n v c t ⟨w.heap.size, 0, none⟩ old w2 (he.below hB) ht2 hf2 hp2
  rw [hw2] at HL n8 hg2
  clear ht2 hf2 hp2 hB hw2 hg ht0 hf0
  have h67 := @run_callFunc_extern Tryz.prog 67 _ (fun args => ReflectliteValue.unpack (args.getD 0 (.tuple #[]))) Tryz.func67 (by kernel_rfl) (by kernel_rfl) (by kernel_rfl) (by kernel_rfl)
  have h68 := @run_callFunc_extern Tryz.prog 68 _ (ReflectliteValue.methodAny (ReflectliteValue.valueError "reflectlite.Value.Type" 0) (fun t _ _ _ => ReflectliteType.toType t)) Tryz.func68 (by kernel_rfl) (by kernel_rfl) (by kernel_rfl) (by kernel_rfl)
  have h69 := @run_callFunc_extern Tryz.prog 69 _ (ReflectliteValue.method (ReflectliteValue.valueError "reflectlite.Value.IsNil" 0) ReflectliteValue.isNil) Tryz.func69 (by kernel_rfl) (by kernel_rfl) (by kernel_rfl) (by kernel_rfl)
  have hK := @run_callFunc_extern Tryz.prog 218 _ (ReflectliteType.abiMethod fun t => do pure (.int .u8 (← Rtype.kind t))) Tryz.func218 (by kernel_rfl) (by kernel_rfl) (by kernel_rfl) (by kernel_rfl)
  have hE := @run_callFunc_extern Tryz.prog 231 _ (ReflectliteType.method ReflectliteType.elem) Tryz.func231 (by kernel_rfl) (by kernel_rfl) (by kernel_rfl) (by kernel_rfl)
  have hI := @run_callFunc_extern Tryz.prog 232 _ (ReflectliteType.relation "Implements" ReflectliteType.implements_) Tryz.func232 (by kernel_rfl) (by kernel_rfl) (by kernel_rfl) (by kernel_rfl)
  have f1 := rl_valueOfT
  have f2 := rl_typeT
  have f3 := rl_methodKind
  have f4 := rl_kindT
  have f5 := rl_kindE
  have f6 := rl_methodElem
  have f7 := rl_elemT
  have f8 := rl_methodImplements
  have f9 := rl_implements
  rcases ErrN_ne he with ⟨a', rfl⟩ | rfl
  all_goals
    clear he
    go_enter Tryz.func41, Tryz.ntmps41
    go_wp2_with (go_at_call 70; refine HL.mono ?_; rintro e w' ⟨rfl, rfl⟩)
    go_ret
    exact ⟨rfl, rfl⟩

theorem fail_At_c (op path : ByteArray) (c : Int) (w : World) :
    Calls Tryz.prog 37 #[.string op, .string path, .iface 87 (.int .i64 c)] w fun e w' => (∃ a, e = .returned (.iface 131 (.pointer (some ⟨a, 0, none⟩))) ∧ ErrN w' 1 (.iface 131 (.pointer (some ⟨a, 0, none⟩))) c) ∧ Ext w w' := by
  refine (fail_At_int op path c w).mono ?_
  rintro e w' ⟨rfl, rfl⟩
  exact ⟨⟨_, rfl, _, .iface 87 (.int .i64 c), rfl, by rw [World.cell?_alloc_at _ _ _ _ rfl]; rfl, rfl⟩, (Ext.refl w).alloc _⟩

/-- An error is wrapped once more. -/
theorem fail_At_w (op path : ByteArray) (n : Nat) (v : Value) (c : Int) (w : World) (he : ErrN w n v c) :
    Calls Tryz.prog 37 #[.string op, .string path, v] w fun e w' => (∃ a, e = .returned (.iface 131 (.pointer (some ⟨a, 0, none⟩))) ∧ ErrN w' (n + 1) (.iface 131 (.pointer (some ⟨a, 0, none⟩))) c) ∧ Ext w w' := by
  rcases ErrN_ne he with ⟨a, rfl⟩ | rfl
  · refine (fail_At_ptr op path _ w).mono ?_
    rintro e w' ⟨rfl, rfl⟩
    exact ⟨⟨_, rfl, _, _, rfl, by rw [World.cell?_alloc_at _ _ _ _ rfl]; rfl, he.below ((Ext.refl w).alloc _)⟩, (Ext.refl w).alloc _⟩
  · refine (fail_At_int op path c w).mono ?_
    rintro e w' ⟨rfl, rfl⟩
    exact ⟨⟨_, rfl, _, _, rfl, by rw [World.cell?_alloc_at _ _ _ _ rfl]; rfl, he.below ((Ext.refl w).alloc _)⟩, (Ext.refl w).alloc _⟩

theorem Code_nil (w : World) : Calls Tryz.prog 17 #[.nilIface] w fun e w' => e = .returned (.int .i64 0) ∧ Ext w w' := by
  go_enter Tryz.func17, Tryz.ntmps17
  go_wp2
  go_ret
  exact ⟨rfl, (Below.refl _ w).alloc (Nat.le_refl _) _⟩

set_option maxHeartbeats 4000000 in
theorem Code_err (n : Nat) (v : Value) (c : Int) (w : World) (he : ErrN w n v c)
    (hg : w.cell? ⟨0, 0, none⟩ = some (.iface 172 (.agg #[.pointer (some ⟨9, 26, none⟩)]))) :
    Calls Tryz.prog 17 #[v] w fun e w' => e = .returned (.int .i64 c) ∧ Ext w w' := by
  have hB : Below w.heap.size w (w.alloc (.cells #[.int .i64 0] 87)) := (Below.refl _ w).alloc (Nat.le_refl _) _
  have hgl : 0 < w.heap.size := World.block_lt_of_cell? w ⟨0, 0, none⟩ hg
  have HA := As_any n v c ⟨w.heap.size, 0, none⟩ (.int .i64 0) (w.alloc (.cells #[.int .i64 0] 87)) (he.below hB) ((hB.cell (p := ⟨0, 0, none⟩) hgl).trans hg) (by simp) (by simp)
  clear hB hg
  rcases ErrN_ne he with ⟨a', rfl⟩ | rfl
  all_goals
    clear he
    go_enter Tryz.func17, Tryz.ntmps17
    go_wp2_with (go_at_call 41; refine HA.mono ?_; rintro e w' ⟨rfl, rfl⟩)
    go_ret
    exact ⟨rfl, (by repeat (first | exact Ext.refl _ | assumption | refine Ext.alloc ?_ _ | refine Ext.drew ?_ | refine Ext.drewN ?_ _ | refine Ext.setCell ?_ (by first | omega | (simp; done) | (simp; omega)) _ | refine Ext.trans ?_ (by assumption)))⟩
end Go.Proofs.YtiomljaengonoaaGreatDoor
