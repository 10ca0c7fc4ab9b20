/- fail.Is. -/
import Derived.Test.YtgemdfobkockaaaGreatDoorErrCode
namespace Go.Proofs.YtgemdfobkockaaaGreatDoor
open Go.RowKit Go.Extern.Stop Go.Stop Go.Extern Go

theorem asnF_Is (v : Value) (xT : TypeId) (w : World) : (Instr.typeAssert (.iface 163 v) xT 262 true).run Tryz.prog w = .ok (.tuple #[.nilIface, .bool false]) w := run_typeAssert_lacksB Tryz.underlying262 (by kernel_rfl) (by kernel_rfl) v xT w
theorem asnE_Is (v : Value) (xT : TypeId) (w : World) : (Instr.typeAssert (.iface 100 v) xT 262 true).run Tryz.prog w = .ok (.tuple #[.nilIface, .bool false]) w := run_typeAssert_lacksB Tryz.underlying262 (by kernel_rfl) (by kernel_rfl) v xT w
theorem asnE_Unwrap (v : Value) (xT : TypeId) (w : World) : (Instr.typeAssert (.iface 100 v) xT 209 true).run Tryz.prog w = .ok (.tuple #[.nilIface, .bool false]) w := run_typeAssert_lacksB Tryz.underlying209 (by kernel_rfl) (by kernel_rfl) v xT w
theorem asnE_Unwraps (v : Value) (xT : TypeId) (w : World) : (Instr.typeAssert (.iface 100 v) xT 211 true).run Tryz.prog w = .ok (.tuple #[.nilIface, .bool false]) w := run_typeAssert_lacksB Tryz.underlying211 (by kernel_rfl) (by kernel_rfl) v xT w
theorem eqlE (c c' : Int) (w : World) : (binOp .eql 27 (.iface 100 (.int .i64 c)) (.iface 100 (.int .i64 c'))).run Tryz.prog w = .ok (.bool (c == c')) w := by kernel_rfl
theorem eqlF (a : Addr) (c' : Int) (w : World) : (binOp .eql 27 (.iface 163 (.pointer (some a))) (.iface 100 (.int .i64 c'))).run Tryz.prog w = .ok (.bool false) w := by kernel_rfl
theorem rl_methodComparable (h : Value) (w : World) : (Go.method 407 201 (.agg #[h]) "Comparable").run Tryz.prog w = .ok (265, .agg #[h]) w := by kernel_rfl

theorem rl_comparableE (w : World) : ((ReflectliteType.method fun t => do Rtype.noPackHeld "Comparable" t; (fun i : TypeInfo => Value.bool i.comparable) <$> typeInfo t) #[.agg #[.pointer (some ⟨4, 100, none⟩)]]).run Tryz.prog w = .ok (.bool true) w := by kernel_rfl

set_option maxHeartbeats 4000000 in
theorem is_loop (n : Nat) (v : Value) (c c' : Int) (w : World) (he : ErrN w n v c) :
    Calls Tryz.prog 187 #[v, .iface 100 (.int .i64 c'), .bool true] w fun ev w' => ev = .returned (.bool (c == c')) ∧ w' = w := by
  have f1 := asnF_Is
  have f2 := asnE_Is
  have f3 := asnE_Unwrap
  have f4 := asnE_Unwraps
  have f5 := eqlE
  have f6 := eqlF
  have f8 := asn_Unwrap
  have f9 := nilAhead_Unwrap
  have f10 := method_Unwrap
  go_enter Tryz.func187, Tryz.ntmps187
  go_wp2
  go_loopg [0] n (fun g v' wr => w = wr ∧ ErrN w g v' c)
  case atStart => exact ⟨rfl, he⟩
  case round =>
    obtain ⟨rfl, hE⟩ := hrel
    cases gk with
    | zero =>
      obtain rfl := hE
      rcases hb : (c == c') with _ | _
      · go_wp2
        go_ret
        exact ⟨by rw [hb]; rfl, rfl⟩
      · go_wp2
        go_ret
        exact ⟨by rw [hb]; rfl, rfl⟩
    | succ g =>
      obtain ⟨a, x, rfl, hx, hE'⟩ := hE
      have HE := Lib.hid hE'
      rcases ErrN_ne hE' with ⟨a', rfl⟩ | rfl
      · clear hE'
        go_wp2_with (go_at_call 262; refine (Unwrap_any _ _ _ hx).mono ?_; rintro e w' ⟨rfl, rfl⟩)
        go_roundg g
        case rel => exact ⟨rfl, HE.out⟩
        case measure => omega
      · clear hE'
        go_wp2_with (go_at_call 262; refine (Unwrap_any _ _ _ hx).mono ?_; rintro e w' ⟨rfl, rfl⟩)
        go_roundg g
        case rel => exact ⟨rfl, HE.out⟩
        case measure => omega

set_option maxHeartbeats 4000000 in
set_option maxRecDepth 20000 in
theorem Is_any (n : Nat) (v : Value) (c c' : Int) (w : World) (he : ErrN w n v c) :
    Calls Tryz.prog 95 #[v, .int .i64 c'] w fun ev w' => ev = .returned (.bool (c == c')) ∧ w' = w := by
  have HI := is_loop n v c c' w he
  have f1 := rl_typeOfE
  have f2 := rl_methodComparable
  have f3 := rl_comparableE
  have hT := @run_callFunc_extern Tryz.prog 150 _ ReflectliteType.typeOf Tryz.func150 (by kernel_rfl) (by kernel_rfl) (by kernel_rfl) (by kernel_rfl)
  have hC := @run_callFunc_extern Tryz.prog 265 _ (ReflectliteType.method fun t => do Rtype.noPackHeld "Comparable" t; pure (.bool (← typeInfo t).comparable)) Tryz.func265 (by kernel_rfl) (by kernel_rfl) (by kernel_rfl) (by kernel_rfl)
  have HS : Calls Tryz.prog 138 #[v, .iface 100 (.int .i64 c')] w fun ev w' => ev = .returned (.bool (c == c')) ∧ w' = w := by
    rcases ErrN_ne he with ⟨a', rfl⟩ | rfl
    all_goals
      clear he
      go_enter Tryz.func138, Tryz.ntmps138
      go_wp2_with (go_at_call 187; refine HI.mono ?_; rintro e w' ⟨rfl, rfl⟩)
      go_ret
      exact ⟨rfl, rfl⟩
  clear HI f1 f2 f3 hT hC he
  go_enter Tryz.func95, Tryz.ntmps95
  go_wp2_with (go_at_call 138; refine HS.mono ?_; rintro e w' ⟨rfl, rfl⟩)
  go_ret
  exact ⟨rfl, rfl⟩
end Go.Proofs.YtgemdfobkockaaaGreatDoor
