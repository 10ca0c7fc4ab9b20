/- Errors of the program: 'fail.At' wraps an error in new memory; no condition. -/
import Derived.Test.YtknfaabhlcdeoaaGreatDoorProg
import Derived.WalkKit
import Derived.Below
import Derived.Lib.Hide
import Derived.WalkLawsBesides
import Derived.WalkSpells
import Derived.LaidEql
import Derived.Stop.Asserts
import Derived.RowKitTokens
namespace Go.Proofs.YtknfaabhlcdeoaaGreatDoor
open Go.RowKit

theorem fail_At_nil (op path : ByteArray) (w : World) :
    Calls Tryz.prog 63 #[.string op, .string path, .nilIface] w fun e w' => e = .returned .nilIface ∧ w = w' := by
  go_enter Tryz.func63, Tryz.ntmps63
  go_wp2
  go_ret
  exact ⟨rfl, rfl⟩

theorem fail_At_int (op path : ByteArray) (c : Int) (w : World) :
    Calls Tryz.prog 63 #[.string op, .string path, .iface 102 (.int .i64 c)] w fun e w' => e = .returned (.iface 181 (.pointer (some ⟨w.heap.size, 0, none⟩))) ∧ w' = w.alloc (.cells #[.string op, .string path, .iface 102 (.int .i64 c)] 183) := by
  go_enter Tryz.func63, Tryz.ntmps63
  go_wp2
  go_ret
  exact ⟨rfl, rfl⟩

theorem fail_At_ptr (op path : ByteArray) (x : Value) (w : World) :
    Calls Tryz.prog 63 #[.string op, .string path, .iface 181 x] w fun e w' => e = .returned (.iface 181 (.pointer (some ⟨w.heap.size, 0, none⟩))) ∧ w' = w.alloc (.cells #[.string op, .string path, .iface 181 x] 183) := by
  go_enter Tryz.func63, Tryz.ntmps63
  go_wp2
  go_ret
  exact ⟨rfl, rfl⟩
end Go.Proofs.YtknfaabhlcdeoaaGreatDoor
