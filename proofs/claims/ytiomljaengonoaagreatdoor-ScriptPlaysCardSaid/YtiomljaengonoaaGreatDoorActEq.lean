/- Two acts compared. -/
import Derived.Test.YtiomljaengonoaaGreatDoorTexts
import Derived.Laws.StructEq
namespace Go.Proofs.YtiomljaengonoaaGreatDoor
open Go Go.RowKit Go.Shelf Go.Proofs

theorem B_eq (a b : List UInt8) : ((B a).toList = (B b).toList) = (a = b) := by
  rw [ByteArray.toList_eq, ByteArray.toList_eq, toList_B, toList_B]

theorem act_eq (a b : ActP) : decide (a = b) = (decide (a.name = b.name) && (decide (a.p = b.p) && (decide (a.q = b.q) && (decide (a.n = b.n) && decide (a.m = b.m))))) := by
  obtain ⟨a1, a2, a3, a4, a5⟩ := a
  obtain ⟨b1, b2, b3, b4, b5⟩ := b
  simp only [ActP.mk.injEq, Bool.decide_and]

theorem eql_act (a b : ActP) (w : World) : (binOp .eql 48 (.agg #[.string (B a.name), .string (B a.p), .string (B a.q), .int .i64 a.n, .int .i64 a.m]) (.agg #[.string (B b.name), .string (B b.p), .string (B b.q), .int .i64 b.n, .int .i64 b.m])).run Tryz.prog w = .ok (.bool (decide (a = b))) w := by
  rw [act_eq]
  simp [go_sem, Op.eqFields, Program.fieldsOf, Tryz.underlying48, Tryz.underlying9, Tryz.underlying3, part]
  simp only [B_eq]
  repeat' split
  all_goals simp_all
theorem neq_act (a b : ActP) (w : World) : (binOp .neq 48 (.agg #[.string (B a.name), .string (B a.p), .string (B a.q), .int .i64 a.n, .int .i64 a.m]) (.agg #[.string (B b.name), .string (B b.p), .string (B b.q), .int .i64 b.n, .int .i64 b.m])).run Tryz.prog w = .ok (.bool (!decide (a = b))) w := by
  rw [act_eq]
  simp [go_sem, Op.eqFields, Program.fieldsOf, Tryz.underlying48, Tryz.underlying9, Tryz.underlying3, part]
  simp only [B_eq]
  repeat' split
  all_goals simp_all
theorem neq_ref (a b : ActP) (w : World) : (binOp .neq 44 (.agg #[.string (B a.name), .string (B a.p), .string (B a.q), .int .i64 a.n, .int .i64 a.m]) (.agg #[.string (B b.name), .string (B b.p), .string (B b.q), .int .i64 b.n, .int .i64 b.m])).run Tryz.prog w = .ok (.bool (!decide (a = b))) w := by
  rw [act_eq]
  simp [go_sem, Op.eqFields, Program.fieldsOf, Tryz.underlying44, Tryz.underlying9, Tryz.underlying3, part]
  simp only [B_eq]
  repeat' split
  all_goals simp_all
end Go.Proofs.YtiomljaengonoaaGreatDoor
