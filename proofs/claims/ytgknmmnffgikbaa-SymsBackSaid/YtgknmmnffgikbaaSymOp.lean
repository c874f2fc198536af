/-
  Operations on records in a region that draws its order.
-/
import Derived.Test.YtgknmmnffgikbaaSym5
import Derived.Test.YtgknmmnffgikbaaPersL
import Derived.Test.YtgknmmnffgikbaaPersB
namespace Go.Proofs.Ytgknmmnffgikbaa
open Go.RowKit Go.Fd

theorem add_i64 {P : Program} {w : World} {t : TypeId} {x y : Operand} {z c : Int} (h1 : -9223372036854775808 ≤ z + c) (h2 : z + c < 9223372036854775808) :
    (do eqGuard .add t x y (.int .i64 z) (.int .i64 c); binOp .add t (.int .i64 z) (.int .i64 c) : Sem Value).run P w = .ok (.int .i64 (z + c)) w := by
  simp [eqGuard, binOp, Op.intArith, IntKind.wrap, IntKind.bits, IntKind.signed]
  omega

theorem convI64 (n : Nat) (w : World) (h : IntKind.i64.wrap (n : Int) = (n : Int)) : (convert 53 3 (.int .u64 n)).run Try.prog w = .ok (.int .i64 n) w := by
  have h1 : Try.prog.underlying 53 = some (.int .u64) := by kernel_rfl
  have h2 : Try.prog.underlying 3 = some (.int .i64) := by kernel_rfl
  simp [convert, run_underlying h1, run_underlying h2, Conv.intToInt, h]

theorem made_new {w0 w : World} {t : TypeId} {cs : Array Value} (h : w0.heap.size ≤ w.heap.size) : (Stab.made w0.heap.size t cs.size).R (.pointer (some ⟨w.heap.size, 0, none⟩)) (w.alloc (.cells cs t)) ∧ Below w.heap.size w (w.alloc (.cells cs t)) :=
  ⟨⟨w.heap.size, cs, rfl, h, heap_alloc_last w _, rfl⟩, below_alloc w _⟩

theorem run_allocRela {a : Act} {w : World} {d : Option Tmp} {ty : TypeId} {pos : String} {aft : Array Edge} {g : Option (Nat × Bool)} :
    (execOp a.eval ⟨d, .alloc 84, ty, pos, aft, g⟩).run Try.prog w = .ok (.value (.pointer (some ⟨w.heap.size, 0, none⟩))) (w.alloc (.cells #[.int .u64 0, .int .i64 0, .int .i64 0, .int .i64 0] 84)) := by
  kernel_rfl

theorem build_rela {a : Act} {w : World} {d : Option Tmp} {ty : TypeId} {pos : String} {aft : Array Edge} {g : Option (Nat × Bool)} {x0 x1 x2 x3 : Operand} {u0 u1 u2 u3 : Int}
    (e0 : a.eval x0 = .int .u64 u0) (e1 : a.eval x1 = .int .i64 u1) (e2 : a.eval x2 = .int .i64 u2) (e3 : a.eval x3 = .int .i64 u3) :
    (execOp a.eval ⟨d, .build 84 #[(0, x0), (1, x1), (2, x2), (3, x3)], ty, pos, aft, g⟩).run Try.prog w = .ok (.value (.agg #[.int .u64 u0, .int .i64 u1, .int .i64 u2, .int .i64 u3])) w := by
  simp only [execOp, List.map_toArray, List.map_cons, List.map_nil, e0, e1, e2, e3]
  kernel_rfl
end Go.Proofs.Ytgknmmnffgikbaa
