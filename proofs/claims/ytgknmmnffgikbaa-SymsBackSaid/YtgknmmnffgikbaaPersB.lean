/-
  Byte slices in a region that draws its order.
-/
import Derived.Test.YtgknmmnffgikbaaByt
import Derived.Test.YtgknmmnffgikbaaPers
namespace Go.Proofs.Ytgknmmnffgikbaa
open Go.RowKit Go.Fd
def _root_.Go.Fd.Stab.bs (l : List UInt8) : Stab := ⟨fun v w => Bs w v l, fun _ _ _ h hb => h.mono hb⟩
def _root_.Go.Fd.Stab.ob (B : Nat) (l : List UInt8) : Stab := ⟨fun v w => OB w B v l, fun _ _ _ h hb => h.mono hb⟩
theorem convU64 (n : Nat) (w : World) : (convert 53 2 (.int .u64 n)).run Try.prog w = .ok (.int .i64 (wrap64 n)) w := by
  rw [← wrapEq]
  have h1 : Try.prog.underlying 53 = some (.int .u64) := by kernel_rfl
  have h2 : Try.prog.underlying 2 = some (.int .i64) := by kernel_rfl
  simp [convert, run_underlying h1, run_underlying h2, Conv.intToInt]
end Go.Proofs.Ytgknmmnffgikbaa
