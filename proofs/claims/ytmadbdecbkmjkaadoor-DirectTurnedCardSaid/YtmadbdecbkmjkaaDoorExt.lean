/-
  The runs of the functions without a Go body that the roots' statements reach: bits to float and back.
-/
import Derived.Test.YtmadbdecbkmjkaaDoorW
import Derived.Test.YtmadbdecbkmjkaaDoorProg
import Derived.Laws.Externs
namespace Go.Proofs.YtmadbdecbkmjkaaDoor
open Go Go.RowKit Go.Fl

theorem find_frombits : Extern.find Tryd.f34 = some Extern.MathFloatBits.float64frombits := by kernel_rfl
@[go_sem] theorem run_frombits (n : Int) (w : World) : (callFunc 34 #[.int .u64 n]).run Tryd.prog w = .ok (.value (.float .f64 n.toNat)) w := by
  rw [run_callFunc_extern Tryd.func34 (by kernel_rfl) (by kernel_rfl) (by kernel_rfl) find_frombits]
  rfl
theorem find_bits : Extern.find Tryd.f60 = some Extern.MathFloatBits.float64bits := by kernel_rfl
@[go_sem] theorem run_bits (b : Nat) (w : World) : (callFunc 60 #[.float .f64 b]).run Tryd.prog w = .ok (.value (.int .u64 b)) w := by
  rw [run_callFunc_extern Tryd.func60 (by kernel_rfl) (by kernel_rfl) (by kernel_rfl) find_bits]
  rfl
end Go.Proofs.YtmadbdecbkmjkaaDoor
