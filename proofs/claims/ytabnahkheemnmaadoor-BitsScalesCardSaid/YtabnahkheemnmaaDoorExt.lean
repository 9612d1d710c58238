/-
  The runs of the functions without a Go body that the roots' statements reach: bits to float and back.
-/
import Derived.Test.YtabnahkheemnmaaDoorW
import Derived.Test.YtabnahkheemnmaaDoorProg
import Derived.Laws.Externs
namespace Go.Proofs.YtabnahkheemnmaaDoor
open Go Go.RowKit Go.Fl

theorem find_frombits : Extern.find Tryd.f43 = some Extern.MathFloatBits.float64frombits := by kernel_rfl
@[go_sem] theorem run_frombits (n : Int) (w : World) : (callFunc 43 #[.int .u64 n]).run Tryd.prog w = .ok (.value (.float .f64 n.toNat)) w := by
  rw [run_callFunc_extern Tryd.func43 (by kernel_rfl) (by kernel_rfl) (by kernel_rfl) find_frombits]
  rfl
theorem find_bits : Extern.find Tryd.f33 = some Extern.MathFloatBits.float64bits := by kernel_rfl
@[go_sem] theorem run_bits (b : Nat) (w : World) : (callFunc 33 #[.float .f64 b]).run Tryd.prog w = .ok (.value (.int .u64 b)) w := by
  rw [run_callFunc_extern Tryd.func33 (by kernel_rfl) (by kernel_rfl) (by kernel_rfl) find_bits]
  rfl
end Go.Proofs.YtabnahkheemnmaaDoor
