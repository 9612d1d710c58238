/-
  The runs of the functions without a Go body that the roots' statements reach: bits to float and back.
-/
import Derived.Test.YtijbkcjbkioefaaDoorW
import Derived.Test.YtijbkcjbkioefaaDoorProg
import Derived.Laws.Externs
namespace Go.Proofs.YtijbkcjbkioefaaDoor
open Go Go.RowKit Go.Fl

theorem find_frombits : Extern.find Tryd.f27 = some Extern.MathFloatBits.float64frombits := by kernel_rfl
@[go_sem] theorem run_frombits (n : Int) (w : World) : (callFunc 27 #[.int .u64 n]).run Tryd.prog w = .ok (.value (.float .f64 n.toNat)) w := by
  rw [run_callFunc_extern Tryd.func27 (by kernel_rfl) (by kernel_rfl) (by kernel_rfl) find_frombits]
  rfl
theorem find_bits : Extern.find Tryd.f35 = some Extern.MathFloatBits.float64bits := by kernel_rfl
@[go_sem] theorem run_bits (b : Nat) (w : World) : (callFunc 35 #[.float .f64 b]).run Tryd.prog w = .ok (.value (.int .u64 b)) w := by
  rw [run_callFunc_extern Tryd.func35 (by kernel_rfl) (by kernel_rfl) (by kernel_rfl) find_bits]
  rfl
end Go.Proofs.YtijbkcjbkioefaaDoor
