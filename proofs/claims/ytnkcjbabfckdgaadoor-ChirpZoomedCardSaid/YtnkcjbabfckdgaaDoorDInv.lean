/-
  The walks of cplx.Conj, cplx.Over and direct.Inverse.
-/
import Derived.Test.YtnkcjbabfckdgaaDoorDFwd
namespace Go.Proofs.YtnkcjbabfckdgaaDoor
open Go Go.RowKit Go.Fl Go.Roots

def conj (p : Nat × Nat) : Nat × Nat := (p.1, neg p.2)
def over (p : Nat × Nat) (n : Int) : Nat × Nat := (div p.1 (ofInt n), div p.2 (ofInt n))
def idft (f : Nat → Nat × Nat) (n : Nat) (k : Int) : Nat × Nat := over (conj (dft (fun j => conj (f j)) n k)) n

theorem Conj_any (a b : Nat) (w : World) :
    Calls Tryd.prog 33 #[.complex .f64 a b] w fun e w' => e = .returned (.complex .f64 a (Op.negFloat .f64 b)) ∧ w = w' := by
  go_enter Tryd.func33, Tryd.ntmps33
  go_wp2_with fail
  go_ret
  exact ⟨rfl, rfl⟩
end Go.Proofs.YtnkcjbabfckdgaaDoor
