/-
  The walks of the reference of layer 7: length, Cos, Sin.
-/
import Derived.Test.YtnkcjbabfckdgaaDoorRRef
namespace Go.Proofs.YtnkcjbabfckdgaaDoor
open Go Go.RowKit Go.Fl Go.Roots
end Go.Proofs.YtnkcjbabfckdgaaDoor
