/-
  The walk of direct's sum over At's closure.
-/
import Derived.Test.YtnkcjbabfckdgaaDoorDSum
namespace Go.Proofs.YtnkcjbabfckdgaaDoor
open Go Go.RowKit Go.Fl Go.Roots
end Go.Proofs.YtnkcjbabfckdgaaDoor
