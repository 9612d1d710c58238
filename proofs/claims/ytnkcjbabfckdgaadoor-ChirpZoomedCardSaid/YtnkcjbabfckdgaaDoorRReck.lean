/-
  The walk of RootsReckoned.
-/
import Derived.Test.YtnkcjbabfckdgaaDoorRLives
import Derived.Test.YtnkcjbabfckdgaaDoorRRef2
import Derived.Test.YtnkcjbabfckdgaaDoorErr
namespace Go.Proofs.YtnkcjbabfckdgaaDoor
open Go Go.RowKit Go.Fl Go.Roots
end Go.Proofs.YtnkcjbabfckdgaaDoor
