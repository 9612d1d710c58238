/-
  The walks of the statements' own 'same' and 'lives'.
-/
import Derived.Test.YtnkcjbabfckdgaaDoorRAll
import Derived.Test.YtnkcjbabfckdgaaDoorSame
namespace Go.Proofs.YtnkcjbabfckdgaaDoor
open Go Go.RowKit Go.Fl Go.Roots
end Go.Proofs.YtnkcjbabfckdgaaDoor
