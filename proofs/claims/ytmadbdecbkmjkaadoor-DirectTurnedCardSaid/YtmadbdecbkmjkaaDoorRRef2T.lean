/-
  The walks of the reference of layer 7: length, Cos, Sin.
-/
import Derived.Test.YtmadbdecbkmjkaaDoorRRef
namespace Go.Proofs.YtmadbdecbkmjkaaDoor
open Go Go.RowKit Go.Fl Go.Roots
end Go.Proofs.YtmadbdecbkmjkaaDoor
