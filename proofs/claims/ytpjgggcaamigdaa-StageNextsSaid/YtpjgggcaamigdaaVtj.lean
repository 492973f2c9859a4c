/-
  The laws' contracts.
-/
import Derived.Test.YtpjgggcaamigdaaVti
set_option maxRecDepth 100000
set_option linter.unusedVariables false
namespace Go.Proofs
open Go.Vc
namespace Ytpjgggcaamigdaa

def c3 : DCon where
  args := [LifeT, ViewT]
  out := .data [.bool]
  pre _ := True
  fn _ := (true, ())

end Ytpjgggcaamigdaa
end Go.Proofs
