/-
shape.Check.
-/
import Derived.Test.YtglghgjbnoldaaaCovers
namespace Go.Proofs.Ytglghgjbnoldaaa
set_option linter.unusedVariables false
set_option linter.unusedSimpArgs false
open Go.RowKit

def checkNd (l : List Nd) (n dim : Int) : Int :=
  if n < 0 ∨ n > 1048576 ∨ dim < 1 ∨ dim > 1024 then 1
  else if l.any (fun x => !bareB x dim) then 14
  else if wholeGo l 0 false [] 0 = false then 14
  else if covers n (leavesOf l) = false then 14
  else 0

end Go.Proofs.Ytglghgjbnoldaaa
