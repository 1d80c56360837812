/-
The document's answers: ref11.Check, ref14.Few, ref14.Leaves.
-/
import Derived.Test.YtglghgjbnoldaaaCheck
namespace Go.Proofs.Ytglghgjbnoldaaa
set_option linter.unusedVariables false
set_option linter.unusedSimpArgs false
open Go.RowKit

/-- What fits into memory. -/
def Nd.small (x : Nd) : Prop := x.ids.length ≤ 70368744177664 ∧ x.pl.normal.length ≤ 70368744177664

/-- Few: are nodes few, and short? (k: their number so far; n: how many numbers so far) -/
def fewGo : Nat → Nat → List Nd → Bool
  | _, _, [] => true
  | k, n, x :: l => if 5000 < n + x.ids.length + x.pl.normal.length ∨ 400 < k then false else fewGo (k + 1) (n + x.ids.length + x.pl.normal.length) l
def few (l : List Nd) : Bool := fewGo 0 0 l

/-- A kind of one cell each: pushed from a built row. -/
theorem A.infoInts : (Try.prog.info? 24).map (fun i => (i.zero, i.size, i.bytes)) = some (some (.slice none 0 0), 1, 24) := by kernel_rfl

end Go.Proofs.Ytglghgjbnoldaaa
