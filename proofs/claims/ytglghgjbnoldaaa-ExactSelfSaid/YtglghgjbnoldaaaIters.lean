/-
shape's iterators: Leaves, Walk.
-/
import Derived.Test.YtglghgjbnoldaaaShape
import Derived.Test.YtglghgjbnoldaaaClone
import Derived.Test.YtglghgjbnoldaaaRange
namespace Go.Proofs.Ytglghgjbnoldaaa
set_option linter.unusedVariables false
set_option linter.unusedSimpArgs false
open Go.RowKit

def leavesOf (l : List Nd) : List (List Int) := (l.filter (·.leaf)).map (·.ids)
theorem leavesOf_snoc (l : List Nd) (x : Nd) : leavesOf (l ++ [x]) = if x.leaf then leavesOf l ++ [x.ids] else leavesOf l := by
  unfold leavesOf
  rw [List.filter_append, List.map_append]
  cases h : x.leaf <;> simp [h]

def valInts (W : World) (M : List Nat) (x : List Int) (args : Array Value) : Prop := ∃ v, args = #[v] ∧ (Kd.int .i64).slice.At M W [v] x

attribute [local go_sem] Oper.semAt_some

end Go.Proofs.Ytglghgjbnoldaaa
