/-
marks.Covers.
-/
import Derived.Test.YtglghgjbnoldaaaIters
import Derived.Test.YtglghgjbnoldaaaMarks
namespace Go.Proofs.Ytglghgjbnoldaaa
set_option linter.unusedVariables false
set_option linter.unusedSimpArgs false
open Go.RowKit

/-- Covers: each of n in one list, once. -/
def coversGo (n : Nat) : List Int → List Int → Option (List Int)
  | S, [] => some S
  | S, x :: l => if addsTo n S x then coversGo n (S ++ [x]) l else none
theorem coversGo_append (n : Nat) : ∀ (S a b : List Int), coversGo n S (a ++ b) = (coversGo n S a).bind (fun S => coversGo n S b)
  | S, [], b => rfl
  | S, x :: a, b => by
    simp only [List.cons_append, coversGo]
    split
    · exact coversGo_append n _ a b
    · rfl
theorem coversGo_none {n : Nat} {S T : List Int} {x rest : List Int} {j : Nat} {y : Int} (h : coversGo n S (x.take j) = some T) (hy : x[j]? = some y) (ha : addsTo n T y = false) : coversGo n S (x ++ rest) = none := by
  have hj := (List.getElem?_eq_some_iff.1 hy)
  have e : x ++ rest = x.take j ++ (y :: (x.drop (j + 1) ++ rest)) := by
    rw [← List.cons_append, ← List.append_assoc]
    congr 1
    obtain ⟨h1, h2⟩ := hj
    rw [← h2, ← List.drop_eq_getElem_cons h1, List.take_append_drop]
  rw [e, coversGo_append, h]
  simp [coversGo, ha]
theorem coversGo_snoc {n : Nat} {S T : List Int} {x : List Int} {j : Nat} {y : Int} (h : coversGo n S (x.take j) = some T) (hy : x[j]? = some y) (ha : addsTo n T y = true) : coversGo n S (x.take (j + 1)) = some (T ++ [y]) := by
  rw [take_snoc' hy, coversGo_append, h]
  simp [coversGo, ha]
def covers (k : Int) (xs : List (List Int)) : Bool := match coversGo k.toNat [] xs.flatten with
  | some S => decide (S.length = k.toNat)
  | none => false

attribute [local go_sem] Oper.semAt_some

end Go.Proofs.Ytglghgjbnoldaaa
