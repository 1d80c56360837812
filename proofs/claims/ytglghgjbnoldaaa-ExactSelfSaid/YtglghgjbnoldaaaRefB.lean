/-
The document's answers: ref09.Covers.
-/
import Derived.Test.YtglghgjbnoldaaaUnique
namespace Go.Proofs.Ytglghgjbnoldaaa
set_option linter.unusedVariables false
set_option linter.unusedSimpArgs false
open Go.RowKit

/-- ref09.Covers. -/
def coversRef (n : Int) (xs : List (List Int)) : Bool :=
  let u := uniq xs.flatten
  let n := max n 0
  if u.length ≠ xs.flatten.length ∨ (u.length : Int) ≠ n then false
  else n == 0 || (u[0]? == some 0 && u[n.toNat - 1]? == some (n - 1))

theorem flat_snoc {xs : List (List Int)} {k : Nat} {x : List Int} (hx : xs[k]? = some x) : (xs.take (k + 1)).flatten = (xs.take k).flatten ++ x := by
  rw [take_snoc' hx]; simp
theorem flat_len (xs : List (List Int)) (k : Nat) : (xs.take k).flatten.length ≤ xs.flatten.length := by
  conv => rhs; rw [← List.take_append_drop k xs, List.flatten_append, List.length_append]
  omega

theorem lists_at {α : Type} {K : Kd α} {M : List Nat} {w : World} {v : Value} {l : List (List α)} (h : K.slice.slice.At M w [v] l) {i : Nat} {x : List α} (hx : l[i]? = some x) :
    ∃ b o cap vi, v = .slice (some ⟨b, o, none⟩) l.length cap ∧ b < w.heap.size ∧ b ∉ M ∧ l.length ≤ cap ∧ cap ≤ maxLen ∧ w.cell? ⟨b, o + i, none⟩ = some vi ∧ K.slice.At M w [vi] x := by
  obtain ⟨b, o, cap, h1, h2, h3, h4, h5, cs', hr, hc⟩ := Kd.slice_get h hx
  have hl := K.slice.len hr.out
  obtain ⟨ao, cp, hcs, _⟩ := hr.out
  subst hcs
  refine ⟨b, o, cap, _, h1, h2, h3, h4, h5, ?_, hr⟩
  have := hc 0 _ rfl
  simpa [Kd.slice] using this

end Go.Proofs.Ytglghgjbnoldaaa
