/-
Trees as the document reads them: of PureWalk what ShapeSpoilt leans on. No program stands in this text.
-/
import Derived.Test.YtfkmkhojedfccaaPure14
import Derived.Test.YtfkmkhojedfccaaIters
namespace Go.Proofs.Ytfkmkhojedfccaa
set_option linter.unusedVariables false
set_option linter.unusedSimpArgs false
open Go.RowKit

theorem treeGo_ok {l : List Nd} {dim : Int} {f at_ d : Nat} {v : List (Int × Int)} {e : Nat} (h : treeGo l dim (f + 1) at_ d = (v, e, true)) :
    ∃ x, l[at_]? = some x ∧ ((x.leaf = true ∧ v = [((at_ : Int), (d : Int))] ∧ e = at_ + 1 ∧ leafOk x = true) ∨
      (x.leaf = false ∧ x.left = (at_ : Int) + 1 ∧ ∃ va mid vb, treeGo l dim f (at_ + 1) (d + 1) = (va, mid, true) ∧ x.right = (mid : Int) ∧ treeGo l dim f mid (d + 1) = (vb, e, true) ∧ v = ((at_ : Int), (d : Int)) :: (va ++ vb))) := by
  unfold treeGo at h
  cases hx : l[at_]? with
  | none => simp [hx] at h
  | some x =>
    refine ⟨x, rfl, ?_⟩
    simp only [hx] at h
    split at h
    · rename_i hl
      simp only [Prod.mk.injEq] at h
      exact .inl ⟨hl, h.1.symm, h.2.1.symm, h.2.2⟩
    · rename_i hl
      split at h
      · simp at h
      · rename_i h1
        split at h
        · simp at h
        · rename_i h2
          generalize ha : treeGo l dim f (at_ + 1) (d + 1) = a at *
          obtain ⟨va, mid, oka⟩ := a
          generalize hb : treeGo l dim f mid (d + 1) = b at *
          obtain ⟨vb, e', okb⟩ := b
          simp only [Prod.mk.injEq] at h h2
          have hoka : oka = true := by cases oka <;> simp_all
          have hr : x.right = (mid : Int) := by
            rcases Classical.em (x.right = (mid : Int)) with q | q
            · exact q
            · exact absurd (.inr q) h2
          obtain ⟨q1, q2, q3⟩ := h
          subst hoka q2 q3
          refine .inr ⟨by simpa using hl, ?_, va, mid, vb, rfl, hr, by rw [← hb], by rw [← q1]; simp⟩
          rcases Classical.em (x.left = (at_ : Int) + 1) with q | q
          · exact q
          · exact absurd (.inr (.inr q)) h1

theorem treeGo_lt (l : List Nd) (dim : Int) : ∀ (f at_ d : Nat) (v : List (Int × Int)) (e : Nat), treeGo l dim f at_ d = (v, e, true) → at_ < e ∧ e ≤ l.length
  | 0, at_, d, v, e, h => by simp [treeGo] at h
  | f + 1, at_, d, v, e, h => by
    obtain ⟨x, hx, ⟨_, _, rfl, _⟩ | ⟨_, _, va, mid, vb, ha, _, hb, _⟩⟩ := treeGo_ok h
    · have := (List.getElem?_eq_some_iff.1 hx).1; omega
    · have h1 := treeGo_lt l dim f _ _ _ _ ha
      have h2 := treeGo_lt l dim f _ _ _ _ hb
      omega

theorem treeGo_count (l : List Nd) (dim : Int) : ∀ (f at_ d : Nat) (v : List (Int × Int)) (e : Nat), treeGo l dim f at_ d = (v, e, true) → 2 * (leavesOf (l.take e)).length = 2 * (leavesOf (l.take at_)).length + (e - at_) + 1
  | 0, at_, d, v, e, h => by simp [treeGo] at h
  | f + 1, at_, d, v, e, h => by
    obtain ⟨x, hx, ⟨hl, rfl, rfl, _⟩ | ⟨hl, _, va, mid, vb, ha, hr, hb, rfl⟩⟩ := treeGo_ok h
    · rw [take_snoc' hx, leavesOf_snoc, if_pos hl]
      simp; omega
    · have h1 := treeGo_lt l dim f _ _ _ _ ha
      have h2 := treeGo_lt l dim f _ _ _ _ hb
      have k1 := treeGo_count l dim f _ _ _ _ ha
      have k2 := treeGo_count l dim f _ _ _ _ hb
      rw [take_snoc' hx, leavesOf_snoc, if_neg (by simp [hl])] at k1
      omega

end Go.Proofs.Ytfkmkhojedfccaa
