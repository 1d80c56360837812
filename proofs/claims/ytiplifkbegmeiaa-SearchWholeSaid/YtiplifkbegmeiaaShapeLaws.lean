/-
The laws of layer 14: awake, ShapeChecks.
-/
import Derived.Test.YtiplifkbegmeiaaRefC
import Derived.Test.YtiplifkbegmeiaaCount
import Derived.Test.YtiplifkbegmeiaaPure09
import Derived.Test.YtiplifkbegmeiaaPure14
namespace Go.Proofs.Ytiplifkbegmeiaa
set_option linter.unusedVariables false
set_option linter.unusedSimpArgs false
open Go.RowKit

/-- The document's example. -/
def nd0 : Nd := ⟨true, [0], ⟨[], 0⟩, 0, 0⟩

theorem nd0_at {w : World} {a b : Nat} (ha : w.heap[a]? = some (.cells #[.int .i64 0] 3)) (hb : w.heap[b]? = some (.cells #[.bool true, .slice (some ⟨a, 0, none⟩) 1 1, .slice none 0 0, .int .i64 0, .int .i64 0, .int .i64 0] 58)) :
    kNd.slice.At [] w [.slice (some ⟨b, 0, none⟩) 1 1] [nd0] := by
  have hn : NdAt [] w (.slice (some ⟨a, 0, none⟩) 1 1) (.slice none 0 0) nd0 := ⟨one_at ha (by simp) (by decide), Kd.slice_nil _ _ _ none 0 (by simp [maxLen]), by decide, by decide, by decide⟩
  refine ⟨⟨some ⟨b, 0, none⟩, 1, rfl, Nat.le_refl _, by simp [maxLen], fun i y hy => ?_⟩⟩
  cases i with
  | zero =>
    simp at hy; subst hy
    refine ⟨b, 0, rfl, ⟨block_lt hb, by simp⟩, block_lt hb, _, hn.shut.out, fun j v hv => ?_⟩
    rw [cell_of_block hb]
    simpa [nd0, kNd] using hv
  | succ i => simp at hy

theorem check_same (l : List Nd) (n dim : Int) : checkNd l n dim = refCheck l n dim := by
  unfold checkNd refCheck
  by_cases hr : n < 0 ∨ n > 1048576 ∨ dim < 1 ∨ dim > 1024
  · rw [if_pos hr, if_pos hr]
  · rw [if_neg hr, if_neg hr, covers_ref n (by omega)]
    have h := whole_tree l dim
    generalize treeGo l dim 65 0 0 = t at *
    obtain ⟨tl, e, ok⟩ := t
    simp only at h ⊢
    generalize l.any (fun x => !bareB x dim) = o at *
    generalize wholeGo l 0 false [] 0 = wh at *
    cases o <;> cases wh <;> cases ok <;> simp at h ⊢ <;> first | done | omega | simp [h]

theorem few_go : ∀ (l : List Nd) (k n : Nat), fewGo k n l = true → (l = [] ∨ k + l.length ≤ 401) ∧ (leavesOf l).flatten.length ≤ 5000 - n + (if n ≤ 5000 then 0 else 0) ∧ ∀ x ∈ l, x.ids.length ≤ 5000
  | [], k, n, _ => by simp [leavesOf]
  | x :: l, k, n, h => by
    unfold fewGo at h
    split at h
    · simp at h
    · rename_i hc
      obtain ⟨h1, h2, h3⟩ := few_go l _ _ h
      have hc1 : n + x.ids.length + x.pl.normal.length ≤ 5000 := by omega
      refine ⟨.inr ?_, ?_, fun y hy => ?_⟩
      · rcases h1 with rfl | h1
        · simp; omega
        · simp; omega
      · simp only [ite_self, Nat.add_zero] at h2 ⊢
        unfold leavesOf at h2 ⊢
        rw [List.filter_cons]
        split
        · simp only [List.map_cons, List.flatten_cons, List.length_append]; omega
        · omega
      · rcases List.mem_cons.1 hy with rfl | hy
        · omega
        · exact h3 y hy

end Go.Proofs.Ytiplifkbegmeiaa
