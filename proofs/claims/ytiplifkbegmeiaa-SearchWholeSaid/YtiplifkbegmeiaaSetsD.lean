/-
Plain facts, picked out of other texts of ours.
-/
import Derived.Test.YtiplifkbegmeiaaUnique
import Derived.Test.YtiplifkbegmeiaaPure09
import Derived.Test.YtiplifkbegmeiaaRefB
namespace Go.Proofs.Ytiplifkbegmeiaa
set_option linter.unusedVariables false
set_option linter.unusedSimpArgs false
open Go.RowKit

theorem sorted_ext : ∀ (a b : List Int), a.Pairwise (· < ·) → b.Pairwise (· < ·) → (∀ x, x ∈ a ↔ x ∈ b) → a = b
  | [], [], _, _, _ => rfl
  | [], y :: b, _, _, h => absurd ((h y).2 (by simp)) (by simp)
  | x :: a, [], _, _, h => absurd ((h x).1 (by simp)) (by simp)
  | x :: a, y :: b, ha, hb, h => by
    rw [List.pairwise_cons] at ha hb
    have e : x = y := by
      have h1 := (h x).1 (by simp)
      have h2 := (h y).2 (by simp)
      rcases List.mem_cons.1 h1 with h1 | h1
      · exact h1
      · rcases List.mem_cons.1 h2 with h2 | h2
        · exact h2.symm
        · have := hb.1 x h1; have := ha.1 y h2; omega
    subst e
    rw [sorted_ext a b ha.2 hb.2 (fun z => ?_)]
    have := h z
    simp only [List.mem_cons] at this
    constructor
    · intro hz
      rcases this.1 (.inr hz) with e | e
      · have := ha.1 z hz; omega
      · exact e
    · intro hz
      rcases this.2 (.inr hz) with e | e
      · have := hb.1 z hz; omega
      · exact e
theorem uniq_sorted (l : List Int) : (uniq l).Pairwise (· < ·) := (uniq_props l [] (by simp)).1
theorem uniq_mem (l : List Int) (x : Int) : x ∈ uniq l ↔ x ∈ l := by
  have := (uniq_props l [] (by simp)).2.1 x
  simpa [uniq] using this
theorem uniq_uniq (l : List Int) : uniq (uniq l) = uniq l :=
  sorted_ext _ _ (uniq_sorted _) (uniq_sorted _) (fun x => uniq_mem (uniq l) x)
/-- 'append([]int{}, l...)'. -/
theorem copy_ints {l : List Int} {v : Value} {w : World} (H : (Kd.int .i64).slice.At [] w [v] l) (hlen : l.length ≤ 1099511627776) :
    ∃ v' w', (Builtin.append_ #[33, 33] 33 #[.slice (some ⟨w.heap.size, 0, none⟩) 0 0, v]).run Try.prog (w.alloc (.cells #[] 3)) = .ok v' w' ∧ Row (Kd.int .i64) [] 3 w.heap.size w' v' l ∧ Below w.heap.size w w' := by
  obtain ⟨i0, hi, hz0, hz1, hz2⟩ := info_parts A.infoInt
  have hu1 : Upd [] w (w.alloc (.cells #[] 3)) := Upd.alloc [] w _
  have hrow : Row (Kd.int .i64) [] 3 w.heap.size (w.alloc (.cells #[] 3)) (.slice (some ⟨w.heap.size, 0, none⟩) 0 0) [] := row_new (Go.heap_alloc_new w _) (Nat.le_refl _)
  have hob := hrow.ob_lt
  obtain ⟨v', w', hrun, hrow2, hu2, _⟩ := hrow.appendAt (P := Try.prog) (t := 33) (ty := 33) (u := v) (l2 := l) Try.underlying33 hi hz0 hz1 hz2 rfl (by decide)
    (H.upd hu1 (by simp) (fun k hk => by simp [ob, Value.ownBlock] at hk; exact .inr (by omega)))
    (by simp [maxLen]; omega) (by simp; omega) (by simp)
  exact ⟨v', w', hrun, by simpa using hrow2, hu1.below.trans (hu2.belowB (by simp) (fun k hk => (hob k hk).1))⟩

end Go.Proofs.Ytiplifkbegmeiaa
