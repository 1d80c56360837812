/-
The laws of layer 14: awake, ShapeChecks.
-/
import Derived.Test.YtfkmkhojedfccaaRefC
import Derived.Test.YtfkmkhojedfccaaCount
import Derived.Test.YtfkmkhojedfccaaPure09
import Derived.Test.YtfkmkhojedfccaaPure14
namespace Go.Proofs.Ytfkmkhojedfccaa
set_option linter.unusedVariables false
set_option linter.unusedSimpArgs false
open Go.RowKit

/-- The document's example. -/
def nd0 : Nd := ⟨true, [0], ⟨[], 0⟩, 0, 0⟩

theorem nd0_at {w : World} {a b : Nat} (ha : w.heap[a]? = some (.cells #[.int .i64 0] 3)) (hb : w.heap[b]? = some (.cells #[.bool true, .slice (some ⟨a, 0, none⟩) 1 1, .slice none 0 0, .int .i64 0, .int .i64 0, .int .i64 0] 48)) :
    kNd.slice.At [] w [.slice (some ⟨b, 0, none⟩) 1 1] [nd0] := by
  have hn : NdAt [] w (.slice (some ⟨a, 0, none⟩) 1 1) (.slice none 0 0) nd0 := ⟨one_at ha (by simp) (by decide), Kd.slice_nil _ _ _ none 0 (by simp [maxLen]), by decide, by decide, by decide⟩
  refine ⟨⟨some ⟨b, 0, none⟩, 1, rfl, Nat.le_refl _, by simp [maxLen], fun i y hy => ?_⟩⟩
  cases i with
  | zero =>
    simp at hy; subst hy
    refine ⟨b, 0, rfl, ⟨block_lt hb, by simp⟩, block_lt hb, _, hn.shut.out, fun j v hv => ?_⟩
    rw [cell_of_block hb]
    simpa [nd0, kNd] using hv
  | succ i => simp at hy

set_option maxHeartbeats 1000000 in
theorem awake14_calls (w : World) : Calls Try.prog 17 #[] w fun e w' => e = .returned (.bool true) ∧ Below w.heap.size w w' := by
  obtain ⟨W1, hW1⟩ : ∃ W1, w.alloc (.cells #[.int .i64 0] 3) = W1 := ⟨_, rfl⟩
  obtain ⟨W2, hW2⟩ : ∃ W2, W1.alloc (.cells #[.bool true, .slice (some ⟨w.heap.size, 0, none⟩) 1 1, .slice none 0 0, .int .i64 0, .int .i64 0, .int .i64 0] 48) = W2 := ⟨_, rfl⟩
  have hu1 : Upd [] w W1 := by rw [← hW1]; exact Upd.alloc [] w _
  have hu2 : Upd [] W1 W2 := by rw [← hW2]; exact Upd.alloc [] W1 _
  have hz1 : W1.heap.size = w.heap.size + 1 := by rw [← hW1]; simp
  have ha := upd_far hu2 (show W1.heap[w.heap.size]? = some (.cells #[.int .i64 0] 3) by rw [← hW1]; exact Go.heap_alloc_new w _) (by simp)
  have hb : W2.heap[w.heap.size + 1]? = some (.cells #[.bool true, .slice (some ⟨w.heap.size, 0, none⟩) 1 1, .slice none 0 0, .int .i64 0, .int .i64 0, .int .i64 0] 48) := by
    rw [← hW2, ← hz1]; exact Go.heap_alloc_new W1 _
  have H := Lib.hid (nd0_at ha hb)
  have HB2 := Lib.hid ((hu1.trans hu2).below)
  have hs : ∀ x ∈ [nd0], x.ids.length ≤ 1099511627776 := by simp [nd0]
  have HCT := Lib.hid (shape_count_calls _ [nd0] [] W2 H.out hs)
  have e1 : (leavesOf [nd0]).length = 1 := rfl
  rw [e1] at HCT
  clear ha hb hu1 hu2 e1
  go_enter Try.func17, Try.ntmps17
  go_wp2_with fail
  refine HCT.out.mono ?_
  rintro e w3 ⟨rfl, hb3⟩
  have HB3 := Lib.hid (HB2.out.trans (hb3.mono HB2.out.size))
  have H3 := Lib.hid (H.out.below hb3)
  have HC1 := shape_check_calls _ [nd0] 1 1 [] w3 H3.out hs
  rw [show checkNd [nd0] 1 1 = 0 by decide] at HC1
  have HC1' := Lib.hid HC1
  clear hb3 HC1
  go_wp2_with fail
  refine HC1'.out.mono ?_
  rintro e w4 ⟨rfl, hb4⟩
  have HB4 := Lib.hid (HB3.out.trans (hb4.mono HB3.out.size))
  have H4 := Lib.hid (H3.out.below hb4)
  have HC2 := shape_check_calls _ [nd0] 2 1 [] w4 H4.out hs
  rw [show checkNd [nd0] 2 1 = 14 by decide] at HC2
  have HC2' := Lib.hid HC2
  clear hb4 HC2
  go_wp2_with fail
  refine HC2'.out.mono ?_
  rintro e w5 ⟨rfl, hb5⟩
  have HB5 := Lib.hid (HB4.out.trans (hb5.mono HB4.out.size))
  have H5 := Lib.hid (H4.out.below hb5)
  have HS := shape_same_calls _ _ [nd0] [nd0] [] w5 H5.out H5.out
  rw [show decide ([nd0] = [nd0]) = true by decide] at HS
  have HS' := Lib.hid HS
  clear hb5 HS
  go_wp2_with fail
  refine HS'.out.mono ?_
  rintro e w6 ⟨rfl, hb6⟩
  go_wp2_with fail
  go_ret
  exact ⟨rfl, HB5.out.trans (hb6.mono HB5.out.size)⟩

theorem check_same (l : List Nd) (n dim : Int) : checkNd l n dim = refCheck l n dim := by
  unfold checkNd refCheck
  by_cases hr : n < 0 ∨ n > 1048576 ∨ dim < 1 ∨ dim > 1024
  · rw [if_pos hr, if_pos hr]
  · rw [if_neg hr, if_neg hr, covers_ref n (by omega)]
    have h := whole_tree l dim
    generalize treeGo l dim 65 0 0 = t at *
    obtain ⟨tl, e, ok⟩ := t
    simp only at h ⊢
    generalize l.any (fun x => !bareB x dim) = o at *
    generalize wholeGo l 0 false [] 0 = wh at *
    cases o <;> cases wh <;> cases ok <;> simp at h ⊢ <;> first | done | omega | simp [h]

theorem few_go : ∀ (l : List Nd) (k n : Nat), fewGo k n l = true → (l = [] ∨ k + l.length ≤ 401) ∧ (leavesOf l).flatten.length ≤ 5000 - n + (if n ≤ 5000 then 0 else 0) ∧ ∀ x ∈ l, x.ids.length ≤ 5000
  | [], k, n, _ => by simp [leavesOf]
  | x :: l, k, n, h => by
    unfold fewGo at h
    split at h
    · simp at h
    · rename_i hc
      obtain ⟨h1, h2, h3⟩ := few_go l _ _ h
      have hc1 : n + x.ids.length + x.pl.normal.length ≤ 5000 := by omega
      refine ⟨.inr ?_, ?_, fun y hy => ?_⟩
      · rcases h1 with rfl | h1
        · simp; omega
        · simp; omega
      · simp only [ite_self, Nat.add_zero] at h2 ⊢
        unfold leavesOf at h2 ⊢
        rw [List.filter_cons]
        split
        · simp only [List.map_cons, List.flatten_cons, List.length_append]; omega
        · omega
      · rcases List.mem_cons.1 hy with rfl | hy
        · omega
        · exact h3 y hy

end Go.Proofs.Ytfkmkhojedfccaa
