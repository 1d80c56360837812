/-
shape.Count.
-/
import Derived.Test.YtfkmkhojedfccaaCheck
namespace Go.Proofs.Ytfkmkhojedfccaa
set_option linter.unusedVariables false
set_option linter.unusedSimpArgs false
open Go.RowKit

attribute [local go_sem] Oper.semAt_some

set_option maxHeartbeats 4000000 in
theorem shape_count_calls (v : Value) (l : List Nd) (M : List Nat) (w : World) (h : kNd.slice.At M w [v] l) (hs : ∀ x ∈ l, x.ids.length ≤ 1099511627776) :
    Calls Try.prog 26 #[v] w fun e w' => e = .returned (.tuple #[.int .i64 l.length, .int .i64 (leavesOf l).length]) ∧ Below w.heap.size w w' := by
  obtain ⟨ao, cap, rfl, hl, hcap⟩ := Kd.slice_form h
  unfold maxLen at hcap
  have hlv : (leavesOf l).length ≤ l.length := by unfold leavesOf; rw [List.length_map]; exact List.length_filter_le _ _
  obtain ⟨W0, hW0⟩ : ∃ W0, w.alloc (.cells #[.int .i64 0] 3) = W0 := ⟨_, rfl⟩
  have hb0 : Below w.heap.size w W0 := by rw [← hW0]; exact below_alloc1 w _
  have hr0 : W0.heap[w.heap.size]? = some (.cells #[.int .i64 0] 3) := by rw [← hW0]; exact Go.heap_alloc_new w _
  have hrl := block_lt hr0
  have HR0 := Lib.hid hr0
  have HB0 := Lib.hid hb0
  have hsz0 := hb0.size
  have HL := Lib.hid (shape_leaves_calls _ l [w.heap.size] W0 (h.upd (Upd.ofBelow hb0 []) (by simp) (by simp)) (by simpa using hrl) hs)
  rw [← hW0] at HL
  have HW0 := Lib.hid hW0
  clear h hs hr0 hb0 hW0
  refine calls_of_wp_marks Try.func26 rfl ?_
  simp only [Try.ntmps26, List.size_toArray, List.length_cons, List.length_nil, Nat.reduceAdd, Nat.reduceSub, Array.replicate_succ, Array.replicate_zero, List.push_toArray, List.append_toArray, List.nil_append, List.cons_append]
  go_wp2_with fail
  refine HL.out.mono ?_
  rw [HW0.out]
  rintro e w1 ⟨bx, rfl, hb1, hit⟩
  have hz1 := hb1.size
  have HR1 := Lib.hid ((hb1.block _ hrl).trans HR0.out)
  have HB1 := Lib.hid (HB0.out.trans (hb1.mono hsz0))
  have HIT := Lib.hid hit
  clear hb1 hit
  go_wp2_with fail
  refine wp_range (xs := leavesOf l) (val := valInts) [w.heap.size] rfl (enters_it Try.func93 rfl rfl) (fun W hu hsz => ?_)
    (fun pre M W => M = [w.heap.size] ∧ W.heap[w.heap.size]? = some (.cells #[.int .i64 pre.length] 3) ∧ Below w.heap.size w W)
    (fun c pre M W => False) ?_ ?_ ?_ ?_ ?_ ?_ ?_ ?_ ?_
  · exact HIT.out W _ _ (hu.mono (by simp)) (by omega) (fun k hk => .inl hk)
  · rintro pre M W W' S hS ⟨rfl, a3, a5⟩ hu
    exact ⟨rfl, upd_far hu a3 (fun h => (hS _ h).2 (by simp)), a5.trans (hu.belowB a5.size (fun k hk => by have := (hS k hk).1; omega))⟩
  · rintro c pre M W W' S hS h _
    exact h.elim
  · rintro M W W' x args ⟨v, rfl, hv⟩ hu
    exact ⟨v, rfl, hv.upd hu (by simp) (fun k hk => .inl hk)⟩
  · rintro W M x args ⟨v, rfl, hv⟩
    rfl
  · exact ⟨rfl, HR1.out, HB1.out⟩
  · simp
    omega
  · rintro l0 pre x rest M W0' W args hxs ⟨rfl, a3, a5⟩ ⟨v, rfl, hv⟩ _ hl1 hl2 hl3 hM
    have hpl : pre.length < l.length := by rw [hxs] at hlv; simp at hlv; omega
    have hc : W.cell? ⟨w.heap.size, 0, none⟩ = some (.int .i64 pre.length) := by rw [cell_of_block a3]; rfl
    have hf : W.frozen? ⟨w.heap.size, 0, none⟩ = false := frozen_of_block a3
    have A3 := Lib.hid a3
    have A5 := Lib.hid a5
    clear hxs a3 a5 hv hl3 hM
    gi_wp2
    refine ⟨trivial, ?_⟩
    gi_wp2
    have h3 := heap_setCell_same W w.heap.size 0 _ _ (.int .i64 ((pre.length : Int) + 1)) A3.out
    exact ⟨Upd.setCell (by simp) _, _, (fun k hk => ⟨by simp at hk; subst hk; exact block_lt A3.out, .inl (by simpa using hk)⟩) , rfl, by simpa using h3, A5.out.setCell (Nat.le_refl _) _⟩
  · rintro M W ⟨rfl, a3, a5⟩ hM hK
    have hc : W.cell? ⟨w.heap.size, 0, none⟩ = some (.int .i64 (leavesOf l).length) := by rw [cell_of_block a3]; rfl
    simp only [Exit.inBlock, Exit.then]
    go_at_K
    have HK := Lib.hid hK
    clear hK
    go_wp2_with fail
    go_quiet (fail)
    go_wp2_with fail
    have hK2 : (W.drewN nq).heap[w1.heap.size]? = some (.deferred (some [])) := HK.out
    refine end_marks hK2 (results_tmp2 rfl _ _ _) ⟨by first | rfl | simp, ?_⟩
    exact (a5.trans ((Upd.drewN [] W nq).below.mono a5.size)).trans ((Upd.putObj (S := [w1.heap.size]) (by simp) _).belowB (by have := a5.size; simpa using this) (by simp; omega))
  · rintro c pre M W hpre h
    exact h.elim

end Go.Proofs.Ytfkmkhojedfccaa
