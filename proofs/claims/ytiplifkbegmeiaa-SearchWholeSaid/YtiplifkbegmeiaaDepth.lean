/-
shape.Walk and shape.Depth.
-/
import Derived.Test.YtiplifkbegmeiaaWalk
import Derived.Test.YtiplifkbegmeiaaCount
namespace Go.Proofs.Ytiplifkbegmeiaa
set_option linter.unusedVariables false
set_option linter.unusedSimpArgs false
open Go.RowKit

theorem shape_walk_calls (v : Value) (l : List Nd) (M : List Nat) (w : World) (h : kNd.slice.At M w [v] l) (hM : ∀ k, k ∈ M → k < w.heap.size) (hs : l.length ≤ 1099511627776) :
    Calls Try.prog 69 #[v] w fun e w' => ∃ bx, e = .returned (.func (.func 85) #[] #[.pointer (some ⟨bx, 0, none⟩)]) ∧ Below w.heap.size w w' ∧
      ItFrom Try.prog w' M 85 #[.pointer (some ⟨bx, 0, none⟩)] (walkOf l) valPair := by
  have hit : ∀ W t, Upd [] w W → W.heap[w.heap.size]? = some (.cells #[v] t) → ItFrom Try.prog W M 85 #[.pointer (some ⟨w.heap.size, 0, none⟩)] (walkOf l) valPair := fun W t hu hb =>
    walk_it w.heap.size v t l W hb M (fun hm => by have := hM _ hm; omega) (h.upd hu (by simp) (fun k hk => .inl hk)) hs
  obtain ⟨ao, cap, rfl, _, _⟩ := Kd.slice_form h
  have HIT := Lib.hid hit
  have hb1 := below_alloc1 w
  have HB := Lib.hid hb1
  clear hit h hs hb1 hM
  go_enter Try.func69, Try.ntmps69
  go_wp2_with fail
  go_ret
  exact ⟨_, rfl, HB.out _, HIT.out _ _ (Upd.alloc [] w _) (Go.heap_alloc_new w _)⟩

def mostOf (l : List (Int × Int)) : Int := l.foldl (fun m x => max m x.2) 0
theorem mostOf_snoc (l : List (Int × Int)) (x : Int × Int) : mostOf (l ++ [x]) = max (mostOf l) x.2 := by simp [mostOf]

attribute [local go_sem] Oper.semAt_some

set_option maxHeartbeats 4000000 in
theorem shape_depth_calls (v : Value) (l : List Nd) (M : List Nat) (w : World) (h : kNd.slice.At M w [v] l) (hs : l.length ≤ 1099511627776) :
    Calls Try.prog 43 #[v] w fun e w' => e = .returned (.int .i64 (mostOf (walkOf l))) ∧ Below w.heap.size w w' := by
  obtain ⟨ao, cap, rfl, hl, hcap⟩ := Kd.slice_form h
  unfold maxLen at hcap
  obtain ⟨W0, hW0⟩ : ∃ W0, w.alloc (.cells #[.int .i64 0] 3) = W0 := ⟨_, rfl⟩
  have hb0 : Below w.heap.size w W0 := by rw [← hW0]; exact below_alloc1 w _
  have hr0 : W0.heap[w.heap.size]? = some (.cells #[.int .i64 0] 3) := by rw [← hW0]; exact Go.heap_alloc_new w _
  have hrl := block_lt hr0
  have HR0 := Lib.hid hr0
  have HB0 := Lib.hid hb0
  have hsz0 := hb0.size
  have HL := Lib.hid (shape_walk_calls _ l [w.heap.size] W0 (h.upd (Upd.ofBelow hb0 []) (by simp) (by simp)) (by simpa using hrl) hs)
  rw [← hW0] at HL
  have HW0 := Lib.hid hW0
  clear h hs hr0 hb0 hW0
  refine calls_of_wp_marks Try.func43 rfl ?_
  simp only [Try.ntmps43, List.size_toArray, List.length_cons, List.length_nil, Nat.reduceAdd, Nat.reduceSub, Array.replicate_succ, Array.replicate_zero, List.push_toArray, List.append_toArray, List.nil_append, List.cons_append]
  go_wp2_with fail
  refine HL.out.mono ?_
  rw [HW0.out]
  rintro e w1 ⟨bx, rfl, hb1, hit⟩
  have hz1 := hb1.size
  have HR1 := Lib.hid ((hb1.block _ hrl).trans HR0.out)
  have HB1 := Lib.hid (HB0.out.trans (hb1.mono hsz0))
  have HIT := Lib.hid hit
  clear hb1 hit
  go_wp2_with fail
  refine wp_range (xs := walkOf l) (val := valPair) [w.heap.size] rfl (enters_it Try.func85 rfl rfl) (fun W hu hsz => ?_)
    (fun pre M W => M = [w.heap.size] ∧ W.heap[w.heap.size]? = some (.cells #[.int .i64 (mostOf pre)] 3) ∧ Below w.heap.size w W)
    (fun c pre M W => False) ?_ ?_ ?_ ?_ ?_ ?_ ?_ ?_ ?_
  · exact HIT.out W _ _ (hu.mono (by simp)) (by omega) (fun k hk => .inl hk)
  · rintro pre M W W' S hS ⟨rfl, a3, a5⟩ hu
    exact ⟨rfl, upd_far hu a3 (fun h => (hS _ h).2 (by simp)), a5.trans (hu.belowB a5.size (fun k hk => by have := (hS k hk).1; omega))⟩
  · rintro c pre M W W' S hS h _
    exact h.elim
  · rintro M W W' x args hv hu
    exact hv
  · rintro W M x args hv
    rw [hv]
    rfl
  · exact ⟨rfl, HR1.out, HB1.out⟩
  · simp
    omega
  · rintro l0 pre x rest M W0' W args hxs ⟨rfl, a3, a5⟩ hv _ hl1 hl2 hl3 hM
    have hv : args = #[.int .i64 x.1, .int .i64 x.2] := hv
    subst hv
    have hc : W.cell? ⟨w.heap.size, 0, none⟩ = some (.int .i64 (mostOf pre)) := by rw [cell_of_block a3]; rfl
    have hf : W.frozen? ⟨w.heap.size, 0, none⟩ = false := frozen_of_block a3
    have A3 := Lib.hid a3
    have A5 := Lib.hid a5
    have hmx := mostOf_snoc pre x
    have HMX := Lib.hid hmx
    clear hxs a3 a5 hl3 hM hmx
    gi_wp2
    refine ⟨trivial, ?_⟩
    gi_wp2
    all_goals
      rw [HMX.out]
      first
        | rw [show max (mostOf pre) x.2 = mostOf pre by omega]
        | rw [show max (mostOf pre) x.2 = x.2 by omega]
      exact ⟨Upd.setCell (by simp) _, _, (fun k hk => ⟨by simp at hk; subst hk; exact block_lt A3.out, .inl (by simpa using hk)⟩) , rfl, by simpa using heap_setCell_same W w.heap.size 0 _ _ (.int .i64 _) A3.out, A5.out.setCell (Nat.le_refl _) _⟩
  · rintro M W ⟨rfl, a3, a5⟩ hM hK
    have hc : W.cell? ⟨w.heap.size, 0, none⟩ = some (.int .i64 (mostOf (walkOf l))) := by rw [cell_of_block a3]; rfl
    simp only [Exit.inBlock, Exit.then]
    go_at_K
    have HK := Lib.hid hK
    clear hK
    go_wp2_with fail
    refine end_marks HK.out (results_tmp rfl _ _ _) ⟨by first | rfl | simp, ?_⟩
    exact a5.trans ((Upd.putObj (S := [w1.heap.size]) (by simp) _).belowB (by have := a5.size; simpa using this) (by simp; omega))
  · rintro c pre M W hpre h
    exact h.elim

end Go.Proofs.Ytiplifkbegmeiaa
