/-
slices.AppendSeq, slices.Collect of numbers.
-/
import Derived.Test.YtiplifkbegmeiaaRefSet
import Derived.Test.YtiplifkbegmeiaaEnds
import Derived.Test.YtiplifkbegmeiaaWalk
namespace Go.Proofs.Ytiplifkbegmeiaa
set_option linter.unusedVariables false
set_option linter.unusedSimpArgs false
open Go.RowKit

attribute [local go_sem] Oper.semAt_some

set_option maxHeartbeats 4000000 in
set_option maxRecDepth 100000 in
theorem appendSeq_int_calls (gf : FuncId) (lb : Array Value) (xs : List Int) (w : World) (eg : ∀ args w, (callFunc gf args).run Try.prog w = .ok (.enter gf args) w)
    (N : List Nat) (hit : ItFrom Try.prog w N gf lb xs valInt) (hwf : ∀ x ∈ xs, (Lit.int .i64 x).wf = true) (hlen : xs.length ≤ 1099511627776) :
    Calls Try.prog 55 #[.slice none 0 0, .func (.func gf) #[] lb] w fun e w' => ∃ v', e = .returned v' ∧ Below w.heap.size w w' ∧ Row (Kd.int .i64) [] 3 w.heap.size w' v' xs := by
  obtain ⟨W0, hW0⟩ : ∃ W0, w.alloc (.cells #[.slice none 0 0] 33) = W0 := ⟨_, rfl⟩
  have hu0 : Upd [] w W0 := by rw [← hW0]; exact Upd.alloc [] w _
  have hr0 : W0.heap[w.heap.size]? = some (.cells #[.slice none 0 0] 33) := by rw [← hW0]; exact Go.heap_alloc_new w _
  have hz0 : W0.heap.size = w.heap.size + 1 := by rw [← hW0]; simp
  have HIT := Lib.hid hit
  have EG := Lib.hid eg
  have HWF := Lib.hid hwf
  have HU0 := Lib.hid hu0
  have HR0 := Lib.hid hr0
  clear hit eg hwf hu0 hr0
  refine calls_of_wp_marks Try.func55 rfl ?_
  simp only [Try.ntmps55, List.size_toArray, List.length_cons, List.length_nil, Nat.reduceAdd, Nat.reduceSub, Array.replicate_succ, Array.replicate_zero, List.push_toArray, List.append_toArray, List.nil_append, List.cons_append]
  go_wp2_with fail
  clear hW0
  refine wp_range (xs := xs) (val := valInt) [w.heap.size] rfl EG.out (fun W hu hsz => ?_)
    (fun pre M W => ∃ v', M = w.heap.size :: ob v' ∧ W.heap[w.heap.size]? = some (.cells #[v'] 33) ∧ Row (Kd.int .i64) [] 3 W0.heap.size W v' pre ∧ Upd [w.heap.size] W0 W)
    (fun c pre M W => False) ?_ ?_ ?_ ?_ ?_ ?_ ?_ ?_ ?_
  · exact HIT.out W _ _ ((HU0.out.trans hu).mono (by simp)) (by omega) (fun k hk => .inr (by simp at hk; omega))
  · rintro pre M W W' S0 hS0 ⟨v', rfl, a3, a4, a5⟩ hu
    exact ⟨v', rfl, upd_far hu a3 (fun h => (hS0 _ h).2 (by simp)), (a4.int_any (M' := S0)).upd hu (fun k hk => hk) (fun k hk h => (hS0 k h).2 (by simp [hk])) (by simp), a5.trans' hu (fun k hk => .inr (hS0 k hk).1)⟩
  · rintro c pre M W W' S0 hS0 h _
    exact h.elim
  · rintro M W W' x args hv hu
    exact hv
  · rintro W M x args hv
    rw [hv]
    rfl
  · exact ⟨_, rfl, HR0.out, Row.nil _ _ _ _ _, Upd.refl _ _⟩
  · simp
    omega
  · rintro l0 pre y rest M W0' W args hxs ⟨v', rfl, a3, a4, a5⟩ hv _ hl1 hl2 hl3 hM
    have hv : args = #[.int .i64 y] := hv
    subst hv
    have hyw : (Lit.int .i64 y).wf = true := HWF.out y (by rw [hxs]; simp)
    have hpre : pre.length < xs.length := by rw [hxs]; simp
    obtain ⟨i0, hi, hy0, hy1, hy2⟩ := info_parts A.infoInt
    obtain ⟨av, cv, rfl, hcv1, hcv2⟩ := row_form a4
    have hzW := a5.size
    have hob := a4.ob_lt
    obtain ⟨W1, hW1⟩ : ∃ W1, W.alloc (.cells #[.int .i64 y] 3) = W1 := ⟨_, rfl⟩
    have hu1 : Upd [] W W1 := by rw [← hW1]; exact Upd.alloc [] W _
    have hone : W1.heap[W.heap.size]? = some (.cells #[.int .i64 y] 3) := by rw [← hW1]; exact Go.heap_alloc_new W _
    have hz1' : W1.heap.size = W.heap.size + 1 := by rw [← hW1]; simp
    obtain ⟨v2, W2, hrun, hr2, hu2, hob2⟩ := (a4.upd hu1 (by simp) (by simp) (M' := []) (by simp)).appendAt (P := Try.prog) (t := 33) (ty := 33) (u := .slice (some ⟨W.heap.size, 0, none⟩) 1 1) (l2 := [y]) Try.underlying33 hi hy0 hy1 hy2 rfl (by decide)
      (one_at hone (fun hm => by
        rw [List.append_nil] at hm
        have := (hob _ hm).2
        omega) hyw)
      (by simp [maxLen]; omega) (by simp; omega) (by omega)
    obtain ⟨a2, c2, rfl, _, _⟩ := row_form hr2
    have hl3' : (pre ++ [y]).length = pre.length + 1 := by simp
    rw [hl3'] at hrun hr2 hob2
    have hzo : w.heap.size ∉ ob (.slice av pre.length cv) := fun h => by have := (hob _ h).1; omega
    have e2 : W2.heap[w.heap.size]? = some (.cells #[.slice av pre.length cv] 33) := upd_far hu2 (upd_far hu1 a3 (by simp)) hzo
    have hc : W.cell? ⟨w.heap.size, 0, none⟩ = some (.slice av pre.length cv) := by rw [cell_of_block a3]; rfl
    have hc2 : W2.cell? ⟨w.heap.size, 0, none⟩ = some (.slice av pre.length cv) := by rw [cell_of_block e2]; rfl
    have hf2 : W2.frozen? ⟨w.heap.size, 0, none⟩ = false := frozen_of_block e2
    have h3 := heap_setCell_same W2 w.heap.size 0 _ _ (.slice a2 (pre.length + 1) c2) e2
    have hu3 : Upd [w.heap.size] W2 (W2.setCell ⟨w.heap.size, 0, none⟩ (.slice a2 (pre.length + 1) c2)) := Upd.setCell (by simp) _
    have hob3 := hr2.ob_lt
    have hu12 : Upd (ob (.slice av pre.length cv)) W W2 := (hu1.mono (by simp)).trans hu2
    have hfin : Upd (w.heap.size :: ob (.slice av pre.length cv)) W (W2.setCell ⟨w.heap.size, 0, none⟩ (.slice a2 (pre.length + 1) c2)) ∧ ∃ M', (∀ k, k ∈ M' → k < (W2.setCell ⟨w.heap.size, 0, none⟩ (.slice a2 (pre.length + 1) c2)).heap.size ∧ (k ∈ w.heap.size :: ob (.slice av pre.length cv) ∨ W.heap.size ≤ k)) ∧
        ∃ v', M' = w.heap.size :: ob v' ∧ (W2.setCell ⟨w.heap.size, 0, none⟩ (.slice a2 (pre.length + 1) c2)).heap[w.heap.size]? = some (.cells #[v'] 33) ∧ Row (Kd.int .i64) [] 3 W0.heap.size (W2.setCell ⟨w.heap.size, 0, none⟩ (.slice a2 (pre.length + 1) c2)) v' (pre ++ [y]) ∧ Upd [w.heap.size] W0 (W2.setCell ⟨w.heap.size, 0, none⟩ (.slice a2 (pre.length + 1) c2)) := by
      refine ⟨(hu12.mono (fun k hk _ => List.mem_cons_of_mem _ hk)).trans (hu3.mono (by simp)), _, ?_, .slice a2 (pre.length + 1) c2, rfl, by simpa using h3, ?_, ?_⟩
      · intro k hk
        have hsz2 := hu12.size
        rcases List.mem_cons.1 hk with rfl | hk
        · exact ⟨by have := block_lt h3; exact this, .inl (by simp)⟩
        · have h1 := hob3 k hk
          refine ⟨by have := hu3.size; omega, ?_⟩
          rcases hob2 with h | h
          · rw [h] at hk; exact .inl (List.mem_cons_of_mem _ hk)
          · rw [h] at hk; simp at hk; exact .inr (by omega)
      · exact (hr2.int_any (M' := [w.heap.size])).upd hu3 (fun k hk => hk) (fun k hk h => by have := (hob3 k hk).1; simp at h; omega) (by simp)
      · exact (a5.trans' hu12 (fun k hk => .inr (hob k hk).1)).trans hu3
    have HFIN := Lib.hid hfin
    have HRUN := Lib.hid hrun
    clear hxs a3 a4 a5 hl3 hM hyw hob hu1 hone hrun hr2 hu2 hob2 hl3' hzo e2 h3 hu3 hob3 hu12 hfin hi hy0 hy1 hy2 hz1'
    gi_wp2
    refine ⟨trivial, ?_⟩
    gi_wp2_with (gi_at_builtin; refine append_stepIn rfl _ _ _ rfl rfl rfl HRUN.out ?_)
    obtain ⟨f1, M', f2, f3⟩ := HFIN.out
    rw [hz0] at f3
    exact ⟨f1, M', fun k hk => by have := f2 k hk; simpa using this, f3⟩
  · rintro M W7 ⟨v', rfl, a3, a4, a5⟩ hM hK
    simp only [Exit.inBlock, Exit.then]
    go_at_K
    obtain ⟨av, cv, rfl, hcv1, hcv2⟩ := row_form a4
    have hob := a4.ob_lt
    have hz7 := a5.size
    have c0 : W7.cell? ⟨w.heap.size, 0, none⟩ = some (.slice av xs.length cv) := by rw [cell_of_block a3]; rfl
    have HB7 := Lib.hid ((HU0.out.below.mono (Nat.le_refl _)).trans (a5.belowB (by omega) (by simp)))
    have HK := Lib.hid hK
    have HROW := Lib.hid a4
    have HNM := Lib.hid hM
    have hz := HU0.out.size
    clear a3 a4 a5 hM hK
    go_wp2_with fail
    refine end_marks HK.out (results_tmp rfl _ _ _) ⟨_, by first | rfl | simp, ?_, ?_⟩
    · exact HB7.out.trans ((Upd.putObj (S := [W0.heap.size]) (by simp) _).belowB (by omega) (by simp; omega))
    · have := ((HROW.out.int_any (M' := [W0.heap.size])).upd (Upd.putObj (w := W7) (S := [W0.heap.size]) (m := W0.heap.size) (by simp) (.deferred none)) (fun k hk => hk) (fun k hk h => by simp at h; subst h; exact HNM.out (List.mem_cons_of_mem _ hk)) (M' := []) (by simp))
      exact this.base (by omega)
  · rintro c pre M W hpre h
    exact h.elim

theorem collect_int_calls (gf : FuncId) (lb : Array Value) (xs : List Int) (w : World) (eg : ∀ args w, (callFunc gf args).run Try.prog w = .ok (.enter gf args) w)
    (N : List Nat) (hit : ItFrom Try.prog w N gf lb xs valInt) (hwf : ∀ x ∈ xs, (Lit.int .i64 x).wf = true) (hlen : xs.length ≤ 1099511627776) :
    Calls Try.prog 32 #[.func (.func gf) #[] lb] w fun e w' => ∃ v', e = .returned v' ∧ Below w.heap.size w w' ∧ Row (Kd.int .i64) [] 3 w.heap.size w' v' xs := by
  have H := Lib.hid (appendSeq_int_calls gf lb xs w eg N hit hwf hlen)
  clear hit hwf eg
  go_enter Try.func32, Try.ntmps32
  go_wp2_with fail
  refine H.out.mono ?_
  rintro e w1 ⟨v1, rfl, hb1, hr1⟩
  have HB1 := Lib.hid hb1
  have HR1 := Lib.hid hr1
  clear hb1 hr1
  go_wp2_with fail
  go_ret
  exact ⟨_, rfl, HB1.out, HR1.out⟩

end Go.Proofs.Ytiplifkbegmeiaa
