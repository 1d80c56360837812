/-
The document's search: put, Begin.
-/
import Derived.Test.YtiplifkbegmeiaaSeaQ
import Derived.Test.YtiplifkbegmeiaaHeap
import Derived.Test.YtiplifkbegmeiaaRes
namespace Go.Proofs.Ytiplifkbegmeiaa
set_option linter.unusedVariables false
set_option linter.unusedSimpArgs false
open Go.RowKit

/-- The document's search under way. -/
structure IsRW (w : World) (N : List Nat) (q : Nat) (F : Fo) (vL vT vv : Value) (s : St) : Prop where
  out : ∃ lv, w.heap[q]? = some (.cells #[.int .i64 F.dim, .int .i64 F.leaf, .int .i64 F.depth, vL, vT, vv, lv, .int .i64 (s.steps : Int), .int .i64 (s.next : Int)] 85) ∧ tkE.kd.slice.At N w [lv] s.tasks

theorem IsRW.upd {w w' : World} {N N' S : List Nat} {q : Nat} {F : Fo} {vL vT vv : Value} {s : St} (h : IsRW w N q F vL vT vv s) (hu : Upd S w w') (hS : ∀ k, k ∈ S → k ∈ N) (hq : q ∉ S) (hN : ∀ k, k ∈ N' → k ∈ N ∨ w.heap.size ≤ k) : IsRW w' N' q F vL vT vv s := by
  obtain ⟨lv, h1, h2⟩ := h.out
  exact ⟨lv, (hu.block _ (block_lt h1) hq).trans h1, h2.upd hu hS hN⟩
theorem IsRW.same {w : World} {N : List Nat} {q : Nat} {F : Fo} {vL vT vv : Value} {s s' : St} (h : IsRW w N q F vL vT vv s) (e : s = s') : IsRW w N q F vL vT vv s' := e ▸ h

theorem A.infoRTask : (Try.prog.info? 89).map (fun i => (i.zero, i.size, i.bytes)) = some (some (.agg #[.int .i64 0, .int .i64 0, .int .i64 0, .int .i64 0]), 4, 32) := by kernel_rfl

set_option maxHeartbeats 4000000 in
set_option maxRecDepth 100000 in
theorem ref_walk_put_calls (N : List Nat) (q : Nat) (F : Fo) (vL vT vv : Value) (s : St) (margin tree at_ : Int) (w : World) (H : IsRW w N q F vL vT vv s) (hqN : q ∈ N) (hN : ∀ k, k ∈ N → k < w.heap.size)
    (h1 : (Lit.int .i64 margin).wf = true) (h2 : (Lit.int .i64 tree).wf = true) (h3 : (Lit.int .i64 at_).wf = true) (hn : s.next ≤ 1099511627776) (hlen : s.tasks.length ≤ 1099511627776) :
    Calls Try.prog 40 #[.pointer (some ⟨q, 0, none⟩), .int .i64 margin, .int .i64 tree, .int .i64 at_] w fun e w' => e = .returned (.tuple #[]) ∧
      IsRW w' N q F vL vT vv ⟨s.tasks ++ [⟨margin, (s.next : Int), tree, at_⟩], s.steps, s.next + 1⟩ ∧ Upd [q] w w' := by
  obtain ⟨lv, hd, hl⟩ := H.out
  obtain ⟨al, cl, rfl, hll, hcl⟩ := Kd.slice_form hl
  unfold maxLen at hcl
  have hql := block_lt hd
  obtain ⟨n, hnn⟩ : ∃ n : Int, (s.next : Int) = n := ⟨_, rfl⟩
  have n0 : 0 ≤ n := by omega
  have n1 : n ≤ 1099511627776 := by omega
  have wn : (Lit.int .i64 n).wf = true := int64_wf (by omega) (by omega)
  have c6 : w.cell? ⟨q, 6, none⟩ = some (.slice al s.tasks.length cl) := by rw [cell_of_block hd]; rfl
  have c8 : w.cell? ⟨q, 8, none⟩ = some (.int .i64 n) := by rw [cell_of_block hd, ← hnn]; rfl
  have f6 : w.frozen? ⟨q, 6, none⟩ = false := frozen_of_block hd
  obtain ⟨i0, hi, hz0, hz1, hz2⟩ := info_parts A.infoRTask
  have HI := Lib.hid hi
  have HZ0 := Lib.hid hz0
  have HZ1 := Lib.hid hz1
  have HZ2 := Lib.hid hz2
  have HD := Lib.hid hd
  have HL := Lib.hid hl
  have HNN := Lib.hid hnn
  have HOK : Hid (tkE.ok ⟨margin, n, tree, at_⟩) := Lib.hid ⟨h1, wn, h2, h3⟩
  have SRC : Hid (∀ W (m : List Nat), Upd [] w W → (∀ k, k ∈ m → w.heap.size ≤ k) → tkE.kd.slice.At m W [.slice al s.tasks.length cl] s.tasks) := Lib.hid (fun W m hu hk => hl.upd hu (by simp) (fun k hk' => .inr (hk k hk')))
  have HLEN := Lib.hid hlen
  have HNB := Lib.hid hN
  clear hd hl hnn h1 h2 h3 wn hi hz0 hz1 hz2 H hn hN
  go_enter Try.func40, Try.ntmps40
  go_wp2_with fail
  go_region_law (first
    | (refine step_row_append rfl (.tmp 9) (.tmp 13) _ rfl (K := tkE.kd) (M := []) (B := w.heap.size) (l := []) (l2 := s.tasks) (v := .slice (some ⟨_, 0, none⟩) 0 0) (u := .slice al s.tasks.length cl) rfl rfl ?_ Try.underlying83 HI.out HZ0.out HZ1.out HZ2.out rfl (by decide) ?_ ?_ ?_ ?_ ?_
       · exact row_new (by (first | exact Go.heap_alloc_new _ _ | exact alloc2_snd _ _ _ | exact alloc2_fst _ _ _)) (by (first | exact Nat.le_refl _ | omega | (simp; omega) | (simp; done)))
       · exact SRC.out _ _ (by (first | exact Upd.alloc _ _ _ | exact (Upd.alloc _ _ _).trans (Upd.drew _ _) | exact ((Upd.alloc _ _ _).trans (Upd.alloc _ _ _)).trans (Upd.drew _ _) | exact (Upd.alloc _ _ _).trans (Upd.alloc _ _ _))) (by simp [ob, Value.ownBlock])
       · (simp [maxLen]; omega)
       · (simp; omega)
       · (first | exact Nat.le_refl _ | omega | (simp; omega) | (simp; done))
       intro v1 w1 hr1 hv1 ho1
       have hU1 : Upd [] w w1 := Upd.trans' (by (first | exact Upd.alloc _ _ _ | exact (Upd.alloc _ _ _).trans (Upd.drew _ _) | exact ((Upd.alloc _ _ _).trans (Upd.alloc _ _ _)).trans (Upd.drew _ _) | exact (Upd.alloc _ _ _).trans (Upd.alloc _ _ _))) hv1 (by simp [ob, Value.ownBlock])
       have g6 : w1.cell? ⟨q, 6, none⟩ = some (.slice al s.tasks.length cl) := (hU1.cell hql (by simp)).trans c6
       have g8 : w1.cell? ⟨q, 8, none⟩ = some (.int .i64 n) := (hU1.cell hql (by simp)).trans c8
       have hq1 : q < w1.heap.size := Nat.lt_of_lt_of_le hql hU1.size)
    | (refine step_row_append rfl (.tmp 14) (.tmp 23) _ rfl (K := tkE.kd) (M := []) (B := w.heap.size) (l := [] ++ s.tasks) (l2 := [⟨margin, n, tree, at_⟩]) (v := v1) (u := .slice (some ⟨_, 0, none⟩) 1 1) rfl rfl ?_ Try.underlying83 HI.out HZ0.out HZ1.out HZ2.out rfl (by decide) ?_ ?_ ?_ ?_ ?_
       · exact (hr1.upd (Upd.alloc [] w1 _) (by simp) (by simp) (by simp))
       · exact flat_one (E := tkE) (Go.heap_alloc_new w1 _) (fun hm => by have hq := (hr1.ob_lt _ (by simpa using hm)).2; omega) HOK.out
       · (simp [maxLen]; omega)
       · (simp; omega)
       · (have := hU1.size; (first | omega | (simp; omega)))
       intro v2 w2 hr2 hv2 ho2
       have hU2 : Upd [] w w2 := (hU1.trans (Upd.alloc [] w1 _)).trans' hv2 (fun k hk => .inr (hr1.ob_lt k hk).1)
       obtain ⟨a2, c2, rfl, hl2, hc2⟩ := row_form hr2
       have g6 : w2.cell? ⟨q, 6, none⟩ = some (.slice al s.tasks.length cl) := (hU2.cell hql (by simp)).trans c6
       have k6 : w2.frozen? ⟨q, 6, none⟩ = false := (hU2.frozen hql (by simp)).trans f6)
    | (refine step_row_append rfl (.tmp 14) (.tmp 23) _ rfl (K := tkE.kd) (M := []) (B := w.heap.size) (l := [] ++ s.tasks) (l2 := [⟨margin, n, tree, at_⟩]) (v := v1) (w := w1) (u := .slice (some ⟨_, 0, none⟩) 1 1) rfl rfl ?_ Try.underlying83 HI.out HZ0.out HZ1.out HZ2.out rfl (by decide) ?_ ?_ ?_ ?_ ?_
       · exact hr1
       · exact flat_one (E := tkE) ((hv1.block _ (by (first | omega | (simp; omega) | (simp; done))) (by simp [ob, Value.ownBlock])).trans (by (first | exact Go.heap_alloc_new _ _ | exact alloc2_snd _ _ _ | exact alloc2_fst _ _ _))) (fun hm => by
           rcases ho1 with h | h
           · rw [List.append_nil, h] at hm; simp [ob, Value.ownBlock] at hm
           · rw [List.append_nil, h] at hm; simp at hm <;> omega) HOK.out
       · (simp [maxLen]; omega)
       · (simp; omega)
       · exact hU1.size
       intro v2 w2 hr2 hv2 ho2
       have hU2 : Upd [] w w2 := hU1.trans' hv2 (fun k hk => .inr (hr1.ob_lt k hk).1)
       obtain ⟨a2, c2, rfl, hl2, hc2⟩ := row_form hr2
       have g6 : w2.cell? ⟨q, 6, none⟩ = some (.slice al s.tasks.length cl) := (hU2.cell hql (by simp)).trans c6
       have k6 : w2.frozen? ⟨q, 6, none⟩ = false := (hU2.frozen hql (by simp)).trans f6))
  all_goals
    have hd2 := (hU2.block q hql (by simp)).trans HD.out
    have g8' : w2.cell? ⟨q, 8, none⟩ = some (.int .i64 n) := by rw [cell_of_block hd2, ← HNN.out]; rfl
    have k8' : w2.frozen? ⟨q, 8, none⟩ = false := frozen_of_block hd2
    have HD2 := Lib.hid hd2
    have HR2 := Lib.hid hr2
    have HU2 := Lib.hid hU2
    clear hd2 hr1 hr2 hv1 hv2 ho1 ho2 hU1 hU2 hl2 SRC HI HZ0 HZ1 HZ2
    go_wp2_with fail
    go_end0
    have h6 := heap_setCell_same w2 q 6 _ _ (.slice a2 (s.tasks.length + 1) c2) HD2.out
    have h8 := heap_setCell_same _ q 8 _ _ (.int .i64 (n + 1)) h6
    have hus : Upd [q] w2 ((w2.setCell ⟨q, 6, none⟩ (.slice a2 (s.tasks.length + 1) c2)).setCell ⟨q, 8, none⟩ (.int .i64 (n + 1))) := (Upd.setCell (by simp) _).trans (Upd.setCell (by simp) _)
    refine ⟨rfl, ⟨.slice a2 (s.tasks.length + 1) c2, h8.trans (by simp [← HNN.out]), ?_⟩, (HU2.out.mono (by simp)).trans hus⟩
    have hob := HR2.out.ob_lt
    have hlq : ([] ++ s.tasks ++ [(⟨margin, n, tree, at_⟩ : Tk)]).length = s.tasks.length + 1 := by simp
    rw [hlq] at HR2 hob
    have hread := (HR2.out.flat_any (M' := N)).read (fun k hk hm => by have := (hob k hk).1; have := HNB.out k hm; omega)
    simp only [List.nil_append] at hread
    rw [HNN.out]
    exact hread.upd hus (by simp; exact hqN) (fun k hk => .inl hk)

end Go.Proofs.Ytiplifkbegmeiaa
