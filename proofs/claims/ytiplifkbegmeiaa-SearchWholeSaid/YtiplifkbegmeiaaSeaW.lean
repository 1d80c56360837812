/-
search.push, begin, step.
-/
import Derived.Test.YtiplifkbegmeiaaSeaQ
import Derived.Test.YtiplifkbegmeiaaHeapQ
namespace Go.Proofs.Ytiplifkbegmeiaa
set_option linter.unusedVariables false
set_option linter.unusedSimpArgs false
open Go.RowKit

/-- A search under way: the object, and its heap. -/
structure IsW (w : World) (B q h : Nat) (hv : Value) (p : Nat) (leaf depth : Int) (vT vv : Value) (s : St) (hl : List Tk) : Prop where
  hd : w.heap[q]? = some (.cells #[.pointer (some ⟨p, 0, none⟩), .int .i64 leaf, .int .i64 depth, vT, vv, .pointer (some ⟨h, 0, none⟩), .int .i64 (s.steps : Int), .int .i64 (s.next : Int)] 77)
  heap : IsHeap w B h (.func (.func 49) #[] #[]) hv hl
  perm : hl.Perm s.tasks
  good : Good ahead tk0 hl
  qh : q ≠ h
  qv : q ∉ ob hv
  le : B ≤ q

theorem IsW.upd {w w' : World} {B q h : Nat} {hv : Value} {p : Nat} {leaf depth : Int} {vT vv : Value} {s : St} {hl : List Tk} (H : IsW w B q h hv p leaf depth vT vv s hl) {S : List Nat} (hu : Upd S w w') (h1 : q ∉ S) (h2 : h ∉ S) (h3 : ∀ k, k ∈ ob hv → k ∉ S) : IsW w' B q h hv p leaf depth vT vv s hl :=
  ⟨(hu.block _ (block_lt H.hd) h1).trans H.hd, H.heap.upd hu h2 h3, H.perm, H.good, H.qh, H.qv, H.le⟩

theorem w_cells {w : World} {B q h : Nat} {hv : Value} {p : Nat} {leaf depth : Int} {vT vv : Value} {s : St} {hl : List Tk} (H : IsW w B q h hv p leaf depth vT vv s hl) :
    w.cell? ⟨q, 3, none⟩ = some vT ∧ w.cell? ⟨q, 4, none⟩ = some vv ∧ w.cell? ⟨q, 5, none⟩ = some (.pointer (some ⟨h, 0, none⟩)) ∧ w.cell? ⟨q, 6, none⟩ = some (.int .i64 (s.steps : Int)) ∧ w.cell? ⟨q, 7, none⟩ = some (.int .i64 (s.next : Int)) := by
  refine ⟨?_, ?_, ?_, ?_, ?_⟩ <;> (rw [cell_of_block H.hd]; rfl)

set_option maxHeartbeats 2000000 in
set_option maxRecDepth 100000 in
theorem walk_push_calls (B q h : Nat) (hv : Value) (p : Nat) (leaf depth : Int) (vT vv : Value) (s : St) (hl : List Tk) (margin tree at_ : Int) (w : World) (H : IsW w B q h hv p leaf depth vT vv s hl) (hB : B ≤ w.heap.size)
    (h1 : (Lit.int .i64 margin).wf = true) (h2 : (Lit.int .i64 tree).wf = true) (h3 : (Lit.int .i64 at_).wf = true) (hn : s.next ≤ 1099511627776) (hlen : s.tasks.length ≤ 1099511627776) :
    Calls Try.prog 51 #[.pointer (some ⟨q, 0, none⟩), .int .i64 margin, .int .i64 tree, .int .i64 at_] w fun e w' => e = .returned (.tuple #[]) ∧
      ∃ hv' hl', IsW w' B q h hv' p leaf depth vT vv ⟨s.tasks ++ [⟨margin, (s.next : Int), tree, at_⟩], s.steps, s.next + 1⟩ hl' ∧ Upd (q :: h :: ob hv) w w' ∧ (∀ k, k ∈ ob hv' → k ∈ ob hv ∨ w.heap.size ≤ k) := by
  obtain ⟨c3, c4, c5, c6, c7⟩ := w_cells H
  have hql := block_lt H.hd
  have hobl := H.heap.row.ob_lt
  obtain ⟨N, hN⟩ : ∃ N : Int, (s.next : Int) = N := ⟨_, rfl⟩
  have n0 : 0 ≤ N := by omega
  have n1 : N ≤ 1099511627776 := by omega
  have hwn : (Lit.int .i64 N).wf = true := by
    have e1 : IntKind.i64.min = -9223372036854775808 := by decide
    have e2 : IntKind.i64.max = 9223372036854775807 := by decide
    show (decide (IntKind.i64.min ≤ N) && decide (N ≤ IntKind.i64.max)) = true
    rw [e1, e2]
    simp only [Bool.and_eq_true, decide_eq_true_eq]
    omega
  have HP : Hid (∀ W, Upd [] w W → Calls Try.prog 70 #[.pointer (some ⟨h, 0, none⟩), .agg #[.int .i64 margin, .int .i64 N, .int .i64 tree, .int .i64 at_]] W fun e w' => e = .returned (.tuple #[]) ∧
      ∃ v' l', IsHeap w' B h (.func (.func 49) #[] #[]) v' l' ∧ l'.Perm (hl ++ [⟨margin, N, tree, at_⟩]) ∧ Good ahead tk0 l' ∧ Upd (h :: ob hv) W w' ∧ (∀ k, k ∈ ob v' → k ∈ ob hv ∨ W.heap.size ≤ k)) := Lib.hid (fun W hW =>
    push_calls 0 B h hv hl ⟨margin, N, tree, at_⟩ ahead ahead_asym ahead_negt W (H.heap.upd hW (by simp) (by simp)) ⟨h1, hwn, h2, h3⟩ (by rw [H.perm.length_eq]; exact hlen) (first_ok _ W) H.good (Nat.le_trans hB hW.size))
  have HH := Lib.hid H
  have HN := Lib.hid hN
  rw [hN] at c7
  clear c3 c4 c6 H h1 h2 h3 hwn hN hn hlen
  go_enter Try.func51, Try.ntmps51
  go_wp2_with fail
  go_region_held3 (fun w' => w'.cell? ⟨q, 5, none⟩ = some (.pointer (some ⟨h, 0, none⟩)) ∧ w'.cell? ⟨q, 7, none⟩ = some (.int .i64 N))
    (first | exact ⟨k5, k7⟩ | exact ⟨c5, c7⟩ | go_keep)
    (first
      | (go_at_call 70
         refine (HP.out _ (Upd.drewN [] w _)).mono ?_
         rintro e w2 ⟨rfl, v', l', hheap', hperm', hgood', hu', hob'⟩
         have hu2 : Upd (h :: ob hv) w w2 := (Upd.drewN _ w 1).trans hu'
         have hq2 := (hu2.block q hql (by
           intro hm
           rcases List.mem_cons.1 hm with hm | hm
           · exact HH.out.qh hm
           · exact HH.out.qv hm)).trans HH.out.hd
         have k5 : w2.cell? ⟨q, 5, none⟩ = some (.pointer (some ⟨h, 0, none⟩)) := by rw [cell_of_block hq2]; rfl
         have k7 : w2.cell? ⟨q, 7, none⟩ = some (.int .i64 N) := by rw [cell_of_block hq2, ← HN.out]; rfl
         have f7 : w2.frozen? ⟨q, 7, none⟩ = false := frozen_of_block hq2
         have HHE := Lib.hid hheap'
         have HPE := Lib.hid hperm'
         have HGD := Lib.hid hgood'
         have HU2 := Lib.hid hu2
         have HOB := Lib.hid hob'
         have HQ2 := Lib.hid hq2
         clear hheap' hperm' hgood' hu' hob' hu2 hq2))
  go_wp2_with fail
  go_end0
  have hsz : (w.drewN 1).heap.size = w.heap.size := rfl
  have hqh' : q ∉ ob v' := by
    intro hm
    rcases HOB.out q hm with hm | hm
    · exact HH.out.qv hm
    · have hm : w.heap.size ≤ q := hm
      omega
  refine ⟨rfl, v', l', ⟨?_, HHE.out.upd (Upd.setCell (S := [q]) (p := ⟨q, 7, none⟩) (by simp) _) (by simpa using fun e => HH.out.qh e.symm) (fun k hk hm => by simp at hm; subst hm; exact hqh' hk), ?_, HGD.out, HH.out.qh, hqh', HH.out.le⟩, ?_, HOB.out⟩
  · have := heap_setCell_same w2 q 7 _ _ (.int .i64 (N + 1)) HQ2.out
    rw [this]
    simp [← HN.out]
  · rw [HN.out]
    exact HPE.out.trans (HH.out.perm.append_right _)
  · exact (HU2.out.mono (fun k hk _ => by simp at hk ⊢; exact .inr hk)).trans (Upd.setCell (S := q :: h :: ob hv) (p := ⟨q, 7, none⟩) (by simp) _)

theorem IsHeap.base {w : World} {B B' h : Nat} {fv v : Value} {l : List Tk} (H : IsHeap w B h fv v l) (hB : B' ≤ B) : IsHeap w B' h fv v l := ⟨H.hd, H.row.base hB, H.ne, Nat.le_trans hB H.le⟩
theorem IsW.same {w : World} {B q h : Nat} {hv : Value} {p : Nat} {leaf depth : Int} {vT vv : Value} {s s' : St} {hl : List Tk} (H : IsW w B q h hv p leaf depth vT vv s hl) (e : s = s') : IsW w B q h hv p leaf depth vT vv s' hl := e ▸ H

set_option maxHeartbeats 2000000 in
set_option maxRecDepth 100000 in
theorem begin_calls (p : Nat) (leaf depth : Int) (vT vv : Value) (T : List (List Nd)) (v : List Int) (M : List Nat) (w : World) (h : kNd.slice.slice.At M w [vT] T) (hv : (Kd.int .i32).slice.At M w [vv] v) (hT : T.length ≤ 1048576) :
    Calls Try.prog 26 #[.agg #[.pointer (some ⟨p, 0, none⟩), .int .i64 leaf, .int .i64 depth, vT], vv] w fun e w' => ∃ q g gv hl, e = .returned (.pointer (some ⟨q, 0, none⟩)) ∧ IsW w' w.heap.size q g gv p leaf depth vT vv (beginS T) hl ∧ Below w.heap.size w w' := by
  obtain ⟨aT, cT, rfl, hlT, hcT⟩ := Kd.slice_form h
  obtain ⟨av, cv, rfl, hlv, hcv⟩ := Kd.slice_form hv
  unfold maxLen at hcT hcv
  obtain ⟨W0, hW0⟩ : ∃ W0, w.alloc (.cells #[.pointer (some ⟨p, 0, none⟩), .int .i64 leaf, .int .i64 depth, .slice aT T.length cT] 30) = W0 := ⟨_, rfl⟩
  have hu0 : Upd [] w W0 := by rw [← hW0]; exact Upd.alloc [] w _
  have hx0 : W0.heap[w.heap.size]? = some (.cells #[.pointer (some ⟨p, 0, none⟩), .int .i64 leaf, .int .i64 depth, .slice aT T.length cT] 30) := by rw [← hW0]; exact Go.heap_alloc_new w _
  have hz0 : W0.heap.size = w.heap.size + 1 := by rw [← hW0]; simp
  obtain ⟨W1, hW1⟩ : ∃ W1, W0.alloc (.cells #[.pointer (some ⟨p, 0, none⟩), .int .i64 leaf, .int .i64 depth, .slice aT T.length cT, .slice av v.length cv, .pointer none, .int .i64 0, .int .i64 0] 77) = W1 := ⟨_, rfl⟩
  have hu1 : Upd [] W0 W1 := by rw [← hW1]; exact Upd.alloc [] W0 _
  have hq1 : W1.heap[w.heap.size + 1]? = some (.cells #[.pointer (some ⟨p, 0, none⟩), .int .i64 leaf, .int .i64 depth, .slice aT T.length cT, .slice av v.length cv, .pointer none, .int .i64 0, .int .i64 0] 77) := by rw [← hW1, ← hz0]; exact Go.heap_alloc_new W0 _
  have hx1 := upd_far hu1 hx0 (by simp)
  obtain ⟨d0, d1, d2, d3⟩ := lay_cells hx0
  have HN := Lib.hid (heap_new_calls W1)
  have HB1 := Lib.hid ((hu0.trans hu1).below)
  have HQ1 := Lib.hid hq1
  have HX1 := Lib.hid hx1
  have hql := block_lt hq1
  have HT := Lib.hid hT
  clear h hv hu0 hu1 hx0 hx1 hq1 hT
  go_enter Try.func26, Try.ntmps26
  go_wp2_with fail
  refine HN.out.mono ?_
  rintro e w2 ⟨g, rfl, hheap, hb2⟩
  have hq2 := (hb2.block _ hql).trans HQ1.out
  have hx2 := (hb2.block _ (block_lt HX1.out)).trans HX1.out
  have e3 : w2.cell? ⟨w.heap.size, 3, none⟩ = some (.slice aT T.length cT) := by rw [cell_of_block hx2]; rfl
  have f5 : w2.frozen? ⟨w.heap.size + 1, 5, none⟩ = false := frozen_of_block hq2
  have g5 : w2.cell? ⟨w.heap.size + 1, 5, none⟩ = some (.pointer none) := by rw [cell_of_block hq2]; rfl
  have HQ2 := Lib.hid hq2
  have HB2 := Lib.hid (HB1.out.trans (hb2.mono HB1.out.size))
  have hgl := hheap.le
  have START : Hid (IsW (w2.setCell ⟨w.heap.size + 1, 5, none⟩ (.pointer (some ⟨g, 0, none⟩))) w.heap.size (w.heap.size + 1) g (.slice none 0 0) p leaf depth (.slice aT T.length cT) (.slice av v.length cv) ⟨beginTo 0, 0, 0⟩ []) := Lib.hid (by
    refine ⟨(heap_setCell_same w2 (w.heap.size + 1) 5 _ _ _ HQ2.out).trans (by simp), ?_, List.Perm.refl _, ?_, by omega, by simp [ob, Value.ownBlock], by omega⟩
    · exact (hheap.base (by omega)).upd (Upd.setCell (S := [w.heap.size + 1]) (p := ⟨w.heap.size + 1, 5, none⟩) (by simp) _) (by simp; omega) (by simp [ob, Value.ownBlock])
    · intro i h0 hi; simp at hi)
  have HB3 : Hid (Below w.heap.size w (w2.setCell ⟨w.heap.size + 1, 5, none⟩ (.pointer (some ⟨g, 0, none⟩)))) := Lib.hid (HB2.out.trans (Upd.belowB (Upd.setCell (S := [w.heap.size + 1]) (p := ⟨w.heap.size + 1, 5, none⟩) (by simp) _) HB2.out.size (by simp)))
  clear hW0 hW1 hz0 d0 d1 d2 d3 HN hb2 hq2 hx2 hheap HQ2 hgl
  go_wp2_with fail
  go_loopw [18] (fun i wr => ∃ (k : Nat) (gv : Value) (hl : List Tk), k ≤ T.length ∧ i = .int .i64 k ∧ Hid (IsW wr w.heap.size (w.heap.size + 1) g gv p leaf depth (.slice aT T.length cT) (.slice av v.length cv) ⟨beginTo k, 0, k⟩ hl) ∧ Hid (Below w.heap.size w wr)) (fun i _ => T.length - (intOf i).toNat)
  case atStart => exact ⟨0, _, _, Nat.zero_le _, rfl, START, HB3⟩
  case round =>
    obtain ⟨k, gv, hl, hk, rfl, hw, hb⟩ := hrel
    by_cases hlt : k < T.length
    · have HP := Lib.hid (walk_push_calls w.heap.size (w.heap.size + 1) g gv p leaf depth _ _ ⟨beginTo k, 0, k⟩ hl 9223372036854775807 (k : Int) 0 wr hw.out hb.out.size (by decide) (int64_wf (by have := HT.out; omega) (by have := HT.out; omega)) (by decide) (by have := HT.out; simp only; omega) (by have := HT.out; simp only [beginTo_len]; omega))
      have hle := hw.out.heap.le
      have HOB := Lib.hid hw.out.heap.row.ob_lt
      have HBB := Lib.hid hb.out
      have i0 : (0 : Int) ≤ (k : Int) := by omega
      clear hb hw
      go_wp2_with fail
      refine HP.out.mono ?_
      rintro e w4 ⟨rfl, gv', hl', hw', hu', ho'⟩
      have HW' := Lib.hid hw'
      have HB' := Lib.hid (HBB.out.trans (hu'.belowB HBB.out.size (fun j hj => by
        rcases List.mem_cons.1 hj with rfl | hj
        · omega
        · rcases List.mem_cons.1 hj with rfl | hj
          · exact hle
          · exact (HOB.out j hj).1)))
      clear hw' hu' ho' HP
      go_wp2_with fail
      go_roundw
      case rel => exact ⟨k + 1, gv', hl', by omega, by go_num, HW', HB'⟩
      case measure => simp [intOf]; omega
    · have hkk : k = T.length := by omega
      have HW' : Hid (IsW wr w.heap.size (w.heap.size + 1) g gv p leaf depth (.slice aT T.length cT) (.slice av v.length cv) (beginS T) hl) := Lib.hid (hw.out.same (by rw [hkk]; rfl))
      clear hkk hw
      go_wp2_with fail
      go_ret
      exact ⟨_, g, gv, hl, rfl, HW'.out, hb.out⟩

end Go.Proofs.Ytiplifkbegmeiaa
