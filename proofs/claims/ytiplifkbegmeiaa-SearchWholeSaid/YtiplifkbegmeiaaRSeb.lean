/-
The document's search: Begin, Step.
-/
import Derived.Test.YtiplifkbegmeiaaRSea
namespace Go.Proofs.Ytiplifkbegmeiaa
set_option linter.unusedVariables false
set_option linter.unusedSimpArgs false
open Go.RowKit

theorem rwalk_cells {w : World} {q : Nat} {F : Fo} {vL vT vv lv : Value} {st nx : Int} (hd : w.heap[q]? = some (.cells #[.int .i64 F.dim, .int .i64 F.leaf, .int .i64 F.depth, vL, vT, vv, lv, .int .i64 st, .int .i64 nx] 85)) :
    w.cell? ⟨q, 4, none⟩ = some vT ∧ w.cell? ⟨q, 5, none⟩ = some vv ∧ w.cell? ⟨q, 6, none⟩ = some lv ∧ w.cell? ⟨q, 7, none⟩ = some (.int .i64 st) ∧ w.cell? ⟨q, 8, none⟩ = some (.int .i64 nx) := by
  refine ⟨?_, ?_, ?_, ?_, ?_⟩ <;> (rw [cell_of_block hd]; rfl)

set_option maxHeartbeats 2000000 in
set_option maxRecDepth 100000 in
theorem ref_begin_calls (vL vT vv : Value) (F : Fo) (v : List Int) (M : List Nat) (w : World) (h : FoAt M w vL vT F) (hv : (Kd.int .i32).slice.At M w [vv] v) (hT : F.T.length ≤ 1048576) :
    Calls Try.prog 18 #[.agg #[.int .i64 F.dim, .int .i64 F.leaf, .int .i64 F.depth, vL, vT], vv] w fun e w' => ∃ q, e = .returned (.pointer (some ⟨q, 0, none⟩)) ∧ IsRW w' [q] q F vL vT vv (beginS F.T) ∧ w.heap.size ≤ q ∧ Below w.heap.size w w' := by
  obtain ⟨aL, cL, rfl, hlL, hcL⟩ := Kd.slice_form h.L
  obtain ⟨aT, cT, rfl, hlT, hcT⟩ := Kd.slice_form h.T
  obtain ⟨av, cv, rfl, hlv, hcv⟩ := Kd.slice_form hv
  unfold maxLen at hcL hcT hcv
  obtain ⟨W0, hW0⟩ : ∃ W0, w.alloc (foObj (.slice aL F.L.length cL) (.slice aT F.T.length cT) F) = W0 := ⟨_, rfl⟩
  have hu0 : Upd [] w W0 := by rw [← hW0]; exact Upd.alloc [] w _
  have hx0 : W0.heap[w.heap.size]? = some (foObj (.slice aL F.L.length cL) (.slice aT F.T.length cT) F) := by rw [← hW0]; exact Go.heap_alloc_new w _
  have hz0 : W0.heap.size = w.heap.size + 1 := by rw [← hW0]; simp
  obtain ⟨W1, hW1⟩ : ∃ W1, W0.alloc (.cells #[.int .i64 F.dim, .int .i64 F.leaf, .int .i64 F.depth, .slice aL F.L.length cL, .slice aT F.T.length cT, .slice av v.length cv, .slice none 0 0, .int .i64 0, .int .i64 0] 85) = W1 := ⟨_, rfl⟩
  have hu1 : Upd [] W0 W1 := by rw [← hW1]; exact Upd.alloc [] W0 _
  have hq1 : W1.heap[w.heap.size + 1]? = some (.cells #[.int .i64 F.dim, .int .i64 F.leaf, .int .i64 F.depth, .slice aL F.L.length cL, .slice aT F.T.length cT, .slice av v.length cv, .slice none 0 0, .int .i64 0, .int .i64 0] 85) := by rw [← hW1, ← hz0]; exact Go.heap_alloc_new W0 _
  have HX1 := Lib.hid (upd_far hu1 hx0 (by simp))
  unfold foObj at hW0
  obtain ⟨d0, d1, d2, d3, d4⟩ := fo_cells hx0
  have hql := block_lt hq1
  have HB1 := Lib.hid ((hu0.trans hu1).below)
  have HT := Lib.hid hT
  have START : Hid (IsRW W1 [w.heap.size + 1] (w.heap.size + 1) F (.slice aL F.L.length cL) (.slice aT F.T.length cT) (.slice av v.length cv) ⟨beginTo 0, 0, 0⟩) := Lib.hid ⟨_, hq1, Kd.slice_nil _ _ _ none 0 (by simp [maxLen])⟩
  clear h hv hu0 hu1 hx0 hq1 hT
  go_enter Try.func18, Try.ntmps18
  go_wp2_with fail
  clear d0 d1 d2 d3 d4 hW0 hW1
  go_loopw [6] (fun i wr => ∃ k : Nat, k ≤ F.T.length ∧ i = .int .i64 k ∧ Hid (IsRW wr [w.heap.size + 1] (w.heap.size + 1) F (.slice aL F.L.length cL) (.slice aT F.T.length cT) (.slice av v.length cv) ⟨beginTo k, 0, k⟩) ∧ Hid (Upd [w.heap.size + 1] W1 wr)) (fun i _ => F.T.length - (intOf i).toNat)
  case atStart => exact ⟨0, Nat.zero_le _, by first | rfl | simp, START, Lib.hid (Upd.refl _ _)⟩
  case round =>
    obtain ⟨k, hk, rfl, hw, hu⟩ := hrel
    obtain ⟨_, _, _, _, d4⟩ := fo_cells (upd_far hu.out HX1.out (by simp))
    have hs1 := hu.out.size
    by_cases hlt : k < F.T.length
    · have HP := Lib.hid (ref_walk_put_calls [w.heap.size + 1] (w.heap.size + 1) F _ _ _ ⟨beginTo k, 0, k⟩ 9223372036854775807 (k : Int) 0 wr hw.out (by simp) (by simp; omega) (by decide) (int64_wf (by omega) (by have := HT.out; omega)) (by decide) (by have := HT.out; simp only; omega) (by have := HT.out; simp only [beginTo_len]; omega))
      have i0 : (0 : Int) ≤ (k : Int) := by omega
      clear hw
      go_wp2_with fail
      refine HP.out.mono ?_
      rintro e w4 ⟨rfl, hw', hu'⟩
      have HW' := Lib.hid hw'
      have HU' := Lib.hid (hu.out.trans hu')
      clear hw' hu' HP
      go_wp2_with fail
      go_roundw
      case rel => exact ⟨k + 1, by omega, by go_num, HW', HU'⟩
      case measure => simp [intOf]; omega
    · have hkk : k = F.T.length := by omega
      have HW' : Hid (IsRW wr [w.heap.size + 1] (w.heap.size + 1) F (.slice aL F.L.length cL) (.slice aT F.T.length cT) (.slice av v.length cv) (beginS F.T)) := Lib.hid (hw.out.same (by rw [hkk]; rfl))
      clear hkk hw
      go_wp2_with fail
      go_ret
      exact ⟨w.heap.size + 1, rfl, HW'.out, by omega, HB1.out.trans (hu.out.belowB HB1.out.size (by simp))⟩

end Go.Proofs.Ytiplifkbegmeiaa
