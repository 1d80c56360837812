/-
The law MarksUnique.
-/
import Derived.Test.YteafbhpjjibdeaaMarksLaws
namespace Go.Proofs.Yteafbhpjjibdeaa
set_option linter.unusedVariables false
set_option linter.unusedSimpArgs false
open Go.RowKit

theorem uniq_sorted (l : List Int) : (uniq l).Pairwise (· < ·) := (uniq_props l [] (by simp)).1
theorem uniq_mem (l : List Int) (x : Int) : x ∈ uniq l ↔ x ∈ l := by
  have := (uniq_props l [] (by simp)).2.1 x
  simpa [uniq] using this
theorem uniq_uniq (l : List Int) : uniq (uniq l) = uniq l :=
  sorted_ext _ _ (uniq_sorted _) (uniq_sorted _) (fun x => uniq_mem (uniq l) x)

/-- 'append([]int{}, l...)'. -/
theorem copy_ints {l : List Int} {v : Value} {w : World} (H : (Kd.int .i64).slice.At [] w [v] l) (hlen : l.length ≤ 1099511627776) :
    ∃ v' w', (Builtin.append_ #[22, 22] 22 #[.slice (some ⟨w.heap.size, 0, none⟩) 0 0, v]).run Try.prog (w.alloc (.cells #[] 3)) = .ok v' w' ∧ Row (Kd.int .i64) [] 3 w.heap.size w' v' l ∧ Below w.heap.size w w' := by
  obtain ⟨i0, hi, hz0, hz1, hz2⟩ := info_parts A.infoInt
  have hu1 : Upd [] w (w.alloc (.cells #[] 3)) := Upd.alloc [] w _
  have hrow : Row (Kd.int .i64) [] 3 w.heap.size (w.alloc (.cells #[] 3)) (.slice (some ⟨w.heap.size, 0, none⟩) 0 0) [] := row_new (Go.heap_alloc_new w _) (Nat.le_refl _)
  have hob := hrow.ob_lt
  obtain ⟨v', w', hrun, hrow2, hu2, _⟩ := hrow.appendAt (P := Try.prog) (t := 22) (ty := 22) (u := v) (l2 := l) Try.underlying22 hi hz0 hz1 hz2 rfl (by decide)
    (H.upd hu1 (by simp) (fun k hk => by simp [ob, Value.ownBlock] at hk; exact .inr (by omega)))
    (by simp [maxLen]; omega) (by simp; omega) (by simp)
  exact ⟨v', w', hrun, by simpa using hrow2, hu1.below.trans (hu2.belowB (by simp) (fun k hk => (hob k hk).1))⟩

set_option maxHeartbeats 4000000 in
set_option maxRecDepth 100000 in
theorem marksUnique_calls (v : Value) (l : List Int) (w : World) (h : (Kd.int .i64).slice.At [] w [v] l) :
    Calls Try.prog 3 #[v] w fun e w' => e = .returned (.bool true) ∧ Below w.heap.size w w' := by
  obtain ⟨ao, cap, rfl, hl, hcap⟩ := Kd.slice_form h
  unfold maxLen at hcap
  have HA := Lib.hid (awake09_calls w)
  have H := Lib.hid h
  clear h
  go_enter Try.func3, Try.ntmps3
  go_wp2_with fail
  refine HA.out.mono ?_
  rintro e w1 ⟨rfl, hb1⟩
  have HB1 := Lib.hid hb1
  have H1 := Lib.hid (H.out.below hb1)
  clear hb1 HA
  by_cases hn : 200 < l.length
  · go_wp2_with fail
    go_ret
    exact ⟨rfl, HB1.out⟩
  obtain ⟨v2, w2, hrun, hr2, hb2⟩ := copy_ints H1.out (by omega)
  have HRUN := Lib.hid hrun
  have HR2 := Lib.hid hr2
  have HB2 := Lib.hid (HB1.out.trans (hb2.mono HB1.out.size))
  have H2 := Lib.hid (H1.out.below hb2)
  have HU := Lib.hid (marks_unique_calls _ l [] w2 H2.out (by omega))
  clear hrun hr2 hb2
  go_wp2_with (at_builtin; refine append_step rfl _ _ _ rfl rfl rfl HRUN.out ?_)
  clear HRUN
  go_wp2_with fail
  refine HU.out.mono ?_
  rintro e w3 ⟨v3, rfl, hb3, hr3⟩
  have HB3 := Lib.hid (HB2.out.trans (hb3.mono HB2.out.size))
  have H3 := Lib.hid (H2.out.below hb3)
  have HW3 := Lib.hid ((HR2.out.read (by simp)).below hb3)
  have HU3 := Lib.hid (hr3.read (by simp))
  have HRU := Lib.hid (ref_unique_calls _ l [] w3 H3.out (by omega))
  clear hb3 hr3 HU H2 HR2
  go_wp2_with fail
  refine HRU.out.mono ?_
  rintro e w4 ⟨v4, rfl, hb4, hr4⟩
  have HB4 := Lib.hid (HB3.out.trans (hb4.mono HB3.out.size))
  have H4 := Lib.hid (H3.out.below hb4)
  have HW4 := Lib.hid (HW3.out.below hb4)
  have HU4 := Lib.hid (HU3.out.below hb4)
  have HS := Lib.hid (ref09_same_calls _ _ (uniq l) (uniq l) [] w4 HU4.out (hr4.read (by simp)))
  rw [beq_self_eq_true] at HS
  clear hb4 hr4 HRU H3 HW3 HU3
  go_wp2_with fail
  refine HS.out.mono ?_
  rintro e w5 ⟨rfl, n5, hw5⟩
  have hb5 : Below w4.heap.size w4 w5 := by rw [hw5]; exact bdN _ _ _
  have HB5 := Lib.hid (HB4.out.trans (hb5.mono HB4.out.size))
  have H5 := Lib.hid (H4.out.below hb5)
  have HW5 := Lib.hid (HW4.out.below hb5)
  have HU5 := Lib.hid (HU4.out.below hb5)
  have HS := Lib.hid (ref09_same_calls _ _ l l [] w5 H5.out HW5.out)
  rw [beq_self_eq_true] at HS
  clear hb5 hw5 H4 HW4 HU4
  go_wp2_with fail
  refine HS.out.mono ?_
  rintro e w6 ⟨rfl, n6, hw6⟩
  have hb6 : Below w5.heap.size w5 w6 := by rw [hw6]; exact bdN _ _ _
  have HB6 := Lib.hid (HB5.out.trans (hb6.mono HB5.out.size))
  have HU6 := Lib.hid (HU5.out.below hb6)
  have hul := uniq_len l
  have HU := Lib.hid (marks_unique_calls _ (uniq l) [] w6 HU6.out (by omega))
  rw [uniq_uniq] at HU
  clear hb6 hw6 H5 HW5 HU5
  go_wp2_with fail
  refine HU.out.mono ?_
  rintro e w7 ⟨v7, rfl, hb7, hr7⟩
  have HB7 := Lib.hid (HB6.out.trans (hb7.mono HB6.out.size))
  have HS := Lib.hid (ref09_same_calls _ _ (uniq l) (uniq l) [] w7 (hr7.read (by simp)) (HU6.out.below hb7))
  rw [beq_self_eq_true] at HS
  clear hb7 hr7
  go_wp2_with fail
  refine HS.out.mono ?_
  rintro e w8 ⟨rfl, n8, hw8⟩
  have hb8 : Below w7.heap.size w7 w8 := by rw [hw8]; exact bdN _ _ _
  have HB8 := Lib.hid (HB7.out.trans (hb8.mono HB7.out.size))
  clear hb8 hw8
  go_wp2_with fail
  go_ret
  exact ⟨rfl, HB8.out⟩

theorem MarksUnique_walk (v : Value) (l : List Int) (w : World) (h : (Kd.int .i64).slice.At [] w [v] l) :
    Calls Try.prog 3 #[v] w fun e w' => e = .returned (.bool true) ∧ Below w.heap.size w w' :=
  marksUnique_calls v l w h

end Go.Proofs.Yteafbhpjjibdeaa
