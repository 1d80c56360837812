/-
The document's equalities of planes and of rows; how a law hands rows on.
-/
import Derived.Test.YtfkmkhojedfccaaPureRec
import Derived.Test.YtfkmkhojedfccaaSame
namespace Go.Proofs.Ytfkmkhojedfccaa
set_option linter.unusedVariables false
set_option linter.unusedSimpArgs false
open Go.RowKit

set_option maxHeartbeats 1000000 in
theorem ref11_same_calls (v1 v2 : Value) (o1 o2 : Int) (a b : List Int) (M : List Nat) (w : World) (h1 : (Kd.int .i32).slice.At M w [v1] a) (h2 : (Kd.int .i32).slice.At M w [v2] b) :
    Calls Try.prog 47 #[.agg #[v1, .int .i64 o1], .agg #[v2, .int .i64 o2]] w fun e w' => e = .returned (.bool ((o1 == o2) && (a == b))) ∧ Below w.heap.size w w' := by
  obtain ⟨ao1, cap1, rfl, hl1, hcap1⟩ := slice_form' h1
  obtain ⟨ao2, cap2, rfl, hl2, hcap2⟩ := slice_form' h2
  have hb := ((Below.refl w.heap.size w).alloc (Nat.le_refl _) (.cells #[.slice ao1 a.length cap1, .int .i64 o1] 24)).alloc (by simp) (.cells #[.slice ao2 b.length cap2, .int .i64 o2] 24)
  have hs := ref03_same_calls _ _ a b M _ (h1.below hb) (h2.below hb)
  have HS := Lib.hid hs
  have HB := Lib.hid hb
  clear hs hb h1 h2
  by_cases e1 : o1 = o2
  · subst e1
    obtain ⟨q, hq⟩ : ∃ q, (a == b) = q := ⟨_, rfl⟩
    rw [hq] at HS ⊢
    have e2 : ((o1 == o1) && q) = q := by simp
    rw [e2]
    clear hq e2
    go_enter Try.func47, Try.ntmps47
    go_wp2_with fail
    refine HS.out.mono ?_
    rintro e w1 ⟨rfl, n, rfl⟩
    go_wp2_with fail
    go_ret
    exact ⟨rfl, HB.out.trans (bdN _ _ _)⟩
  · have e2 : (o1 == o2) = false := by simpa using e1
    rw [e2]
    clear e1
    go_enter Try.func47, Try.ntmps47
    go_wp2_with fail
    go_ret
    exact ⟨rfl, HB.out⟩

set_option maxHeartbeats 1000000 in
theorem ref15_same_calls (v1 v2 : Value) (x y : Rw) (M : List Nat) (w : World) (h1 : RwAt M w v1 x) (h2 : RwAt M w v2 y) :
    Calls Try.prog 14 #[.agg #[.bool x.leaf, .int .i64 x.count, .int .i64 x.place, v1, .int .i64 x.pl.off, .int .i64 x.right], .agg #[.bool y.leaf, .int .i64 y.count, .int .i64 y.place, v2, .int .i64 y.pl.off, .int .i64 y.right]] w
      fun e w' => e = .returned (.bool (decide (x = y))) ∧ Below w.heap.size w w' := by
  obtain ⟨ao1, cap1, rfl, hl1, hcap1⟩ := slice_form' h1.normal
  obtain ⟨ao2, cap2, rfl, hl2, hcap2⟩ := slice_form' h2.normal
  have hb := ((Below.refl w.heap.size w).alloc (Nat.le_refl _) (.cells #[.bool x.leaf, .int .i64 x.count, .int .i64 x.place, .slice ao1 x.pl.normal.length cap1, .int .i64 x.pl.off, .int .i64 x.right] 26)).alloc (by simp) (.cells #[.bool y.leaf, .int .i64 y.count, .int .i64 y.place, .slice ao2 y.pl.normal.length cap2, .int .i64 y.pl.off, .int .i64 y.right] 26)
  have hs := ref11_same_calls _ _ x.pl.off y.pl.off x.pl.normal y.pl.normal M _ (h1.normal.below hb) (h2.normal.below hb)
  have hdec : decide (x = y) = (x.leaf == y.leaf && (x.count == y.count && (x.place == y.place && (x.right == y.right && ((x.pl.off == y.pl.off) && (x.pl.normal == y.pl.normal)))))) := by
    obtain ⟨l, c, p, ⟨nn, o⟩, r⟩ := x
    obtain ⟨l', c', p', ⟨nn', o'⟩, r'⟩ := y
    rw [Bool.eq_iff_iff]
    simp only [decide_eq_true_eq, Bool.and_eq_true, beq_iff_eq, Rw.mk.injEq, Pl.mk.injEq]
    constructor
    · rintro ⟨h1, h2, h3, ⟨h4, h5⟩, h6⟩; exact ⟨h1, h2, h3, h6, h5, h4⟩
    · rintro ⟨h1, h2, h3, h6, h5, h4⟩; exact ⟨h1, h2, h3, ⟨h4, h5⟩, h6⟩
  rw [hdec]
  have HS := Lib.hid hs
  have HB := Lib.hid hb
  clear hs hb h1 h2 hdec
  obtain ⟨xl, xc, xp, ⟨xn, xo⟩, xr⟩ := x
  obtain ⟨yl, yc, yp, ⟨yn, yo⟩, yr⟩ := y
  simp only at *
  generalize ((xo == yo) && (xn == yn)) = q at *
  obtain ⟨r, hr⟩ : ∃ r, (xl == yl && (xc == yc && (xp == yp && (xr == yr && q)))) = r := ⟨_, rfl⟩
  rw [hr]
  have HR := Lib.hid hr
  clear hr
  by_cases e1 : (xl == yl) = true
  · have e1 := beq_iff_eq.1 e1
    subst e1
    by_cases e2 : xc = yc
    · subst e2
      by_cases e3 : xp = yp
      · subst e3
        by_cases e4 : xr = yr
        · subst e4
          go_enter Try.func14, Try.ntmps14
          go_wp2_with fail
          refine HS.out.mono ?_
          rintro e w1 ⟨rfl, hb1⟩
          have HB1 := Lib.hid (HB.out.trans (hb1.mono HB.out.size))
          clear hb1
          go_wp2_with fail
          go_ret
          exact ⟨by rw [← HR.out]; simp, HB1.out⟩
        · have e4' : (xr == yr) = false := by simpa using e4
          go_enter Try.func14, Try.ntmps14
          go_wp2_with fail
          go_ret
          exact ⟨by rw [← HR.out, e4']; simp, HB.out⟩
      · have e3' : (xp == yp) = false := by simpa using e3
        go_enter Try.func14, Try.ntmps14
        go_wp2_with fail
        go_ret
        exact ⟨by rw [← HR.out, e3']; simp, HB.out⟩
    · have e2' : (xc == yc) = false := by simpa using e2
      go_enter Try.func14, Try.ntmps14
      go_wp2_with fail
      go_ret
      exact ⟨by rw [← HR.out, e2']; simp, HB.out⟩
  · have e1' : (xl == yl) = false := by simpa using e1
    have HE := Lib.hid e1'
    cases xl <;> cases yl <;> simp at e1
    all_goals
      go_enter Try.func14, Try.ntmps14
      go_wp2_with fail
      go_ret
      exact ⟨by rw [← HR.out]; simp, HB.out⟩

theorem row_calls (v1 : Value) (x : Rw) (M : List Nat) (w : World) (h1 : RwAt M w v1 x) :
    Calls Try.prog 10 #[.agg #[.bool x.leaf, .int .i64 x.count, .int .i64 x.place, v1, .int .i64 x.pl.off, .int .i64 x.right]] w
      fun e w' => e = .returned (.agg #[.bool x.leaf, .int .i64 x.count, .int .i64 x.place, v1, .int .i64 x.pl.off, .int .i64 x.right]) ∧ Below w.heap.size w w' := by
  obtain ⟨ao1, cap1, rfl, hl1, hcap1⟩ := slice_form' h1.normal
  have hb := ((Below.refl w.heap.size w).alloc (Nat.le_refl _) (.cells #[.bool x.leaf, .int .i64 x.count, .int .i64 x.place, .slice ao1 x.pl.normal.length cap1, .int .i64 x.pl.off, .int .i64 x.right] 26)).alloc (by simp) (.cells #[.bool x.leaf, .int .i64 x.count, .int .i64 x.place, .slice ao1 x.pl.normal.length cap1, .int .i64 x.pl.off, .int .i64 x.right] 31)
  have HB := Lib.hid hb
  clear hb h1
  go_enter Try.func10, Try.ntmps10
  go_wp2_with fail
  exact bodyPost_ret (v := .agg #[.bool x.leaf, .int .i64 x.count, .int .i64 x.place, .slice ao1 x.pl.normal.length cap1, .int .i64 x.pl.off, .int .i64 x.right]) (by simp [results, Try.results10, go_sem]) rfl ⟨rfl, HB.out⟩

set_option maxHeartbeats 1000000 in
theorem awake15_calls (w : World) : Calls Try.prog 8 #[] w fun e w' => e = .returned (.bool true) ∧ Below w.heap.size w w' := by
  have hp := rec_put_calls (.slice none 0 0) ⟨true, 2, 5, ⟨[], 0⟩, 0⟩ 1 [] w ⟨Kd.slice_nil (Kd.int .i32) [] w none 0 (by simp [maxLen]), by decide, by decide, by decide, by decide⟩
  have e : putRec ⟨true, 2, 5, ⟨[], 0⟩, 0⟩ 1 = (⟨#[1, 2, 0, 0, 0, 5, 0, 0, 0, 0, 0, 0, 0, 0, 0, 0, 0]⟩, 0) := by decide +kernel
  rw [e] at hp
  simp only at hp
  have HP := Lib.hid hp
  clear hp e
  have HZ := Lib.hid (fun W => size_calls 1 W)
  go_enter Try.func8, Try.ntmps8
  go_wp2_with fail
  refine HP.out.mono ?_
  rintro e w1 ⟨rfl, hb1⟩
  have HB1 := Lib.hid hb1
  clear hb1
  go_wp2_with fail
  refine (HZ.out _).mono ?_
  rintro e w2 ⟨rfl, rfl⟩
  go_wp2_with fail
  go_ret
  exact ⟨rfl, HB1.out⟩

end Go.Proofs.Ytfkmkhojedfccaa
