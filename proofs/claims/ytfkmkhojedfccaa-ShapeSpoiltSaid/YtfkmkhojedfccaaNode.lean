/-
Nodes of trees: their kind, and the contracts of shape's small functions.
-/
import Derived.Test.YtfkmkhojedfccaaPlain
namespace Go.Proofs.Ytfkmkhojedfccaa
set_option linter.unusedVariables false
set_option linter.unusedSimpArgs false
open Go.RowKit

structure Nd where
  leaf : Bool
  ids : List Int
  pl : Pl
  left : Int
  right : Int
  deriving DecidableEq

def kNd : Kd Nd where
  sz := 6
  rep F w cs x := ∃ vi vn, cs = [.bool x.leaf, vi, vn, .int .i64 x.pl.off, .int .i64 x.left, .int .i64 x.right] ∧ (Kd.int .i64).slice.rep F w [vi] x.ids ∧ (Kd.int .i32).slice.rep F w [vn] x.pl.normal ∧
    (Lit.int .i64 x.pl.off).wf = true ∧ (Lit.int .i64 x.left).wf = true ∧ (Lit.int .i64 x.right).wf = true
  len h := by obtain ⟨vi, vn, rfl, _⟩ := h; rfl
  one h := by
    obtain ⟨vi, vn, rfl, h1, h2, _⟩ := h
    intro v hv
    simp at hv
    rcases hv with rfl | rfl | rfl | rfl | rfl | rfl
    · rfl
    · exact (Kd.int .i64).slice.one h1 _ (by simp)
    · exact (Kd.int .i32).slice.one h2 _ (by simp)
    · rfl
    · rfl
    · rfl
  mono h hF hw := by
    obtain ⟨vi, vn, h0, h1, h2, h3⟩ := h
    exact ⟨vi, vn, h0, Kd.mono _ h1 hF hw, Kd.mono _ h2 hF hw, h3⟩

/-- A node's cells, opened. -/
structure NdAt (M : List Nat) (w : World) (vi vn : Value) (x : Nd) : Prop where
  ids : (Kd.int .i64).slice.At M w [vi] x.ids
  normal : (Kd.int .i32).slice.At M w [vn] x.pl.normal
  wo : (Lit.int .i64 x.pl.off).wf = true
  wl : (Lit.int .i64 x.left).wf = true
  wr : (Lit.int .i64 x.right).wf = true
theorem nd_open {M : List Nat} {w : World} {cs : List Value} {x : Nd} (h : kNd.At M w cs x) : ∃ vi vn, cs = [.bool x.leaf, vi, vn, .int .i64 x.pl.off, .int .i64 x.left, .int .i64 x.right] ∧ NdAt M w vi vn x := by
  obtain ⟨vi, vn, h0, h1, h2, h3, h4, h5⟩ := h.out
  exact ⟨vi, vn, h0, ⟨⟨h1⟩, ⟨h2⟩, h3, h4, h5⟩⟩
theorem NdAt.shut {M : List Nat} {w : World} {vi vn : Value} {x : Nd} (h : NdAt M w vi vn x) : kNd.At M w [.bool x.leaf, vi, vn, .int .i64 x.pl.off, .int .i64 x.left, .int .i64 x.right] x :=
  ⟨⟨vi, vn, rfl, h.ids.out, h.normal.out, h.wo, h.wl, h.wr⟩⟩
theorem NdAt.below {M : List Nat} {w w' : World} {vi vn : Value} {x : Nd} (h : NdAt M w vi vn x) (hu : Below w.heap.size w w') : NdAt M w' vi vn x := ⟨h.ids.below hu, h.normal.below hu, h.wo, h.wl, h.wr⟩

/-- The node at a place. -/
theorem nds_at {M : List Nat} {w : World} {v : Value} {l : List Nd} (h : kNd.slice.At M w [v] l) {i : Nat} {x : Nd} (hx : l[i]? = some x) :
    ∃ b o cap vi vn, v = .slice (some ⟨b, o, none⟩) l.length cap ∧ b < w.heap.size ∧ b ∉ M ∧ l.length ≤ cap ∧ cap ≤ maxLen ∧ NdAt M w vi vn x ∧
      w.cell? ⟨b, o + i * 6, none⟩ = some (.bool x.leaf) ∧ w.cell? ⟨b, o + i * 6 + 1, none⟩ = some vi ∧ w.cell? ⟨b, o + i * 6 + 2, none⟩ = some vn ∧ w.cell? ⟨b, o + i * 6 + 3, none⟩ = some (.int .i64 x.pl.off) ∧
      w.cell? ⟨b, o + i * 6 + 4, none⟩ = some (.int .i64 x.left) ∧ w.cell? ⟨b, o + i * 6 + 5, none⟩ = some (.int .i64 x.right) := by
  obtain ⟨b, o, cap, h1, h2, h3, h4, h5, cs', hr, hc⟩ := Kd.slice_get h hx
  obtain ⟨vi, vn, rfl, hn⟩ := nd_open hr
  exact ⟨b, o, cap, vi, vn, h1, h2, h3, h4, h5, hn, hc 0 _ rfl, hc 1 _ rfl, hc 2 _ rfl, hc 3 _ rfl, hc 4 _ rfl, hc 5 _ rfl⟩

def bareB (x : Nd) (dim : Int) : Bool :=
  if x.leaf then (x.pl.off == 0 && x.pl.normal == []) && x.left == 0 && x.right == 0 else x.ids.isEmpty && planeCheck x.pl dim == 0

theorem slice_form' {k : IntKind} {M : List Nat} {w : World} {v : Value} {l : List Int} (h : (Kd.int k).slice.At M w [v] l) : ∃ ao cap, v = .slice ao l.length cap ∧ l.length ≤ cap ∧ cap ≤ maxLen := Kd.slice_form h

set_option maxHeartbeats 1000000 in
theorem bare_calls (vi vn : Value) (x : Nd) (dim : Int) (M : List Nat) (w : World) (h : NdAt M w vi vn x) :
    Calls Try.prog 56 #[.agg #[.bool x.leaf, vi, vn, .int .i64 x.pl.off, .int .i64 x.left, .int .i64 x.right], .int .i64 dim] w fun e w' => e = .returned (.bool (bareB x dim)) ∧ Below w.heap.size w w' := by
  obtain ⟨ai, ci, rfl, hli, hci⟩ := slice_form' h.ids
  obtain ⟨an, cn, rfl, hln, hcn⟩ := slice_form' h.normal
  have hb := (Below.refl w.heap.size w).alloc (Nat.le_refl _) (.cells #[.bool x.leaf, .slice ai x.ids.length ci, .slice an x.pl.normal.length cn, .int .i64 x.pl.off, .int .i64 x.left, .int .i64 x.right] 48)
  have hs := plane_same_calls _ _ x.pl.off 0 x.pl.normal [] M _ (h.normal.below hb) (Kd.slice_nil (Kd.int .i32) M _ none 0 (by simp [maxLen]))
  have hc := plane_check_calls _ x.pl.off dim x.pl.normal M _ (h.normal.below hb)
  have HS := Lib.hid hs
  have HC := Lib.hid hc
  have HB := Lib.hid hb
  obtain ⟨r, hr⟩ : ∃ r, bareB x dim = r := ⟨_, rfl⟩
  rw [hr]
  have HR := Lib.hid hr
  unfold maxLen at hci hcn
  clear hs hc hb hr h
  obtain ⟨leaf, ids, pl, left, right⟩ := x
  simp only at *
  cases leaf with
  | true =>
    go_enter Try.func56, Try.ntmps56
    go_wp2_with fail
    refine HS.out.mono ?_
    rintro e w1 ⟨rfl, hb1⟩
    have d4 := box_cell hb1 4
    have d5 := box_cell hb1 5
    simp only [List.getElem?_toArray, List.getElem?_cons_succ, List.getElem?_cons_zero] at d4 d5
    have HB1 := Lib.hid (HB.out.trans (hb1.mono HB.out.size))
    clear hb1 HS HC
    generalize hq : (pl.off == 0 && pl.normal == []) = q at *
    have HQ := Lib.hid hq
    clear hq
    cases q
    all_goals
      go_wp2_with fail
      all_goals
        go_ret
        refine ⟨?_, HB1.out⟩
        rw [← HR.out, bareB, if_pos rfl, HQ.out]
        try simp_all
  | false =>
    cases ids with
    | nil =>
      have hli0 : (([] : List Int).length : Int) = 0 := rfl
      go_enter Try.func56, Try.ntmps56
      go_wp2_with fail
      refine HC.out.mono ?_
      rintro e w1 ⟨rfl, hb1⟩
      have HB1 := Lib.hid (HB.out.trans (hb1.mono HB.out.size))
      clear hb1 HS HC
      generalize hq : planeCheck { normal := pl.normal, off := pl.off } dim = q at *
      have HQ := Lib.hid hq
      clear hq
      go_wp2_with fail
      all_goals
        go_ret
        refine ⟨?_, HB1.out⟩
        rw [← HR.out, bareB, if_neg (by simp), show planeCheck pl dim = q from HQ.out]
        try simp_all
    | cons i0 ids =>
      have hne : (((i0 :: ids).length : Int) == 0) = false := by simp; omega
      go_enter Try.func56, Try.ntmps56
      go_wp2_with fail
      go_ret
      refine ⟨?_, HB.out⟩
      rw [← HR.out, bareB, if_neg (by simp)]
      rfl

/-- A node's value. -/
def ndV (vi vn : Value) (x : Nd) : Value := .agg #[.bool x.leaf, vi, vn, .int .i64 x.pl.off, .int .i64 x.left, .int .i64 x.right]

theorem check1_calls (vi vn : Value) (x : Nd) (dim : Int) (M : List Nat) (B : Nat) (w : World) (h : NdAt M w vi vn x) (hB : w.cell? ⟨B, 0, none⟩ = some (.int .i64 dim)) :
    Calls Try.prog 55 #[.agg #[.bool x.leaf, vi, vn, .int .i64 x.pl.off, .int .i64 x.left, .int .i64 x.right], .pointer (some ⟨B, 0, none⟩)] w fun e w' => e = .returned (.bool (!bareB x dim)) ∧ Below w.heap.size w w' := by
  obtain ⟨ai, ci, rfl, hli, hci⟩ := slice_form' h.ids
  obtain ⟨an, cn, rfl, hln, hcn⟩ := slice_form' h.normal
  have hb := (Below.refl w.heap.size w).alloc (Nat.le_refl _) (.cells #[.bool x.leaf, .slice ai x.ids.length ci, .slice an x.pl.normal.length cn, .int .i64 x.pl.off, .int .i64 x.left, .int .i64 x.right] 48)
  have hc := bare_calls _ _ x dim M _ (h.below hb)
  have HC := Lib.hid hc
  have HB := Lib.hid hb
  have hlt := cell_lt hB
  simp only at hlt
  clear hb hc h
  go_enter Try.func55, Try.ntmps55
  go_wp2_with fail
  refine HC.out.mono ?_
  rintro e w1 ⟨rfl, hb1⟩
  have HB1 := Lib.hid (HB.out.trans (hb1.mono HB.out.size))
  clear hb1 HC
  go_wp2_with fail
  go_ret
  exact ⟨rfl, HB1.out⟩

def FirstOdd (l : List Nd) (dim : Int) (w : World) (e : Ending) (w' : World) : Prop := ∃ r : Int, e = .returned (.int .i64 r) ∧ decide (0 ≤ r) = l.any (fun x => !bareB x dim) ∧ Below w.heap.size w w'

set_option maxHeartbeats 1000000 in
theorem indexFunc_calls (v : Value) (l : List Nd) (dim : Int) (M : List Nat) (B : Nat) (w : World) (h : kNd.slice.At M w [v] l) (hB : w.cell? ⟨B, 0, none⟩ = some (.int .i64 dim)) :
    Calls Try.prog 89 #[v, .func (.func 55) #[] #[.pointer (some ⟨B, 0, none⟩)]] w (FirstOdd l dim w) := by
  obtain ⟨ao, cap, rfl, hl, hcap⟩ := Kd.slice_form h
  have H := Lib.hid h
  have HBB := Lib.hid hB
  have hlt0 := cell_lt hB
  simp only at hlt0
  clear h hB
  unfold maxLen at hcap
  go_enter Try.func89, Try.ntmps89
  go_wp2
  go_loopw [8] (fun i wr => ∃ k : Nat, k ≤ l.length ∧ i = .int .i64 k ∧ Hid ((l.take k).any (fun x => !bareB x dim) = false) ∧ Hid (Below w.heap.size w wr)) (fun i _ => l.length - (intOf i).toNat)
  case atStart => exact ⟨0, Nat.zero_le _, rfl, rfl, Below.refl _ _⟩
  case round =>
    obtain ⟨k, hk, rfl, hq, hw⟩ := hrel
    by_cases hlt : k < l.length
    · obtain ⟨x, hx⟩ : ∃ x, l[k]? = some x := ⟨_, List.getElem?_eq_getElem hlt⟩
      obtain ⟨b, o, c, vi, vn, hv, _, _, _, _, hn, c0, c1, c2, c3, c4, c5⟩ := nds_at (H.out.below hw.out) hx
      simp at hv
      obtain ⟨rfl, rfl⟩ := hv
      have hBr : wr.cell? ⟨B, 0, none⟩ = some (.int .i64 dim) := (hw.out.cell (p := ⟨B, 0, none⟩) hlt0).trans HBB.out
      have HC := Lib.hid (check1_calls vi vn x dim M B wr hn hBr)
      obtain ⟨ai, ci, rfl, _, _⟩ := slice_form' hn.ids
      obtain ⟨an, cn, rfl, _, _⟩ := slice_form' hn.normal
      have HX := Lib.hid hx
      clear hx hn hBr
      go_wp2_with fail
      refine HC.out.mono ?_
      rintro e w1 ⟨rfl, hb1⟩
      have HB1 := Lib.hid (hw.out.trans (hb1.mono hw.out.size))
      clear hb1 HC
      generalize hz : (!bareB x dim) = z
      have HZ := Lib.hid hz
      clear hz
      cases z with
      | true =>
        go_wp2_with fail
        go_ret
        exact ⟨k, rfl, by rw [any_at HX.out HZ.out]; simp, HB1.out⟩
      | false =>
        go_wp2_with fail
        go_roundw
        case rel => exact ⟨k + 1, by omega, by go_num, any_take HX.out hq HZ.out, HB1.out⟩
        case measure => simp [intOf]; omega
    · have e : l.take k = l := List.take_of_length_le (by omega)
      rw [e] at hq
      have HQ := Lib.hid hq.out
      clear e hq
      go_wp2
      go_ret
      exact ⟨-1, rfl, by rw [HQ.out]; rfl, hw.out⟩

theorem containsFunc_calls (v : Value) (l : List Nd) (dim : Int) (M : List Nat) (B : Nat) (w : World) (h : kNd.slice.At M w [v] l) (hB : w.cell? ⟨B, 0, none⟩ = some (.int .i64 dim)) :
    Calls Try.prog 57 #[v, .func (.func 55) #[] #[.pointer (some ⟨B, 0, none⟩)]] w fun e w' => e = .returned (.bool (l.any (fun x => !bareB x dim))) ∧ Below w.heap.size w w' := by
  have HC := Lib.hid (indexFunc_calls v l dim M B w h hB)
  clear h hB
  obtain ⟨r, hr⟩ : ∃ r, l.any (fun x => !bareB x dim) = r := ⟨_, rfl⟩
  rw [hr]
  have HR := Lib.hid hr
  clear hr
  go_enter Try.func57, Try.ntmps57
  go_wp2_with fail
  refine HC.out.mono ?_
  rintro e w1 ⟨i, rfl, hi, hb1⟩
  have HI := Lib.hid hi
  have HB1 := Lib.hid hb1
  clear hi hb1
  go_wp2_with fail
  go_ret
  refine ⟨?_, HB1.out⟩
  rw [← HR.out, ← HI.out]
  rfl

/-! ### The same nodes -/
def sameNd (x y : Nd) : Bool := x.leaf == y.leaf && x.left == y.left && x.right == y.right && (x.ids == y.ids) && ((x.pl.off == y.pl.off) && (x.pl.normal == y.pl.normal))
theorem sameNd_iff (x y : Nd) : sameNd x y = decide (x = y) := by
  rw [Bool.eq_iff_iff]
  obtain ⟨a, b, ⟨c, d⟩, e, f⟩ := x
  obtain ⟨a', b', ⟨c', d'⟩, e', f'⟩ := y
  simp [sameNd]
  constructor
  · rintro ⟨⟨⟨⟨h1, h2⟩, h3⟩, h4⟩, h5, h6⟩; exact ⟨h1, h4, ⟨h6, h5⟩, h2, h3⟩
  · rintro ⟨h1, h4, ⟨h6, h5⟩, h2, h3⟩; exact ⟨⟨⟨⟨h1, h2⟩, h3⟩, h4⟩, h5, h6⟩

set_option maxHeartbeats 1000000 in
theorem same1_calls (vi vn ui un : Value) (x y : Nd) (M : List Nat) (w : World) (h : NdAt M w vi vn x) (g : NdAt M w ui un y) :
    Calls Try.prog 52 #[.agg #[.bool x.leaf, vi, vn, .int .i64 x.pl.off, .int .i64 x.left, .int .i64 x.right], .agg #[.bool y.leaf, ui, un, .int .i64 y.pl.off, .int .i64 y.left, .int .i64 y.right]] w fun e w' =>
      e = .returned (.bool (sameNd x y)) ∧ Below w.heap.size w w' := by
  obtain ⟨ai, ci, rfl, hli, hci⟩ := slice_form' h.ids
  obtain ⟨an, cn, rfl, hln, hcn⟩ := slice_form' h.normal
  obtain ⟨bi, di, rfl, hmi, hdi⟩ := slice_form' g.ids
  obtain ⟨bn, dn, rfl, hmn, hdn⟩ := slice_form' g.normal
  have hb := ((Below.refl w.heap.size w).alloc (Nat.le_refl _) (.cells #[.bool x.leaf, .slice ai x.ids.length ci, .slice an x.pl.normal.length cn, .int .i64 x.pl.off, .int .i64 x.left, .int .i64 x.right] 48)).alloc (by simp) (.cells #[.bool y.leaf, .slice bi y.ids.length di, .slice bn y.pl.normal.length dn, .int .i64 y.pl.off, .int .i64 y.left, .int .i64 y.right] 48)
  have h1 := equal_int_calls _ _ x.ids y.ids M _ (h.ids.below hb) (g.ids.below hb)
  have h2 := fun n => plane_same_calls _ _ x.pl.off y.pl.off x.pl.normal y.pl.normal M _ ((h.normal.below hb).below (bdN _ _ n)) ((g.normal.below hb).below (bdN _ _ n))
  obtain ⟨r, hr⟩ : ∃ r, sameNd x y = r := ⟨_, rfl⟩
  rw [hr]
  have HR := Lib.hid hr
  have H1 := Lib.hid h1
  have H2 := Lib.hid h2
  have HB := Lib.hid hb
  clear hr h1 h2 hb h g
  obtain ⟨xl, xi, ⟨xn, xo⟩, xa, xb⟩ := x
  obtain ⟨yl, yi, ⟨yn, yo⟩, ya, yb⟩ := y
  simp only at *
  by_cases e1 : (xl == yl) = true
  · have e1 := beq_iff_eq.1 e1
    subst e1
    by_cases e2 : xa = ya
    · subst e2
      by_cases e3 : xb = yb
      · subst e3
        go_enter Try.func52, Try.ntmps52
        go_wp2_with fail
        refine H1.out.mono ?_
        rintro e w1 ⟨rfl, n, rfl⟩
        generalize hq : (xi == yi) = q at *
        have HQ := Lib.hid hq
        clear hq
        cases q with
        | false =>
          go_wp2_with fail
          go_ret
          refine ⟨?_, HB.out.trans (bdN _ _ _)⟩
          rw [← HR.out, sameNd, HQ.out]
          simp
        | true =>
          go_wp2_with fail
          refine (H2.out n).mono ?_
          rintro e w1 ⟨rfl, hb1⟩
          have HB1 := Lib.hid (HB.out.trans ((bdN _ _ n).trans (hb1.mono HB.out.size)))
          clear hb1 H1 H2
          go_wp2_with fail
          go_ret
          refine ⟨?_, HB1.out⟩
          rw [← HR.out, sameNd, HQ.out]
          simp
      · have e3' : (xb == yb) = false := by simpa using e3
        go_enter Try.func52, Try.ntmps52
        go_wp2_with fail
        go_ret
        refine ⟨?_, HB.out⟩
        rw [← HR.out, sameNd, e3']
        simp
    · have e2' : (xa == ya) = false := by simpa using e2
      go_enter Try.func52, Try.ntmps52
      go_wp2_with fail
      go_ret
      refine ⟨?_, HB.out⟩
      rw [← HR.out, sameNd, e2']
      simp
  · have e1' : (xl == yl) = false := by simpa using e1
    go_enter Try.func52, Try.ntmps52
    go_wp2_with fail
    go_ret
    refine ⟨?_, HB.out⟩
    rw [← HR.out, sameNd, e1']
    rfl

end Go.Proofs.Ytfkmkhojedfccaa
