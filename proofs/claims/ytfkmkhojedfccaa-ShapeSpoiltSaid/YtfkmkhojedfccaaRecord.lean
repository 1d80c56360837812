/-
record's rows: their kind; record.may; the parts of record.Put.
-/
import Derived.Test.YtfkmkhojedfccaaFieldRow
import Derived.Test.YtfkmkhojedfccaaNode
namespace Go.Proofs.Ytfkmkhojedfccaa
set_option linter.unusedVariables false
set_option linter.unusedSimpArgs false
open Go.RowKit

structure Rw where
  leaf : Bool
  count : Int
  place : Int
  pl : Pl
  right : Int
  deriving DecidableEq

def kRw : Kd Rw where
  sz := 6
  rep F w cs x := ∃ vn, cs = [.bool x.leaf, .int .i64 x.count, .int .i64 x.place, vn, .int .i64 x.pl.off, .int .i64 x.right] ∧ (Kd.int .i32).slice.rep F w [vn] x.pl.normal ∧
    (Lit.int .i64 x.count).wf = true ∧ (Lit.int .i64 x.place).wf = true ∧ (Lit.int .i64 x.pl.off).wf = true ∧ (Lit.int .i64 x.right).wf = true
  len h := by obtain ⟨vn, rfl, _⟩ := h; rfl
  one h := by
    obtain ⟨vn, rfl, h1, _⟩ := h
    intro v hv
    simp at hv
    rcases hv with rfl | rfl | rfl | rfl | rfl | rfl
    · rfl
    · rfl
    · rfl
    · exact (Kd.int .i32).slice.one h1 _ (by simp)
    · rfl
    · rfl
  mono h hF hw := by
    obtain ⟨vn, h0, h1, h2⟩ := h
    exact ⟨vn, h0, Kd.mono _ h1 hF hw, h2⟩

/-- A row's cells, opened. -/
structure RwAt (M : List Nat) (w : World) (vn : Value) (x : Rw) : Prop where
  normal : (Kd.int .i32).slice.At M w [vn] x.pl.normal
  wc : (Lit.int .i64 x.count).wf = true
  wp : (Lit.int .i64 x.place).wf = true
  wo : (Lit.int .i64 x.pl.off).wf = true
  wr : (Lit.int .i64 x.right).wf = true
theorem rw_open {M : List Nat} {w : World} {cs : List Value} {x : Rw} (h : kRw.At M w cs x) : ∃ vn, cs = [.bool x.leaf, .int .i64 x.count, .int .i64 x.place, vn, .int .i64 x.pl.off, .int .i64 x.right] ∧ RwAt M w vn x := by
  obtain ⟨vn, h0, h1, h2, h3, h4, h5⟩ := h.out
  exact ⟨vn, h0, ⟨h1⟩, h2, h3, h4, h5⟩
theorem RwAt.below {M : List Nat} {w w' : World} {vn : Value} {x : Rw} (h : RwAt M w vn x) (hu : Below w.heap.size w w') : RwAt M w' vn x := ⟨h.normal.below hu, h.wc, h.wp, h.wo, h.wr⟩

def inB (n most : Int) : Bool := decide (0 ≤ n ∧ n ≤ most)
def mayB (x : Rw) (dim : Int) : Bool :=
  if x.leaf then inB x.count 1048576 && (inB x.place 268435456 && ((x.pl.off == 0 && x.pl.normal == []) && x.right == 0))
  else x.count == 0 && (x.place == 0 && (planeCheck x.pl dim == 0 && inB x.right 1073741824))

theorem may1_calls (n most : Int) (w : World) : Calls Try.prog 72 #[.int .i64 n, .int .i64 most] w fun e w' => e = .returned (.bool (inB n most)) ∧ w = w' := by
  obtain ⟨q, hq⟩ : ∃ q, inB n most = q := ⟨_, rfl⟩
  rw [hq]
  have HQ := Lib.hid hq
  clear hq
  go_enter Try.func72, Try.ntmps72
  go_wp2
  all_goals
    go_ret
    refine ⟨?_, rfl⟩
    rw [← HQ.out]
    simp [inB, *]
    try omega

set_option maxHeartbeats 2000000 in
set_option maxRecDepth 100000 in
theorem may_calls (vn : Value) (x : Rw) (dim : Int) (M : List Nat) (w : World) (h : RwAt M w vn x) :
    Calls Try.prog 35 #[.agg #[.bool x.leaf, .int .i64 x.count, .int .i64 x.place, vn, .int .i64 x.pl.off, .int .i64 x.right], .int .i64 dim] w fun e w' => e = .returned (.bool (mayB x dim)) ∧ Below w.heap.size w w' := by
  obtain ⟨an, cn, rfl, hln, hcn⟩ := slice_form' h.normal
  have hb := below_alloc1 w (.cells #[.bool x.leaf, .int .i64 x.count, .int .i64 x.place, .slice an x.pl.normal.length cn, .int .i64 x.pl.off, .int .i64 x.right] 31)
  have hs := plane_same_calls _ _ x.pl.off 0 x.pl.normal [] M _ (h.normal.below hb) (Kd.slice_nil (Kd.int .i32) M _ none 0 (by simp [maxLen]))
  have hc := plane_check_calls _ x.pl.off dim x.pl.normal M _ (h.normal.below hb)
  have HS := Lib.hid hs
  have HC := Lib.hid hc
  have HB := Lib.hid hb
  obtain ⟨r, hr⟩ : ∃ r, mayB x dim = r := ⟨_, rfl⟩
  rw [hr]
  have HR := Lib.hid hr
  unfold maxLen at hcn
  have H1 := Lib.hid (fun n most => may1_calls n most (w.alloc (.cells #[.bool x.leaf, .int .i64 x.count, .int .i64 x.place, .slice an x.pl.normal.length cn, .int .i64 x.pl.off, .int .i64 x.right] 31)))
  clear hs hc hb hr h
  obtain ⟨leaf, count, place, pl, right⟩ := x
  simp only at *
  cases leaf with
  | true =>
    have e : mayB ⟨true, count, place, pl, right⟩ dim = (inB count 1048576 && (inB place 268435456 && ((pl.off == 0 && pl.normal == []) && right == 0))) := rfl
    rw [e] at HR
    clear e
    have A1 := Lib.hid (H1.out count 1048576)
    have A2 := Lib.hid (H1.out place 268435456)
    generalize hq1 : inB count 1048576 = q1 at *
    generalize hq2 : inB place 268435456 = q2 at *
    generalize hq3 : (pl.off == 0 && pl.normal == []) = q3 at *
    clear hq1 hq2 hq3 H1
    go_enter Try.func35, Try.ntmps35
    go_wp2_with fail
    refine A1.out.mono ?_
    rintro e w1 ⟨rfl, rfl⟩
    cases q1 with
    | false =>
      go_wp2_with fail
      go_ret
      exact ⟨by rw [← HR.out]; rfl, HB.out⟩
    | true =>
      go_wp2_with fail
      refine A2.out.mono ?_
      rintro e w1 ⟨rfl, rfl⟩
      cases q2 with
      | false =>
        go_wp2_with fail
        go_ret
        exact ⟨by rw [← HR.out]; rfl, HB.out⟩
      | true =>
        go_wp2_with fail
        refine HS.out.mono ?_
        rintro e w1 ⟨rfl, hb1⟩
        have d5 := box_cell hb1 5
        simp only [List.getElem?_toArray, List.getElem?_cons_succ, List.getElem?_cons_zero] at d5
        have HB1 := Lib.hid (HB.out.trans (hb1.mono HB.out.size))
        clear hb1
        cases q3 with
        | false =>
          go_wp2_with fail
          go_ret
          exact ⟨by rw [← HR.out]; rfl, HB1.out⟩
        | true =>
          go_wp2_with fail
          go_ret
          exact ⟨by rw [← HR.out]; rfl, HB1.out⟩
  | false =>
    have e : mayB ⟨false, count, place, pl, right⟩ dim = (count == 0 && (place == 0 && (planeCheck pl dim == 0 && inB right 1073741824))) := rfl
    rw [e] at HR
    clear e
    by_cases e1 : count = 0
    · subst e1
      by_cases e2 : place = 0
      · subst e2
        generalize hq : planeCheck { normal := pl.normal, off := pl.off } dim = q at *
        clear hq
        go_enter Try.func35, Try.ntmps35
        go_wp2_with fail
        refine HC.out.mono ?_
        rintro e w1 ⟨rfl, hb1⟩
        have d5 := box_cell hb1 5
        simp only [List.getElem?_toArray, List.getElem?_cons_succ, List.getElem?_cons_zero] at d5
        have HB1 := Lib.hid (HB.out.trans (hb1.mono HB.out.size))
        have A3 := Lib.hid (may1_calls right 1073741824 w1)
        generalize hq3 : inB right 1073741824 = q3 at *
        clear hb1 hq3
        by_cases e3 : q = 0
        · subst e3
          go_wp2_with fail
          refine A3.out.mono ?_
          rintro e w2 ⟨rfl, rfl⟩
          go_wp2_with fail
          go_ret
          exact ⟨by rw [← HR.out]; rfl, HB1.out⟩
        · have e3' : (q == 0) = false := by simpa using e3
          go_wp2_with fail
          go_ret
          exact ⟨by rw [← HR.out, e3']; rfl, HB1.out⟩
      · have e2' : (place == 0) = false := by simpa using e2
        go_enter Try.func35, Try.ntmps35
        go_wp2_with fail
        go_ret
        exact ⟨by rw [← HR.out, e2']; rfl, HB.out⟩
    · have e1' : (count == 0) = false := by simpa using e1
      go_enter Try.func35, Try.ntmps35
      go_wp2_with fail
      go_ret
      exact ⟨by rw [← HR.out, e1']; rfl, HB.out⟩

theorem size_calls (dim : Int) (w : World) : Calls Try.prog 16 #[.int .i64 dim] w fun e w' => e = .returned (.int .i64 (if dim < 1 ∨ 1024 < dim then 0 else 13 + 4 * dim)) ∧ w = w' := by
  by_cases h : dim < 1 ∨ 1024 < dim
  · rw [if_pos h]
    by_cases h1 : dim < 1
    · clear h
      go_enter Try.func16, Try.ntmps16
      go_wp2
      go_ret
      exact ⟨rfl, rfl⟩
    · have h2 : 1024 < dim := by omega
      clear h
      go_enter Try.func16, Try.ntmps16
      go_wp2
      go_ret
      exact ⟨rfl, rfl⟩
  · rw [if_neg h]
    have h1 : 1 ≤ dim := by omega
    have h2 : dim ≤ 1024 := by omega
    clear h
    go_enter Try.func16, Try.ntmps16
    go_wp2
    go_ret
    exact ⟨rfl, rfl⟩

/-- A record: its kind, a number of four bytes, one of eight, the rest. -/
def recS (kind a b : Int) (rest : ByteArray) : ByteArray := putS (IntKind.u64.wrap kind) 1 ++ putS (IntKind.u64.wrap a) 4 ++ putS (IntKind.u64.wrap b) 8 ++ rest

theorem putS_size {n size : Int} (h1 : 1 ≤ size) (h8 : size ≤ 8) : (putS n size).size = size.toNat := by
  unfold putS putI
  rw [if_neg (by omega), strOfNums_size, leI_len]

set_option maxHeartbeats 1000000 in
theorem all_calls (kind a b : Int) (rest : ByteArray) (hrest : rest.size ≤ 1000000) (w : World) :
    Calls Try.prog 36 #[.int .i64 kind, .int .i64 a, .int .i64 b, .string rest] w fun e w' => e = .returned (.string (recS kind a b rest)) ∧ Below w.heap.size w w' := by
  have H1 := Lib.hid (field_put_calls (IntKind.u64.wrap kind) 1 w (wrap_u64_wf kind))
  go_enter Try.func36, Try.ntmps36
  go_wp2_with fail
  refine H1.out.mono ?_
  rintro e w1 ⟨rfl, hb1⟩
  have HB1 := Lib.hid hb1
  have H2 := Lib.hid (field_put_calls (IntKind.u64.wrap a) 4 w1 (wrap_u64_wf a))
  clear hb1
  go_wp2_with fail
  refine H2.out.mono ?_
  rintro e w2 ⟨rfl, hb2⟩
  have HB2 := Lib.hid (HB1.out.trans (hb2.mono HB1.out.size))
  have H3 := Lib.hid (field_put_calls (IntKind.u64.wrap b) 8 w2 (wrap_u64_wf b))
  clear hb2
  go_wp2_with fail
  refine H3.out.mono ?_
  rintro e w3 ⟨rfl, hb3⟩
  have HB3 := Lib.hid (HB2.out.trans (hb3.mono HB2.out.size))
  clear hb3
  have hsz : (putS (IntKind.u64.wrap kind) 1 ++ putS (IntKind.u64.wrap a) 4 ++ putS (IntKind.u64.wrap b) 8).size + rest.size ≤ 1000013 := by
    simp only [ByteArray.size_append]
    rw [putS_size (by omega) (by omega), putS_size (by omega) (by omega), putS_size (by omega) (by omega)]
    omega
  go_wp2_with fail
  go_ret
  exact ⟨rfl, HB3.out⟩

end Go.Proofs.Ytfkmkhojedfccaa
