/-
The document's example of marks; the law MarksCover.
-/
import Derived.Test.YteafbhpjjibdeaaValues
import Derived.Test.YteafbhpjjibdeaaSame
namespace Go.Proofs.Yteafbhpjjibdeaa
set_option linter.unusedVariables false
set_option linter.unusedSimpArgs false
open Go.RowKit

/-- A slice literal of numbers. -/
theorem lit_at {k : IntKind} {N : List Nat} {w : World} {b : Nat} {l : List Int} {t : TypeId} {fr : Nat × Nat} (h : w.heap[b]? = some (.cells (l.map (Value.int k)).toArray t fr)) (hn : b ∉ N) (hx : ∀ x ∈ l, (Lit.int k x).wf = true) (hl : l.length ≤ maxLen) :
    (Kd.int k).slice.At N w [.slice (some ⟨b, 0, none⟩) l.length l.length] l := by
  refine ⟨⟨some ⟨b, 0, none⟩, l.length, rfl, Nat.le_refl _, hl, fun i x hi => ?_⟩⟩
  have hb := block_lt h
  refine ⟨b, 0, rfl, ⟨hb, hn⟩, hb, [.int k x], ⟨rfl, hx x (List.mem_of_getElem? hi)⟩, fun j u hj => ?_⟩
  cases j with
  | zero =>
    simp at hj
    subst hj
    rw [cell_of_block h]
    simp [Kd.int, hi]
  | succ j => simp at hj

theorem flat_le : ∀ xs : List (List Int), (∀ x ∈ xs, x.length ≤ 100) → xs.flatten.length ≤ 100 * xs.length
  | [], _ => by simp
  | a :: r, h => by
    have h1 := flat_le r (fun x hx => h x (by simp [hx]))
    have h2 := h a (by simp)
    simp only [List.flatten_cons, List.length_append, List.length_cons]
    omega

set_option maxHeartbeats 4000000 in
set_option maxRecDepth 100000 in
theorem awake09_calls (w : World) : Calls Try.prog 11 #[] w fun e w' => e = .returned (.bool true) ∧ Below w.heap.size w w' := by
  obtain ⟨W0, hW0⟩ : ∃ W0, w.alloc (.cells #[.int .i64 3, .int .i64 1, .int .i64 3] 3) = W0 := ⟨_, rfl⟩
  have hb0 : Below w.heap.size w W0 := by rw [← hW0]; exact (Below.refl _ w).alloc (Nat.le_refl _) _
  have hx0 : W0.heap[w.heap.size]? = some (.cells ([3, 1, 3].map (Value.int .i64)).toArray 3) := by rw [← hW0]; exact Go.heap_alloc_new w _
  have hat := lit_at (N := []) hx0 (by simp) (by decide) (by simp [maxLen])
  have HU := marks_unique_calls _ _ _ W0 hat (by simp)
  rw [show uniq [3, 1, 3] = [1, 3] by decide] at HU
  have HUU := Lib.hid HU
  have HB0 := Lib.hid hb0
  clear hb0 hx0 hat HU
  go_enter Try.func11, Try.ntmps11
  go_wp2_with fail
  refine HUU.out.mono ?_
  rintro e w1 ⟨v1, rfl, hb1, hr1⟩
  clear hW0
  have HB1 := Lib.hid (HB0.out.trans (hb1.mono HB0.out.size))
  obtain ⟨g, cap, hv, _, _, _, _, d0⟩ := int_row_get hr1 (i := 0) (x := 1) rfl
  obtain ⟨g', cap', hv', _, _, _, _, d1⟩ := int_row_get hr1 (i := 1) (x := 3) rfl
  rw [hv] at hv'
  simp at hv'
  obtain ⟨rfl, rfl⟩ := hv'
  subst hv
  have HN := Lib.hid (marks_new_calls 3 (by omega) w1)
  clear hb1 hr1
  go_wp2_with fail
  refine HN.out.mono ?_
  rintro e w2 ⟨p, g2, rfl, hb2, _, _, _⟩
  have HB2 := Lib.hid (HB1.out.trans (hb2.mono HB1.out.size))
  clear hb2 d0 d1
  obtain ⟨W3, hW3⟩ : ∃ W3, ((w2.alloc (.cells #[.int .i64 1] 3)).alloc (.cells #[.int .i64 0] 3)).alloc (.cells #[.slice (some ⟨w2.heap.size, 0, none⟩) 1 1, .slice (some ⟨w2.heap.size + 1, 0, none⟩) 1 1] 22) = W3 := ⟨_, rfl⟩
  have hu3 : Upd [] w2 W3 := by rw [← hW3]; exact ((Upd.alloc [] w2 _).trans (Upd.alloc [] _ _)).trans (Upd.alloc [] _ _)
  have q1 : W3.heap[w2.heap.size]? = some (.cells #[.int .i64 1] 3) := by rw [← hW3, Below.heap_alloc _ _ _ (by simp; omega)]; exact alloc2_fst w2 _ _
  have q2 : W3.heap[w2.heap.size + 1]? = some (.cells #[.int .i64 0] 3) := by rw [← hW3, Below.heap_alloc _ _ _ (by simp)]; exact alloc2_snd w2 _ _
  have q3 : W3.heap[w2.heap.size + 2]? = some (.cells #[.slice (some ⟨w2.heap.size, 0, none⟩) 1 1, .slice (some ⟨w2.heap.size + 1, 0, none⟩) 1 1] 22) := by
    rw [← hW3]; have := Go.heap_alloc_new ((w2.alloc (.cells #[.int .i64 1] 3)).alloc (.cells #[.int .i64 0] 3)) (.cells #[.slice (some ⟨w2.heap.size, 0, none⟩) 1 1, .slice (some ⟨w2.heap.size + 1, 0, none⟩) 1 1] 22); simpa using this
  have hlists : (Kd.int .i64).slice.slice.At [] W3 [.slice (some ⟨w2.heap.size + 2, 0, none⟩) 2 2] [[1], [0]] := by
    have b3 := block_lt q3
    refine ⟨⟨some ⟨w2.heap.size + 2, 0, none⟩, 2, rfl, Nat.le_refl _, by simp [maxLen], fun i x hi => ?_⟩⟩
    match i, hi with
    | 0, hi =>
      simp at hi; subst hi
      refine ⟨w2.heap.size + 2, 0, rfl, ⟨b3, by simp⟩, b3, _, (one_at q1 (by simp) (by decide)).out, fun j u hj => ?_⟩
      match j, hj with
      | 0, hj => simp at hj; subst hj; rw [cell_of_block q3]; rfl
    | 1, hi =>
      simp at hi; subst hi
      refine ⟨w2.heap.size + 2, 0, rfl, ⟨b3, by simp⟩, b3, _, (one_at q2 (by simp) (by decide)).out, fun j u hj => ?_⟩
      match j, hj with
      | 0, hj => simp at hj; subst hj; rw [cell_of_block q3]; rfl
  have HV := Lib.hid (values_calls _ _ [] W3 hlists (by simp))
  have HB3 := Lib.hid (HB2.out.trans (hu3.below.mono HB2.out.size))
  have hz3 := hu3.size
  clear hu3 q1 q2 q3 hlists
  go_wp2_with fail
  refine HV.out.mono ?_
  rintro e w4 ⟨bx, rfl, hb4, hit⟩
  clear hW3
  have HB4 := Lib.hid (HB3.out.trans (hb4.mono HB3.out.size))
  have HC := covers_calls 2 (by omega) _ _ _ w4 (enters_it Try.func45 rfl rfl) [] hit
  rw [show covers 2 [[1], [0]] = true by decide] at HC
  have HCC := Lib.hid HC
  clear hb4 hit HC
  go_wp2_with fail
  refine HCC.out.mono ?_
  rintro e w5 ⟨rfl, hb5⟩
  have HB5 := Lib.hid (HB4.out.trans (hb5.mono HB4.out.size))
  clear hb5
  go_wp2_with fail
  go_ret
  exact ⟨rfl, HB5.out⟩

set_option maxHeartbeats 4000000 in
set_option maxRecDepth 100000 in
theorem marksCover_calls (n : Int) (v : Value) (xs : List (List Int)) (w : World) (h : (Kd.int .i64).slice.slice.At [] w [v] xs) (hn1 : -9223372036854775808 ≤ n) :
    Calls Try.prog 4 #[.int .i64 n, v] w fun e w' => e = .returned (.bool true) ∧ Below w.heap.size w w' := by
  obtain ⟨ao, cap, rfl, hl, hcap⟩ := Kd.slice_form h
  unfold maxLen at hcap
  have HA := Lib.hid (awake09_calls w)
  have H := Lib.hid h
  clear h
  go_enter Try.func4, Try.ntmps4
  go_wp2_with fail
  refine HA.out.mono ?_
  rintro e w1 ⟨rfl, hb1⟩
  have HB1 := Lib.hid hb1
  have H1 := Lib.hid (H.out.below hb1)
  clear hb1 HA
  by_cases hn : 5000 < n
  · go_wp2_with fail
    go_ret
    exact ⟨rfl, HB1.out⟩
  by_cases hx : 100 < xs.length
  · go_wp2_with fail
    go_ret
    exact ⟨rfl, HB1.out⟩
  go_wp2_with fail
  go_loopw [5] (fun i wr => ∃ k : Nat, k ≤ xs.length ∧ i = .int .i64 k ∧ Hid (∀ x ∈ xs.take k, x.length ≤ 100) ∧ wr = w1) (fun i _ => xs.length - (intOf i).toNat)
  case atStart => exact ⟨0, Nat.zero_le _, rfl, Lib.hid (by simp), rfl⟩
  case round =>
    obtain ⟨k, hk, rfl, hq, rfl⟩ := hrel
    by_cases hlt : k < xs.length
    · obtain ⟨x, hxk⟩ : ∃ x, xs[k]? = some x := ⟨_, List.getElem?_eq_getElem hlt⟩
      obtain ⟨b, o, c, vi, hv, _, _, _, _, c0, hi⟩ := lists_at H1.out hxk
      simp at hv
      obtain ⟨rfl, rfl⟩ := hv
      obtain ⟨ai, ci, rfl, _, _⟩ := slice_form' hi
      have hi1 : (k : Int) < (xs.length : Int) := by omega
      have htk : ∀ y ∈ xs.take (k + 1), y ∈ xs.take k ∨ y = x := by rw [take_snoc' hxk]; simp
      have HTK := Lib.hid htk
      clear hxk hi htk
      by_cases hbig : 100 < x.length
      · go_wp2_with fail
        go_ret
        exact ⟨rfl, HB1.out⟩
      · go_wp2_with fail
        go_roundw
        case rel => exact ⟨k + 1, by omega, by go_num, Lib.hid (fun y hy => by rcases HTK.out y hy with h | rfl; exact hq.out y h; omega), by first | rfl | trivial⟩
        case measure => simp [intOf]; omega
    · have hq' : ∀ x ∈ xs, x.length ≤ 100 := by
        have := hq.out
        rwa [List.take_of_length_le (by omega)] at this
      have hfl := flat_le xs hq'
      have hfl2 : xs.flatten.length ≤ 1099511627776 := by omega
      have HFL := Lib.hid hfl2
      have HV := Lib.hid (values_calls _ xs [] wr H1.out (by simp))
      clear hq' hfl hfl2
      go_wp2_with fail
      refine HV.out.mono ?_
      rintro e w4 ⟨bx, rfl, hb4, hit⟩
      have HB4 := Lib.hid (HB1.out.trans (hb4.mono HB1.out.size))
      have H4 := Lib.hid (H1.out.below hb4)
      have HC := covers_calls n (by omega) _ _ xs w4 (enters_it Try.func45 rfl rfl) [] hit
      rw [covers_ref'] at HC
      have HCC := Lib.hid HC
      clear hb4 hit HC HV
      go_wp2_with fail
      refine HCC.out.mono ?_
      rintro e w5 ⟨rfl, hb5⟩
      have HB5 := Lib.hid (HB4.out.trans (hb5.mono HB4.out.size))
      have HRC := Lib.hid (ref_covers_calls _ n xs [] w5 (H4.out.below hb5) HFL.out hn1 (by omega))
      clear hb5 HCC
      obtain ⟨q, hq⟩ : ∃ q, coversRef n xs = q := ⟨_, rfl⟩
      rw [hq] at HRC ⊢
      clear hq
      go_wp2_with fail
      refine HRC.out.mono ?_
      rintro e w6 ⟨rfl, hb6⟩
      have HB6 := Lib.hid (HB5.out.trans (hb6.mono HB5.out.size))
      clear hb6
      go_wp2_with fail
      go_ret
      exact ⟨by simp, HB6.out⟩

theorem MarksCover_walk (n : Int) (v : Value) (xs : List (List Int)) (w : World) (hn : (Lit.int .i64 n).wf = true) (h : (Kd.int .i64).slice.slice.At [] w [v] xs) :
    Calls Try.prog 4 #[.int .i64 n, v] w fun e w' => e = .returned (.bool true) ∧ Below w.heap.size w w' :=
  marksCover_calls n v xs w h (i64wf hn).1

end Go.Proofs.Yteafbhpjjibdeaa
