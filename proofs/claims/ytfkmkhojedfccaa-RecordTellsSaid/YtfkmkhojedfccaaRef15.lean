/-
The document's records: ref15.May, Put.
-/
import Derived.Test.YtfkmkhojedfccaaRef01
import Derived.Test.YtfkmkhojedfccaaRecLaws
namespace Go.Proofs.Ytfkmkhojedfccaa
set_option linter.unusedVariables false
set_option linter.unusedSimpArgs false
open Go.RowKit

theorem ref15_in_calls (n most : Int) (w : World) : Calls Try.prog 82 #[.int .i64 n, .int .i64 most] w fun e w' => e = .returned (.bool (inB n most)) ∧ w = w' := by
  obtain ⟨q, hq⟩ : ∃ q, inB n most = q := ⟨_, rfl⟩
  rw [hq]
  have HQ := Lib.hid hq
  clear hq
  go_enter Try.func82, Try.ntmps82
  go_wp2
  all_goals
    go_ret
    refine ⟨?_, rfl⟩
    rw [← HQ.out]
    simp [inB, *]
    try omega

set_option maxHeartbeats 4000000 in
set_option maxRecDepth 100000 in
theorem ref15_may_calls (vn : Value) (x : Rw) (dim : Int) (M : List Nat) (w : World) (h : RwAt M w vn x) :
    Calls Try.prog 40 #[.agg #[.bool x.leaf, .int .i64 x.count, .int .i64 x.place, vn, .int .i64 x.pl.off, .int .i64 x.right], .int .i64 dim] w fun e w' => e = .returned (.bool (mayB x dim)) ∧ Below w.heap.size w w' := by
  obtain ⟨an, cn, rfl, hln, hcn⟩ := slice_form' h.normal
  unfold maxLen at hcn
  obtain ⟨W0, hW0⟩ : ∃ W0, w.alloc (.cells #[.bool x.leaf, .int .i64 x.count, .int .i64 x.place, .slice an x.pl.normal.length cn, .int .i64 x.pl.off, .int .i64 x.right] 26) = W0 := ⟨_, rfl⟩
  have hb0 : Below w.heap.size w W0 := by rw [← hW0]; exact below_alloc1 w _
  have hx0 : W0.heap[w.heap.size]? = some (rwObj (.slice an x.pl.normal.length cn) x 26) := by rw [← hW0]; exact Go.heap_alloc_new w _
  obtain ⟨g0, g1, g2, g3, g4, g5⟩ := rw_cells hx0
  have HC := ref11_check_calls (.slice an x.pl.normal.length cn) x.pl.off dim x.pl.normal M W0 (h.normal.below hb0)
  have HI : Hid (∀ n most W, Calls Try.prog 82 #[.int .i64 n, .int .i64 most] W fun e w' => e = .returned (.bool (inB n most)) ∧ W = w') := Lib.hid (fun n most W => ref15_in_calls n most W)
  have HB0 := Lib.hid hb0
  obtain ⟨leaf, count, place, pl, right⟩ := x
  simp only at *
  cases leaf with
  | true =>
    have e : mayB ⟨true, count, place, pl, right⟩ dim = (inB count 1048576 && (inB place 268435456 && ((pl.off == 0 && pl.normal == []) && right == 0))) := rfl
    have en : (pl.normal == []) = ((pl.normal.length : Int) == 0) := by cases pl.normal <;> simp; omega
    rw [e, en]
    have A1 := Lib.hid (HI.out count 1048576 W0)
    have A2 := Lib.hid (HI.out place 268435456 W0)
    generalize hq1 : inB count 1048576 = q1 at *
    generalize hq2 : inB place 268435456 = q2 at *
    generalize hq3 : (right == 0) = q3 at *
    generalize hq4 : (pl.off == 0) = q4 at *
    generalize hq5 : ((pl.normal.length : Int) == 0) = q5 at *
    clear hq1 hq2 HI HC e en hb0 hx0 h
    go_enter Try.func40, Try.ntmps40
    go_wp2_with fail
    refine A1.out.mono ?_
    rintro e w1 ⟨rfl, rfl⟩
    cases q1 with
    | false =>
      go_wp2_with fail
      go_ret
      exact ⟨by simp, HB0.out⟩
    | true =>
      go_wp2_with fail
      refine A2.out.mono ?_
      rintro e w1 ⟨rfl, rfl⟩
      cases q2 <;> cases q3 <;> cases q4 <;> cases q5
      all_goals
        go_wp2_with fail
        go_ret
        exact ⟨by simp, HB0.out⟩
  | false =>
    have e : mayB ⟨false, count, place, pl, right⟩ dim = (count == 0 && (place == 0 && (planeCheck pl dim == 0 && inB right 1073741824))) := rfl
    rw [e]
    have A1 := Lib.hid (HI.out right 1073741824 W0)
    generalize hq1 : (count == 0) = q1 at *
    generalize hq2 : (place == 0) = q2 at *
    generalize hq3 : inB right 1073741824 = q3 at *
    obtain ⟨pc, hpc⟩ : ∃ c, planeCheck pl dim = c := ⟨_, rfl⟩
    have HC : Calls Try.prog 83 #[.agg #[.slice an pl.normal.length cn, .int .i64 pl.off], .int .i64 dim] W0 fun e w' => e = .returned (.int .i64 pc) ∧ Below W0.heap.size W0 w' := by rw [← hpc]; exact HC
    rw [hpc]
    generalize hq4 : (pc == 0) = q4 at *
    have HC := Lib.hid HC
    clear hq3 HI e hb0 hx0 h hpc
    go_enter Try.func40, Try.ntmps40
    cases q1 with
    | false =>
      go_wp2_with fail
      go_ret
      exact ⟨by simp, HB0.out⟩
    | true =>
      cases q2 with
      | false =>
        go_wp2_with fail
        go_ret
        exact ⟨by simp, HB0.out⟩
      | true =>
        go_wp2_with fail
        refine A1.out.mono ?_
        rintro e w1 ⟨rfl, rfl⟩
        cases q3 with
        | false =>
          go_wp2_with fail
          go_ret
          exact ⟨by simp, HB0.out⟩
        | true =>
          go_wp2_with fail
          refine HC.out.mono ?_
          rintro e w1 ⟨rfl, hb1⟩
          have HB1 := Lib.hid (HB0.out.trans (hb1.mono HB0.out.size))
          clear hb1
          cases q4
          all_goals
            go_wp2_with fail
            go_ret
            exact ⟨by simp, HB1.out⟩

theorem leI1_wrap : leI 1 (IntKind.u64.wrap 1) = leI 1 1 ∧ leI 1 (IntKind.u64.wrap 2) = leI 1 2 := by decide

set_option maxHeartbeats 8000000 in
set_option maxRecDepth 100000 in
theorem ref15_put_calls (vn : Value) (x : Rw) (dim : Int) (M : List Nat) (w : World) (h : RwAt M w vn x) :
    Calls Try.prog 11 #[.agg #[.bool x.leaf, .int .i64 x.count, .int .i64 x.place, vn, .int .i64 x.pl.off, .int .i64 x.right], .int .i64 dim] w fun e w' => e = .returned (.tuple #[.string (putRec x dim).1, .int .i64 (putRec x dim).2]) ∧ Below w.heap.size w w' := by
  obtain ⟨an, cn, rfl, hln, hcn⟩ := slice_form' h.normal
  unfold maxLen at hcn
  obtain ⟨W0, hW0⟩ : ∃ W0, w.alloc (.cells #[.bool x.leaf, .int .i64 x.count, .int .i64 x.place, .slice an x.pl.normal.length cn, .int .i64 x.pl.off, .int .i64 x.right] 26) = W0 := ⟨_, rfl⟩
  have hb0 : Below w.heap.size w W0 := by rw [← hW0]; exact below_alloc1 w _
  have hx0 : W0.heap[w.heap.size]? = some (rwObj (.slice an x.pl.normal.length cn) x 26) := by rw [← hW0]; exact Go.heap_alloc_new w _
  have HX0 := Lib.hid hx0
  obtain ⟨g0, g1, g2, g3, g4, g5⟩ := rw_cells hx0
  have HB0 := Lib.hid hb0
  have H0 := Lib.hid (h.below hb0)
  obtain ⟨⟨r1, r2⟩, hpr⟩ : ∃ R, putRec x dim = R := ⟨_, rfl⟩
  rw [hpr]
  have HPR := Lib.hid hpr
  clear hpr hb0 hx0 h
  simp only
  by_cases hr : dim < 1 ∨ 1024 < dim
  · have e : putRec x dim = (⟨#[]⟩, 1) := by unfold putRec; rw [if_pos hr]
    obtain ⟨rfl, rfl⟩ := Prod.mk.inj (HPR.out.symm.trans e)
    clear e
    rcases Classical.em (dim < 1) with h1 | h1
    · go_enter Try.func11, Try.ntmps11
      go_wp2_with fail
      go_ret2
      exact ⟨rfl, HB0.out⟩
    · have h2 : 1024 < dim := by omega
      go_enter Try.func11, Try.ntmps11
      go_wp2_with fail
      go_ret2
      exact ⟨rfl, HB0.out⟩
  · have hd1 : 1 ≤ dim := by omega
    have hd2 : dim ≤ 1024 := by omega
    have HM := Lib.hid (ref15_may_calls _ x dim M W0 H0.out)
    have HNR := Lib.hid hr
    generalize hm : mayB x dim = mb at *
    have HMM := Lib.hid hm
    clear hr hm
    go_enter Try.func11, Try.ntmps11
    go_wp2_with fail
    refine HM.out.mono ?_
    rintro e w1 ⟨rfl, hb1⟩
    have HB1 := Lib.hid (HB0.out.trans (hb1.mono HB0.out.size))
    have HX1 := Lib.hid ((hb1.block _ (block_lt HX0.out)).trans HX0.out)
    have H1 := Lib.hid (H0.out.below hb1)
    clear hb1 g0 g1 g2 g3 g4 g5 HM hW0 HX0 HB0 H0
    cases mb with
    | false =>
      have e : putRec x dim = (⟨#[]⟩, 14) := by unfold putRec; rw [if_neg HNR.out, if_pos HMM.out]
      obtain ⟨rfl, rfl⟩ := Prod.mk.inj (HPR.out.symm.trans e)
      clear e
      go_wp2_with fail
      go_ret2
      exact ⟨rfl, HB1.out⟩
    | true =>
      rename_i Wold
      obtain ⟨W0, rfl⟩ : ∃ W, W = w1 := ⟨_, rfl⟩
      have HB0 := HB1
      obtain ⟨g0, g1, g2, g3, g4, g5⟩ := rw_cells HX1.out
      have HCL : Hid (∀ W, Upd [] W0 W → RwCells W w.heap.size (.slice an x.pl.normal.length cn) x) := Lib.hid (fun W hW => rw_cells (upd_far hW HX1.out (by simp)))
      obtain ⟨m, hm⟩ : ∃ m : Nat, 4 * dim = (m : Int) := ⟨(4 * dim).toNat, by omega⟩
      have hmt : (4 * dim).toNat = m := by omega
      have hm4 : m ≤ 4096 := by omega
      cases hleaf : x.leaf with
      | true =>
        have e : putRec x dim = (recS 1 x.count x.place (zerosS (4 * dim).toNat), 0) := by unfold putRec; rw [if_neg HNR.out, if_neg (by rw [HMM.out]; simp), if_pos hleaf]
        rw [hmt] at e
        obtain ⟨rfl, rfl⟩ := Prod.mk.inj (HPR.out.symm.trans e)
        rw [hleaf] at g0
        have P1 : Hid (∀ W, Calls Try.prog 41 #[.int .u64 1, .int .i64 1] W fun e w' => e = .returned (.string (strOfNums (leI 1 1))) ∧ Below W.heap.size W w') := Lib.hid (fun W => ref01_put_calls 1 1 (by decide) (by omega) (by omega) W)
        have P4 : Hid (∀ W, Calls Try.prog 41 #[.int .u64 (IntKind.u64.wrap x.count), .int .i64 4] W fun e w' => e = .returned (.string (strOfNums (leI 4 (IntKind.u64.wrap x.count)))) ∧ Below W.heap.size W w') := Lib.hid (fun W => ref01_put_calls _ 4 (wrap_u64_wf _) (by omega) (by omega) W)
        have P8 : Hid (∀ W, Calls Try.prog 41 #[.int .u64 (IntKind.u64.wrap x.place), .int .i64 8] W fun e w' => e = .returned (.string (strOfNums (leI 8 (IntKind.u64.wrap x.place)))) ∧ Below W.heap.size W w') := Lib.hid (fun W => ref01_put_calls _ 8 (wrap_u64_wf _) (by omega) (by omega) W)
        have er : recS 1 x.count x.place (zerosS m) = strOfNums (leI 1 1) ++ strOfNums (leI 4 (IntKind.u64.wrap x.count)) ++ strOfNums (leI 8 (IntKind.u64.wrap x.place)) ++ zerosS m := by
          rw [zerosS_eq, recS_eq]
          unfold recI
          rw [leI1_wrap.1, strOfNums_append, strOfNums_append, strOfNums_append, ByteArray.append_assoc, ByteArray.append_assoc]
        obtain ⟨T1, hT1⟩ : ∃ T, strOfNums (leI 1 1) = T := ⟨_, rfl⟩
        obtain ⟨T4, hT4⟩ : ∃ T, strOfNums (leI 4 (IntKind.u64.wrap x.count)) = T := ⟨_, rfl⟩
        obtain ⟨T8, hT8⟩ : ∃ T, strOfNums (leI 8 (IntKind.u64.wrap x.place)) = T := ⟨_, rfl⟩
        have s1 : T1.size = 1 := by rw [← hT1, strNums_size]; rfl
        have s4 : T4.size = 4 := by rw [← hT4, strNums_size, leI_len]
        have s8 : T8.size = 8 := by rw [← hT8, strNums_size, leI_len]
        have sz : (zerosS m).size = m := zerosS_size m
        have s5 : (T1 ++ T4).size = 5 := by rw [ByteArray.size_append, s1, s4]
        have s13 : (T1 ++ T4 ++ T8).size = 13 := by rw [ByteArray.size_append, s5, s8]
        have hif : ¬ 9223372036854775807 < 13 + m := by omega
        rw [hT1] at P1
        rw [hT4] at P4
        rw [hT8] at P8
        rw [hT1, hT4, hT8] at er
        have HER := Lib.hid er
        have CB : Hid (∀ W, Upd [] W0 W → W.cell? ⟨w.heap.size, 1, none⟩ = some (.int .i64 x.count) ∧ W.cell? ⟨w.heap.size, 2, none⟩ = some (.int .i64 x.place)) := Lib.hid (fun W hW => ⟨(HCL.out W hW).c1, (HCL.out W hW).c2⟩)
        have hw4 : IntKind.i64.wrap (4 * dim) = (m : Int) := by rw [hm]; exact IntWalk.i64_in _ ⟨by omega, by omega⟩
        have hmk : ∀ (W : World), (Instr.makeSlice 89 (.int .i64 (m : Int)) (.int .i64 (m : Int))).run Try.prog W = .ok (.slice (some ⟨W.heap.size, 0, none⟩) m m) (W.alloc (.cells (madeCells #[.int .u8 0] m) 5)) := fun W => by
          obtain ⟨i0, hi, hz0, hz1, hz2⟩ := info_parts A.infoU8
          have h := run_make (P := Try.prog) W 89 5 i0 _ Try.underlying89 hi hz0 .i64 .i64 m m (by omega) (by omega) (by rw [hz2]; omega) (by omega)
          rw [h, hz1, Nat.mul_one]
          simp only [Int.toNat_natCast, Value.cells]
        have CV : Hid (∀ (W1 W2 : World), Upd [] (W1.alloc (.cells (madeCells #[.int .u8 0] m) 5)) W2 → (convert 89 9 (.slice (some ⟨W1.heap.size, 0, none⟩) m m)).run Try.prog W2 = .ok (.string (zerosS m)) W2) := Lib.hid (fun W1 W2 hu => by
          rw [zerosS_eq]
          refine run_convert_bytes_arg (P := Try.prog) W2 89 5 Try.underlying89 Try.underlying5 W1.heap.size 0 m m (List.replicate m 0) (by simp) (fun i hi => ?_) 9 Try.underlying9
          rw [cell_of_block (upd_far hu (Go.heap_alloc_new W1 _) (by simp)), madeCells_zero]
          (try simp at hi)
          simp [List.getD, hi])
        clear er hT1 hT4 hT8 e HCL HMM HPR hmt hm
        go_wp2_with fail
        -- LEAF
        refine wp_region_noPanic ?_
        refine wp_region_held_drew (S := (fun w' => w'.cell? ⟨w.heap.size, 1, none⟩ = some (.int .i64 x.count) ∧ w'.cell? ⟨w.heap.size, 2, none⟩ = some (.int .i64 x.place))) (by kernel_rfl) ?_ (fun hHeld => ?_)
        · (try dsimp only)
          exact CB.out _ (Upd.drew [] W0)
        refine wpAnyH_take (i := 1) (oi := ?_) (v := ?_) ?_ (by kernel_rfl) (by kernel_rfl) (by kernel_rfl) (fun _ _ _ h => h) ?_ (by assumption) ?_
        (rotate_left 2; focus (simp only [List.getElem?_toArray, List.getElem?_cons_succ, List.getElem?_cons_zero]; rfl))
        (focus (refine Or.inl ⟨by rfl, ?_⟩; intro w hSw; (try dsimp only at hSw); go_simp; any_goals with_reducible rfl))
        (try simp only [Act.put, List.setIfInBounds_toArray, List.set_cons_zero, List.set_cons_succ])
        refine wpAnyH_take (i := 2) (oi := ?_) (v := ?_) ?_ (by kernel_rfl) (by kernel_rfl) (by kernel_rfl) (fun _ _ _ h => h) ?_ (by assumption) ?_
        (rotate_left 2; focus (simp only [List.getElem?_toArray, List.getElem?_cons_succ, List.getElem?_cons_zero]; rfl))
        (focus (refine Or.inl ⟨by rfl, ?_⟩; intro w hSw; (try dsimp only at hSw); go_simp; any_goals with_reducible rfl))
        (try simp only [Act.put, List.setIfInBounds_toArray, List.set_cons_zero, List.set_cons_succ])
        refine wpAnyH_take (i := 3) (oi := ?_) (v := ?_) ?_ (by kernel_rfl) (by kernel_rfl) (by kernel_rfl) (fun _ _ _ h => h) ?_ (by assumption) ?_
        (rotate_left 2; focus (simp only [List.getElem?_toArray, List.getElem?_cons_succ, List.getElem?_cons_zero]; rfl))
        (focus (refine Or.inl ⟨by rfl, ?_⟩; intro w hSw; (try dsimp only at hSw); go_simp; any_goals with_reducible rfl))
        (try simp only [Act.put, List.setIfInBounds_toArray, List.set_cons_zero, List.set_cons_succ])
        refine wpAnyH_take (i := 6) (oi := ?_) (v := ?_) ?_ (by kernel_rfl) (by kernel_rfl) (by kernel_rfl) (fun _ _ _ h => h) ?_ (by assumption) ?_
        (rotate_left 2; focus (simp only [List.getElem?_toArray, List.getElem?_cons_succ, List.getElem?_cons_zero]; rfl))
        (focus (refine Or.inl ⟨by rfl, ?_⟩; intro w hSw; (try dsimp only at hSw); go_simp; any_goals with_reducible rfl))
        (try simp only [Act.put, List.setIfInBounds_toArray, List.set_cons_zero, List.set_cons_succ])
        refine wpAnyH_take (i := 7) (oi := ?_) (v := ?_) ?_ (by kernel_rfl) (by kernel_rfl) (by kernel_rfl) (fun _ _ _ h => h) ?_ (by assumption) ?_
        (rotate_left 2; focus (simp only [List.getElem?_toArray, List.getElem?_cons_succ, List.getElem?_cons_zero]; rfl))
        (focus (refine Or.inl ⟨by rfl, ?_⟩; intro w hSw; (try dsimp only at hSw); go_simp; any_goals with_reducible rfl))
        (try simp only [Act.put, List.setIfInBounds_toArray, List.set_cons_zero, List.set_cons_succ])
        refine wpAnyH_take (i := 8) (oi := ?_) (v := ?_) ?_ (by kernel_rfl) (by kernel_rfl) (by kernel_rfl) (fun _ _ _ h => h) ?_ (by assumption) ?_
        (rotate_left 2; focus (simp only [List.getElem?_toArray, List.getElem?_cons_succ, List.getElem?_cons_zero]; rfl))
        (focus (refine Or.inl ⟨by rfl, ?_⟩; intro w hSw; (try dsimp only at hSw); go_simp; any_goals with_reducible rfl))
        (try simp only [Act.put, List.setIfInBounds_toArray, List.set_cons_zero, List.set_cons_succ])
        refine wpAnyH_take (i := 11) (oi := ?_) (v := ?_) ?_ (by kernel_rfl) (by kernel_rfl) (by kernel_rfl) (fun _ _ _ h => h) ?_ (by assumption) ?_
        (rotate_left 2; focus (simp only [List.getElem?_toArray, List.getElem?_cons_succ, List.getElem?_cons_zero]; rfl))
        (focus (refine Or.inl ⟨by rfl, ?_⟩; intro w hSw; (try dsimp only at hSw); go_simp; any_goals with_reducible rfl))
        (try simp only [Act.put, List.setIfInBounds_toArray, List.set_cons_zero, List.set_cons_succ])
        refine wpAnyH_take (i := 12) (oi := ?_) (v := ?_) ?_ (by kernel_rfl) (by kernel_rfl) (by kernel_rfl) (fun _ _ _ h => h) ?_ (by assumption) ?_
        (rotate_left 2; focus (simp only [List.getElem?_toArray, List.getElem?_cons_succ, List.getElem?_cons_zero]; rfl))
        (focus (refine Or.inl ⟨by rfl, ?_⟩; intro w hSw; (try dsimp only at hSw); go_simp; any_goals with_reducible rfl))
        (try simp only [Act.put, List.setIfInBounds_toArray, List.set_cons_zero, List.set_cons_succ])
        refine wpAnyH_ready (rs := [0, 13]) (by kernel_rfl) (by simp) (AllReadyH.cons (by simp only [List.getElem?_toArray, List.getElem?_cons_succ, List.getElem?_cons_zero]; rfl) (fun K hK => ?_) (AllReadyH.cons (by simp only [List.getElem?_toArray, List.getElem?_cons_succ, List.getElem?_cons_zero]; rfl) (fun K hK => ?_) AllReadyH.nil))
        · go_simp
          go_at_call 41
          refine (P1.out W0.drew).mono ?_
          rintro e v1 ⟨rfl, hb1⟩
          have HU1 : Hid (Upd [] W0 v1) := Lib.hid ((Upd.drew [] W0).trans (Upd.ofBelow hb1 []))
          clear hb1
          (try go_wp2_with fail)
          refine hK.out _ _ ?_ (fun hNew => ?_)
          · (try dsimp only)
            exact CB.out _ HU1.out
          clear hK K hHeld
          have hHeld := hNew
          clear hNew
          (try simp only [Act.put, List.setIfInBounds_toArray, List.set_cons_zero, List.set_cons_succ])
          refine wpAnyH_ready (rs := [4, 13]) (by kernel_rfl) (by simp) (AllReadyH.cons (by simp only [List.getElem?_toArray, List.getElem?_cons_succ, List.getElem?_cons_zero]; rfl) (fun K hK => ?_) (AllReadyH.cons (by simp only [List.getElem?_toArray, List.getElem?_cons_succ, List.getElem?_cons_zero]; rfl) (fun K hK => ?_) AllReadyH.nil))
          · go_simp
            go_at_call 41
            refine (P4.out v1).mono ?_
            rintro e v2 ⟨rfl, hb2⟩
            have HU2 : Hid (Upd [] W0 v2) := Lib.hid ((HU1.out).trans (Upd.ofBelow hb2 []))
            clear hb2
            (try go_wp2_with fail)
            refine hK.out _ _ ?_ (fun hNew => ?_)
            · (try dsimp only)
              exact CB.out _ HU2.out
            clear hK K hHeld
            have hHeld := hNew
            clear hNew
            (try simp only [Act.put, List.setIfInBounds_toArray, List.set_cons_zero, List.set_cons_succ])
            refine wpAnyH_take (i := 5) (oi := ?_) (v := ?_) ?_ (by kernel_rfl) (by kernel_rfl) (by kernel_rfl) (fun _ _ _ h => h) ?_ (by assumption) ?_
            (rotate_left 2; focus (simp only [List.getElem?_toArray, List.getElem?_cons_succ, List.getElem?_cons_zero]; rfl))
            (focus (refine Or.inl ⟨by rfl, ?_⟩; intro w hSw; (try dsimp only at hSw); go_simp; any_goals with_reducible rfl))
            (try simp only [Act.put, List.setIfInBounds_toArray, List.set_cons_zero, List.set_cons_succ])
            refine wpAnyH_ready (rs := [9, 13]) (by kernel_rfl) (by simp) (AllReadyH.cons (by simp only [List.getElem?_toArray, List.getElem?_cons_succ, List.getElem?_cons_zero]; rfl) (fun K hK => ?_) (AllReadyH.cons (by simp only [List.getElem?_toArray, List.getElem?_cons_succ, List.getElem?_cons_zero]; rfl) (fun K hK => ?_) AllReadyH.nil))
            · go_simp
              go_at_call 41
              refine (P8.out v2).mono ?_
              rintro e v3 ⟨rfl, hb3⟩
              have HU3 : Hid (Upd [] W0 v3) := Lib.hid ((HU2.out).trans (Upd.ofBelow hb3 []))
              clear hb3
              (try go_wp2_with fail)
              refine hK.out _ _ ?_ (fun hNew => ?_)
              · (try dsimp only)
                exact CB.out _ HU3.out
              clear hK K hHeld
              have hHeld := hNew
              clear hNew
              (try simp only [Act.put, List.setIfInBounds_toArray, List.set_cons_zero, List.set_cons_succ])
              refine wpAnyH_take (i := 10) (oi := ?_) (v := ?_) ?_ (by kernel_rfl) (by kernel_rfl) (by kernel_rfl) (fun _ _ _ h => h) ?_ (by assumption) ?_
              (rotate_left 2; focus (simp only [List.getElem?_toArray, List.getElem?_cons_succ, List.getElem?_cons_zero]; rfl))
              (focus (refine Or.inl ⟨by rfl, ?_⟩; intro w hSw; (try dsimp only at hSw); go_simp; any_goals with_reducible rfl))
              (try simp only [Act.put, List.setIfInBounds_toArray, List.set_cons_zero, List.set_cons_succ])
              refine wpAnyH_ready (rs := [13]) (by kernel_rfl) (by simp) (AllReadyH.cons (by simp only [List.getElem?_toArray, List.getElem?_cons_succ, List.getElem?_cons_zero]; rfl) (fun K hK => ?_) AllReadyH.nil)
              go_simp
              refine hK.out _ _ ?_ (fun hNew => ?_)
              · (try dsimp only)
                exact CB.out _ ((HU3.out).trans (Upd.alloc [] _ _))
              clear hK K hHeld
              have hHeld := hNew
              clear hNew
              (try simp only [Act.put, List.setIfInBounds_toArray, List.set_cons_zero, List.set_cons_succ])
              refine wpAnyH_ready (rs := [14]) (by kernel_rfl) (by simp) (AllReadyH.cons (by simp only [List.getElem?_toArray, List.getElem?_cons_succ, List.getElem?_cons_zero]; rfl) (fun K hK => ?_) AllReadyH.nil)
              have hcv : (convert 89 9 (.slice (some ⟨(v3).heap.size, 0, none⟩) m m)).run Try.prog (((v3).alloc (.cells (madeCells #[.int .u8 0] m) 5))) = .ok (.string (zerosS m)) (((v3).alloc (.cells (madeCells #[.int .u8 0] m) 5))) := CV.out (v3) (((v3).alloc (.cells (madeCells #[.int .u8 0] m) 5))) (Upd.refl [] ((v3).alloc (.cells (madeCells #[.int .u8 0] m) 5)))
              go_simp
              clear hcv
              refine hK.out _ _ ?_ (fun hNew => ?_)
              · (try dsimp only)
                exact CB.out _ ((HU3.out).trans (Upd.alloc [] _ _))
              clear hK K hHeld
              have hHeld := hNew
              clear hNew
              (try simp only [Act.put, List.setIfInBounds_toArray, List.set_cons_zero, List.set_cons_succ])
              refine wpAnyH_take (i := 15) (oi := ?_) (v := ?_) ?_ (by kernel_rfl) (by kernel_rfl) (by kernel_rfl) (fun _ _ _ h => h) ?_ (by assumption) ?_
              (rotate_left 2; focus (simp only [List.getElem?_toArray, List.getElem?_cons_succ, List.getElem?_cons_zero]; rfl))
              (focus (refine Or.inl ⟨by rfl, ?_⟩; intro w hSw; (try dsimp only at hSw); go_simp; any_goals with_reducible rfl))
              (try simp only [Act.put, List.setIfInBounds_toArray, List.set_cons_zero, List.set_cons_succ])
              refine wpAnyH_take (i := 16) (oi := ?_) (v := ?_) ?_ (by kernel_rfl) (by kernel_rfl) (by kernel_rfl) (fun _ _ _ h => h) ?_ (by assumption) ?_
              (rotate_left 2; focus (simp only [List.getElem?_toArray, List.getElem?_cons_succ, List.getElem?_cons_zero]; rfl))
              (focus (refine Or.inl ⟨by rfl, ?_⟩; intro w hSw; (try dsimp only at hSw); go_simp; any_goals with_reducible rfl))
              (try simp only [Act.put, List.setIfInBounds_toArray, List.set_cons_zero, List.set_cons_succ])
              refine wpAnyH_take (i := 17) (oi := ?_) (v := ?_) ?_ (by kernel_rfl) (by kernel_rfl) (by kernel_rfl) (fun _ _ _ h => h) ?_ (by assumption) ?_
              (rotate_left 2; focus (simp only [List.getElem?_toArray, List.getElem?_cons_succ, List.getElem?_cons_zero]; rfl))
              (focus (refine Or.inl ⟨by rfl, ?_⟩; intro w hSw; (try dsimp only at hSw); go_simp; any_goals with_reducible rfl))
              (try simp only [Act.put, List.setIfInBounds_toArray, List.set_cons_zero, List.set_cons_succ])
              refine wpAnyH_done (by kernel_rfl) ?_ _
              refine NoPanic.normal ?_
              go_wp2_with fail
              go_ret2
              exact ⟨by rw [HER.out]; rfl, HB0.out.trans (((HU3.out).trans (Upd.alloc [] _ _)).below.mono HB0.out.size)⟩
            · go_simp
              refine hK.out _ _ ?_ (fun hNew => ?_)
              · (try dsimp only)
                exact CB.out _ ((HU2.out).trans (Upd.alloc [] _ _))
              clear hK K hHeld
              have hHeld := hNew
              clear hNew
              (try simp only [Act.put, List.setIfInBounds_toArray, List.set_cons_zero, List.set_cons_succ])
              refine wpAnyH_ready (rs := [9, 14]) (by kernel_rfl) (by simp) (AllReadyH.cons (by simp only [List.getElem?_toArray, List.getElem?_cons_succ, List.getElem?_cons_zero]; rfl) (fun K hK => ?_) (AllReadyH.cons (by simp only [List.getElem?_toArray, List.getElem?_cons_succ, List.getElem?_cons_zero]; rfl) (fun K hK => ?_) AllReadyH.nil))
              · go_simp
                go_at_call 41
                refine (P8.out ((v2).alloc (.cells (madeCells #[.int .u8 0] m) 5))).mono ?_
                rintro e v4 ⟨rfl, hb4⟩
                have HU4 : Hid (Upd [] W0 v4) := Lib.hid (((HU2.out).trans (Upd.alloc [] _ _)).trans (Upd.ofBelow hb4 []))
                have HM4 : Hid (Upd [] ((v2).alloc (.cells (madeCells #[.int .u8 0] m) 5)) v4) := Lib.hid ((Upd.refl [] ((v2).alloc (.cells (madeCells #[.int .u8 0] m) 5))).trans (Upd.ofBelow hb4 []))
                clear hb4
                (try go_wp2_with fail)
                refine hK.out _ _ ?_ (fun hNew => ?_)
                · (try dsimp only)
                  exact CB.out _ HU4.out
                clear hK K hHeld
                have hHeld := hNew
                clear hNew
                (try simp only [Act.put, List.setIfInBounds_toArray, List.set_cons_zero, List.set_cons_succ])
                refine wpAnyH_take (i := 10) (oi := ?_) (v := ?_) ?_ (by kernel_rfl) (by kernel_rfl) (by kernel_rfl) (fun _ _ _ h => h) ?_ (by assumption) ?_
                (rotate_left 2; focus (simp only [List.getElem?_toArray, List.getElem?_cons_succ, List.getElem?_cons_zero]; rfl))
                (focus (refine Or.inl ⟨by rfl, ?_⟩; intro w hSw; (try dsimp only at hSw); go_simp; any_goals with_reducible rfl))
                (try simp only [Act.put, List.setIfInBounds_toArray, List.set_cons_zero, List.set_cons_succ])
                refine wpAnyH_ready (rs := [14]) (by kernel_rfl) (by simp) (AllReadyH.cons (by simp only [List.getElem?_toArray, List.getElem?_cons_succ, List.getElem?_cons_zero]; rfl) (fun K hK => ?_) AllReadyH.nil)
                have hcv : (convert 89 9 (.slice (some ⟨(v2).heap.size, 0, none⟩) m m)).run Try.prog (v4) = .ok (.string (zerosS m)) (v4) := CV.out (v2) (v4) (HM4.out)
                go_simp
                clear hcv
                refine hK.out _ _ ?_ (fun hNew => ?_)
                · (try dsimp only)
                  exact CB.out _ (HU4.out)
                clear hK K hHeld
                have hHeld := hNew
                clear hNew
                (try simp only [Act.put, List.setIfInBounds_toArray, List.set_cons_zero, List.set_cons_succ])
                refine wpAnyH_take (i := 15) (oi := ?_) (v := ?_) ?_ (by kernel_rfl) (by kernel_rfl) (by kernel_rfl) (fun _ _ _ h => h) ?_ (by assumption) ?_
                (rotate_left 2; focus (simp only [List.getElem?_toArray, List.getElem?_cons_succ, List.getElem?_cons_zero]; rfl))
                (focus (refine Or.inl ⟨by rfl, ?_⟩; intro w hSw; (try dsimp only at hSw); go_simp; any_goals with_reducible rfl))
                (try simp only [Act.put, List.setIfInBounds_toArray, List.set_cons_zero, List.set_cons_succ])
                refine wpAnyH_take (i := 16) (oi := ?_) (v := ?_) ?_ (by kernel_rfl) (by kernel_rfl) (by kernel_rfl) (fun _ _ _ h => h) ?_ (by assumption) ?_
                (rotate_left 2; focus (simp only [List.getElem?_toArray, List.getElem?_cons_succ, List.getElem?_cons_zero]; rfl))
                (focus (refine Or.inl ⟨by rfl, ?_⟩; intro w hSw; (try dsimp only at hSw); go_simp; any_goals with_reducible rfl))
                (try simp only [Act.put, List.setIfInBounds_toArray, List.set_cons_zero, List.set_cons_succ])
                refine wpAnyH_take (i := 17) (oi := ?_) (v := ?_) ?_ (by kernel_rfl) (by kernel_rfl) (by kernel_rfl) (fun _ _ _ h => h) ?_ (by assumption) ?_
                (rotate_left 2; focus (simp only [List.getElem?_toArray, List.getElem?_cons_succ, List.getElem?_cons_zero]; rfl))
                (focus (refine Or.inl ⟨by rfl, ?_⟩; intro w hSw; (try dsimp only at hSw); go_simp; any_goals with_reducible rfl))
                (try simp only [Act.put, List.setIfInBounds_toArray, List.set_cons_zero, List.set_cons_succ])
                refine wpAnyH_done (by kernel_rfl) ?_ _
                refine NoPanic.normal ?_
                go_wp2_with fail
                go_ret2
                exact ⟨by rw [HER.out]; rfl, HB0.out.trans ((HU4.out).below.mono HB0.out.size)⟩
              · have hcv : (convert 89 9 (.slice (some ⟨(v2).heap.size, 0, none⟩) m m)).run Try.prog (((v2).alloc (.cells (madeCells #[.int .u8 0] m) 5))) = .ok (.string (zerosS m)) (((v2).alloc (.cells (madeCells #[.int .u8 0] m) 5))) := CV.out (v2) (((v2).alloc (.cells (madeCells #[.int .u8 0] m) 5))) (Upd.refl [] ((v2).alloc (.cells (madeCells #[.int .u8 0] m) 5)))
                go_simp
                clear hcv
                refine hK.out _ _ ?_ (fun hNew => ?_)
                · (try dsimp only)
                  exact CB.out _ ((HU2.out).trans (Upd.alloc [] _ _))
                clear hK K hHeld
                have hHeld := hNew
                clear hNew
                (try simp only [Act.put, List.setIfInBounds_toArray, List.set_cons_zero, List.set_cons_succ])
                refine wpAnyH_ready (rs := [9]) (by kernel_rfl) (by simp) (AllReadyH.cons (by simp only [List.getElem?_toArray, List.getElem?_cons_succ, List.getElem?_cons_zero]; rfl) (fun K hK => ?_) AllReadyH.nil)
                go_simp
                go_at_call 41
                refine (P8.out ((v2).alloc (.cells (madeCells #[.int .u8 0] m) 5))).mono ?_
                rintro e v5 ⟨rfl, hb5⟩
                have HU5 : Hid (Upd [] W0 v5) := Lib.hid (((HU2.out).trans (Upd.alloc [] _ _)).trans (Upd.ofBelow hb5 []))
                have HM5 : Hid (Upd [] ((v2).alloc (.cells (madeCells #[.int .u8 0] m) 5)) v5) := Lib.hid ((Upd.refl [] ((v2).alloc (.cells (madeCells #[.int .u8 0] m) 5))).trans (Upd.ofBelow hb5 []))
                clear hb5
                (try go_wp2_with fail)
                refine hK.out _ _ ?_ (fun hNew => ?_)
                · (try dsimp only)
                  exact CB.out _ HU5.out
                clear hK K hHeld
                have hHeld := hNew
                clear hNew
                (try simp only [Act.put, List.setIfInBounds_toArray, List.set_cons_zero, List.set_cons_succ])
                refine wpAnyH_take (i := 10) (oi := ?_) (v := ?_) ?_ (by kernel_rfl) (by kernel_rfl) (by kernel_rfl) (fun _ _ _ h => h) ?_ (by assumption) ?_
                (rotate_left 2; focus (simp only [List.getElem?_toArray, List.getElem?_cons_succ, List.getElem?_cons_zero]; rfl))
                (focus (refine Or.inl ⟨by rfl, ?_⟩; intro w hSw; (try dsimp only at hSw); go_simp; any_goals with_reducible rfl))
                (try simp only [Act.put, List.setIfInBounds_toArray, List.set_cons_zero, List.set_cons_succ])
                refine wpAnyH_take (i := 15) (oi := ?_) (v := ?_) ?_ (by kernel_rfl) (by kernel_rfl) (by kernel_rfl) (fun _ _ _ h => h) ?_ (by assumption) ?_
                (rotate_left 2; focus (simp only [List.getElem?_toArray, List.getElem?_cons_succ, List.getElem?_cons_zero]; rfl))
                (focus (refine Or.inl ⟨by rfl, ?_⟩; intro w hSw; (try dsimp only at hSw); go_simp; any_goals with_reducible rfl))
                (try simp only [Act.put, List.setIfInBounds_toArray, List.set_cons_zero, List.set_cons_succ])
                refine wpAnyH_take (i := 16) (oi := ?_) (v := ?_) ?_ (by kernel_rfl) (by kernel_rfl) (by kernel_rfl) (fun _ _ _ h => h) ?_ (by assumption) ?_
                (rotate_left 2; focus (simp only [List.getElem?_toArray, List.getElem?_cons_succ, List.getElem?_cons_zero]; rfl))
                (focus (refine Or.inl ⟨by rfl, ?_⟩; intro w hSw; (try dsimp only at hSw); go_simp; any_goals with_reducible rfl))
                (try simp only [Act.put, List.setIfInBounds_toArray, List.set_cons_zero, List.set_cons_succ])
                refine wpAnyH_take (i := 17) (oi := ?_) (v := ?_) ?_ (by kernel_rfl) (by kernel_rfl) (by kernel_rfl) (fun _ _ _ h => h) ?_ (by assumption) ?_
                (rotate_left 2; focus (simp only [List.getElem?_toArray, List.getElem?_cons_succ, List.getElem?_cons_zero]; rfl))
                (focus (refine Or.inl ⟨by rfl, ?_⟩; intro w hSw; (try dsimp only at hSw); go_simp; any_goals with_reducible rfl))
                (try simp only [Act.put, List.setIfInBounds_toArray, List.set_cons_zero, List.set_cons_succ])
                refine wpAnyH_done (by kernel_rfl) ?_ _
                refine NoPanic.normal ?_
                go_wp2_with fail
                go_ret2
                exact ⟨by rw [HER.out]; rfl, HB0.out.trans ((HU5.out).below.mono HB0.out.size)⟩
          · go_simp
            refine hK.out _ _ ?_ (fun hNew => ?_)
            · (try dsimp only)
              exact CB.out _ ((HU1.out).trans (Upd.alloc [] _ _))
            clear hK K hHeld
            have hHeld := hNew
            clear hNew
            (try simp only [Act.put, List.setIfInBounds_toArray, List.set_cons_zero, List.set_cons_succ])
            refine wpAnyH_ready (rs := [4, 14]) (by kernel_rfl) (by simp) (AllReadyH.cons (by simp only [List.getElem?_toArray, List.getElem?_cons_succ, List.getElem?_cons_zero]; rfl) (fun K hK => ?_) (AllReadyH.cons (by simp only [List.getElem?_toArray, List.getElem?_cons_succ, List.getElem?_cons_zero]; rfl) (fun K hK => ?_) AllReadyH.nil))
            · go_simp
              go_at_call 41
              refine (P4.out ((v1).alloc (.cells (madeCells #[.int .u8 0] m) 5))).mono ?_
              rintro e v3 ⟨rfl, hb3⟩
              have HU3 : Hid (Upd [] W0 v3) := Lib.hid (((HU1.out).trans (Upd.alloc [] _ _)).trans (Upd.ofBelow hb3 []))
              have HM3 : Hid (Upd [] ((v1).alloc (.cells (madeCells #[.int .u8 0] m) 5)) v3) := Lib.hid ((Upd.refl [] ((v1).alloc (.cells (madeCells #[.int .u8 0] m) 5))).trans (Upd.ofBelow hb3 []))
              clear hb3
              (try go_wp2_with fail)
              refine hK.out _ _ ?_ (fun hNew => ?_)
              · (try dsimp only)
                exact CB.out _ HU3.out
              clear hK K hHeld
              have hHeld := hNew
              clear hNew
              (try simp only [Act.put, List.setIfInBounds_toArray, List.set_cons_zero, List.set_cons_succ])
              refine wpAnyH_take (i := 5) (oi := ?_) (v := ?_) ?_ (by kernel_rfl) (by kernel_rfl) (by kernel_rfl) (fun _ _ _ h => h) ?_ (by assumption) ?_
              (rotate_left 2; focus (simp only [List.getElem?_toArray, List.getElem?_cons_succ, List.getElem?_cons_zero]; rfl))
              (focus (refine Or.inl ⟨by rfl, ?_⟩; intro w hSw; (try dsimp only at hSw); go_simp; any_goals with_reducible rfl))
              (try simp only [Act.put, List.setIfInBounds_toArray, List.set_cons_zero, List.set_cons_succ])
              refine wpAnyH_ready (rs := [9, 14]) (by kernel_rfl) (by simp) (AllReadyH.cons (by simp only [List.getElem?_toArray, List.getElem?_cons_succ, List.getElem?_cons_zero]; rfl) (fun K hK => ?_) (AllReadyH.cons (by simp only [List.getElem?_toArray, List.getElem?_cons_succ, List.getElem?_cons_zero]; rfl) (fun K hK => ?_) AllReadyH.nil))
              · go_simp
                go_at_call 41
                refine (P8.out v3).mono ?_
                rintro e v4 ⟨rfl, hb4⟩
                have HU4 : Hid (Upd [] W0 v4) := Lib.hid ((HU3.out).trans (Upd.ofBelow hb4 []))
                have HM4 : Hid (Upd [] ((v1).alloc (.cells (madeCells #[.int .u8 0] m) 5)) v4) := Lib.hid ((HM3.out).trans (Upd.ofBelow hb4 []))
                clear hb4
                (try go_wp2_with fail)
                refine hK.out _ _ ?_ (fun hNew => ?_)
                · (try dsimp only)
                  exact CB.out _ HU4.out
                clear hK K hHeld
                have hHeld := hNew
                clear hNew
                (try simp only [Act.put, List.setIfInBounds_toArray, List.set_cons_zero, List.set_cons_succ])
                refine wpAnyH_take (i := 10) (oi := ?_) (v := ?_) ?_ (by kernel_rfl) (by kernel_rfl) (by kernel_rfl) (fun _ _ _ h => h) ?_ (by assumption) ?_
                (rotate_left 2; focus (simp only [List.getElem?_toArray, List.getElem?_cons_succ, List.getElem?_cons_zero]; rfl))
                (focus (refine Or.inl ⟨by rfl, ?_⟩; intro w hSw; (try dsimp only at hSw); go_simp; any_goals with_reducible rfl))
                (try simp only [Act.put, List.setIfInBounds_toArray, List.set_cons_zero, List.set_cons_succ])
                refine wpAnyH_ready (rs := [14]) (by kernel_rfl) (by simp) (AllReadyH.cons (by simp only [List.getElem?_toArray, List.getElem?_cons_succ, List.getElem?_cons_zero]; rfl) (fun K hK => ?_) AllReadyH.nil)
                have hcv : (convert 89 9 (.slice (some ⟨(v1).heap.size, 0, none⟩) m m)).run Try.prog (v4) = .ok (.string (zerosS m)) (v4) := CV.out (v1) (v4) (HM4.out)
                go_simp
                clear hcv
                refine hK.out _ _ ?_ (fun hNew => ?_)
                · (try dsimp only)
                  exact CB.out _ (HU4.out)
                clear hK K hHeld
                have hHeld := hNew
                clear hNew
                (try simp only [Act.put, List.setIfInBounds_toArray, List.set_cons_zero, List.set_cons_succ])
                refine wpAnyH_take (i := 15) (oi := ?_) (v := ?_) ?_ (by kernel_rfl) (by kernel_rfl) (by kernel_rfl) (fun _ _ _ h => h) ?_ (by assumption) ?_
                (rotate_left 2; focus (simp only [List.getElem?_toArray, List.getElem?_cons_succ, List.getElem?_cons_zero]; rfl))
                (focus (refine Or.inl ⟨by rfl, ?_⟩; intro w hSw; (try dsimp only at hSw); go_simp; any_goals with_reducible rfl))
                (try simp only [Act.put, List.setIfInBounds_toArray, List.set_cons_zero, List.set_cons_succ])
                refine wpAnyH_take (i := 16) (oi := ?_) (v := ?_) ?_ (by kernel_rfl) (by kernel_rfl) (by kernel_rfl) (fun _ _ _ h => h) ?_ (by assumption) ?_
                (rotate_left 2; focus (simp only [List.getElem?_toArray, List.getElem?_cons_succ, List.getElem?_cons_zero]; rfl))
                (focus (refine Or.inl ⟨by rfl, ?_⟩; intro w hSw; (try dsimp only at hSw); go_simp; any_goals with_reducible rfl))
                (try simp only [Act.put, List.setIfInBounds_toArray, List.set_cons_zero, List.set_cons_succ])
                refine wpAnyH_take (i := 17) (oi := ?_) (v := ?_) ?_ (by kernel_rfl) (by kernel_rfl) (by kernel_rfl) (fun _ _ _ h => h) ?_ (by assumption) ?_
                (rotate_left 2; focus (simp only [List.getElem?_toArray, List.getElem?_cons_succ, List.getElem?_cons_zero]; rfl))
                (focus (refine Or.inl ⟨by rfl, ?_⟩; intro w hSw; (try dsimp only at hSw); go_simp; any_goals with_reducible rfl))
                (try simp only [Act.put, List.setIfInBounds_toArray, List.set_cons_zero, List.set_cons_succ])
                refine wpAnyH_done (by kernel_rfl) ?_ _
                refine NoPanic.normal ?_
                go_wp2_with fail
                go_ret2
                exact ⟨by rw [HER.out]; rfl, HB0.out.trans ((HU4.out).below.mono HB0.out.size)⟩
              · have hcv : (convert 89 9 (.slice (some ⟨(v1).heap.size, 0, none⟩) m m)).run Try.prog (v3) = .ok (.string (zerosS m)) (v3) := CV.out (v1) (v3) (HM3.out)
                go_simp
                clear hcv
                refine hK.out _ _ ?_ (fun hNew => ?_)
                · (try dsimp only)
                  exact CB.out _ (HU3.out)
                clear hK K hHeld
                have hHeld := hNew
                clear hNew
                (try simp only [Act.put, List.setIfInBounds_toArray, List.set_cons_zero, List.set_cons_succ])
                refine wpAnyH_ready (rs := [9]) (by kernel_rfl) (by simp) (AllReadyH.cons (by simp only [List.getElem?_toArray, List.getElem?_cons_succ, List.getElem?_cons_zero]; rfl) (fun K hK => ?_) AllReadyH.nil)
                go_simp
                go_at_call 41
                refine (P8.out v3).mono ?_
                rintro e v5 ⟨rfl, hb5⟩
                have HU5 : Hid (Upd [] W0 v5) := Lib.hid ((HU3.out).trans (Upd.ofBelow hb5 []))
                have HM5 : Hid (Upd [] ((v1).alloc (.cells (madeCells #[.int .u8 0] m) 5)) v5) := Lib.hid ((HM3.out).trans (Upd.ofBelow hb5 []))
                clear hb5
                (try go_wp2_with fail)
                refine hK.out _ _ ?_ (fun hNew => ?_)
                · (try dsimp only)
                  exact CB.out _ HU5.out
                clear hK K hHeld
                have hHeld := hNew
                clear hNew
                (try simp only [Act.put, List.setIfInBounds_toArray, List.set_cons_zero, List.set_cons_succ])
                refine wpAnyH_take (i := 10) (oi := ?_) (v := ?_) ?_ (by kernel_rfl) (by kernel_rfl) (by kernel_rfl) (fun _ _ _ h => h) ?_ (by assumption) ?_
                (rotate_left 2; focus (simp only [List.getElem?_toArray, List.getElem?_cons_succ, List.getElem?_cons_zero]; rfl))
                (focus (refine Or.inl ⟨by rfl, ?_⟩; intro w hSw; (try dsimp only at hSw); go_simp; any_goals with_reducible rfl))
                (try simp only [Act.put, List.setIfInBounds_toArray, List.set_cons_zero, List.set_cons_succ])
                refine wpAnyH_take (i := 15) (oi := ?_) (v := ?_) ?_ (by kernel_rfl) (by kernel_rfl) (by kernel_rfl) (fun _ _ _ h => h) ?_ (by assumption) ?_
                (rotate_left 2; focus (simp only [List.getElem?_toArray, List.getElem?_cons_succ, List.getElem?_cons_zero]; rfl))
                (focus (refine Or.inl ⟨by rfl, ?_⟩; intro w hSw; (try dsimp only at hSw); go_simp; any_goals with_reducible rfl))
                (try simp only [Act.put, List.setIfInBounds_toArray, List.set_cons_zero, List.set_cons_succ])
                refine wpAnyH_take (i := 16) (oi := ?_) (v := ?_) ?_ (by kernel_rfl) (by kernel_rfl) (by kernel_rfl) (fun _ _ _ h => h) ?_ (by assumption) ?_
                (rotate_left 2; focus (simp only [List.getElem?_toArray, List.getElem?_cons_succ, List.getElem?_cons_zero]; rfl))
                (focus (refine Or.inl ⟨by rfl, ?_⟩; intro w hSw; (try dsimp only at hSw); go_simp; any_goals with_reducible rfl))
                (try simp only [Act.put, List.setIfInBounds_toArray, List.set_cons_zero, List.set_cons_succ])
                refine wpAnyH_take (i := 17) (oi := ?_) (v := ?_) ?_ (by kernel_rfl) (by kernel_rfl) (by kernel_rfl) (fun _ _ _ h => h) ?_ (by assumption) ?_
                (rotate_left 2; focus (simp only [List.getElem?_toArray, List.getElem?_cons_succ, List.getElem?_cons_zero]; rfl))
                (focus (refine Or.inl ⟨by rfl, ?_⟩; intro w hSw; (try dsimp only at hSw); go_simp; any_goals with_reducible rfl))
                (try simp only [Act.put, List.setIfInBounds_toArray, List.set_cons_zero, List.set_cons_succ])
                refine wpAnyH_done (by kernel_rfl) ?_ _
                refine NoPanic.normal ?_
                go_wp2_with fail
                go_ret2
                exact ⟨by rw [HER.out]; rfl, HB0.out.trans ((HU5.out).below.mono HB0.out.size)⟩
            · have hcv : (convert 89 9 (.slice (some ⟨(v1).heap.size, 0, none⟩) m m)).run Try.prog (((v1).alloc (.cells (madeCells #[.int .u8 0] m) 5))) = .ok (.string (zerosS m)) (((v1).alloc (.cells (madeCells #[.int .u8 0] m) 5))) := CV.out (v1) (((v1).alloc (.cells (madeCells #[.int .u8 0] m) 5))) (Upd.refl [] ((v1).alloc (.cells (madeCells #[.int .u8 0] m) 5)))
              go_simp
              clear hcv
              refine hK.out _ _ ?_ (fun hNew => ?_)
              · (try dsimp only)
                exact CB.out _ ((HU1.out).trans (Upd.alloc [] _ _))
              clear hK K hHeld
              have hHeld := hNew
              clear hNew
              (try simp only [Act.put, List.setIfInBounds_toArray, List.set_cons_zero, List.set_cons_succ])
              refine wpAnyH_ready (rs := [4]) (by kernel_rfl) (by simp) (AllReadyH.cons (by simp only [List.getElem?_toArray, List.getElem?_cons_succ, List.getElem?_cons_zero]; rfl) (fun K hK => ?_) AllReadyH.nil)
              go_simp
              go_at_call 41
              refine (P4.out ((v1).alloc (.cells (madeCells #[.int .u8 0] m) 5))).mono ?_
              rintro e v4 ⟨rfl, hb4⟩
              have HU4 : Hid (Upd [] W0 v4) := Lib.hid (((HU1.out).trans (Upd.alloc [] _ _)).trans (Upd.ofBelow hb4 []))
              have HM4 : Hid (Upd [] ((v1).alloc (.cells (madeCells #[.int .u8 0] m) 5)) v4) := Lib.hid ((Upd.refl [] ((v1).alloc (.cells (madeCells #[.int .u8 0] m) 5))).trans (Upd.ofBelow hb4 []))
              clear hb4
              (try go_wp2_with fail)
              refine hK.out _ _ ?_ (fun hNew => ?_)
              · (try dsimp only)
                exact CB.out _ HU4.out
              clear hK K hHeld
              have hHeld := hNew
              clear hNew
              (try simp only [Act.put, List.setIfInBounds_toArray, List.set_cons_zero, List.set_cons_succ])
              refine wpAnyH_take (i := 5) (oi := ?_) (v := ?_) ?_ (by kernel_rfl) (by kernel_rfl) (by kernel_rfl) (fun _ _ _ h => h) ?_ (by assumption) ?_
              (rotate_left 2; focus (simp only [List.getElem?_toArray, List.getElem?_cons_succ, List.getElem?_cons_zero]; rfl))
              (focus (refine Or.inl ⟨by rfl, ?_⟩; intro w hSw; (try dsimp only at hSw); go_simp; any_goals with_reducible rfl))
              (try simp only [Act.put, List.setIfInBounds_toArray, List.set_cons_zero, List.set_cons_succ])
              refine wpAnyH_ready (rs := [9]) (by kernel_rfl) (by simp) (AllReadyH.cons (by simp only [List.getElem?_toArray, List.getElem?_cons_succ, List.getElem?_cons_zero]; rfl) (fun K hK => ?_) AllReadyH.nil)
              go_simp
              go_at_call 41
              refine (P8.out v4).mono ?_
              rintro e v5 ⟨rfl, hb5⟩
              have HU5 : Hid (Upd [] W0 v5) := Lib.hid ((HU4.out).trans (Upd.ofBelow hb5 []))
              have HM5 : Hid (Upd [] ((v1).alloc (.cells (madeCells #[.int .u8 0] m) 5)) v5) := Lib.hid ((HM4.out).trans (Upd.ofBelow hb5 []))
              clear hb5
              (try go_wp2_with fail)
              refine hK.out _ _ ?_ (fun hNew => ?_)
              · (try dsimp only)
                exact CB.out _ HU5.out
              clear hK K hHeld
              have hHeld := hNew
              clear hNew
              (try simp only [Act.put, List.setIfInBounds_toArray, List.set_cons_zero, List.set_cons_succ])
              refine wpAnyH_take (i := 10) (oi := ?_) (v := ?_) ?_ (by kernel_rfl) (by kernel_rfl) (by kernel_rfl) (fun _ _ _ h => h) ?_ (by assumption) ?_
              (rotate_left 2; focus (simp only [List.getElem?_toArray, List.getElem?_cons_succ, List.getElem?_cons_zero]; rfl))
              (focus (refine Or.inl ⟨by rfl, ?_⟩; intro w hSw; (try dsimp only at hSw); go_simp; any_goals with_reducible rfl))
              (try simp only [Act.put, List.setIfInBounds_toArray, List.set_cons_zero, List.set_cons_succ])
              refine wpAnyH_take (i := 15) (oi := ?_) (v := ?_) ?_ (by kernel_rfl) (by kernel_rfl) (by kernel_rfl) (fun _ _ _ h => h) ?_ (by assumption) ?_
              (rotate_left 2; focus (simp only [List.getElem?_toArray, List.getElem?_cons_succ, List.getElem?_cons_zero]; rfl))
              (focus (refine Or.inl ⟨by rfl, ?_⟩; intro w hSw; (try dsimp only at hSw); go_simp; any_goals with_reducible rfl))
              (try simp only [Act.put, List.setIfInBounds_toArray, List.set_cons_zero, List.set_cons_succ])
              refine wpAnyH_take (i := 16) (oi := ?_) (v := ?_) ?_ (by kernel_rfl) (by kernel_rfl) (by kernel_rfl) (fun _ _ _ h => h) ?_ (by assumption) ?_
              (rotate_left 2; focus (simp only [List.getElem?_toArray, List.getElem?_cons_succ, List.getElem?_cons_zero]; rfl))
              (focus (refine Or.inl ⟨by rfl, ?_⟩; intro w hSw; (try dsimp only at hSw); go_simp; any_goals with_reducible rfl))
              (try simp only [Act.put, List.setIfInBounds_toArray, List.set_cons_zero, List.set_cons_succ])
              refine wpAnyH_take (i := 17) (oi := ?_) (v := ?_) ?_ (by kernel_rfl) (by kernel_rfl) (by kernel_rfl) (fun _ _ _ h => h) ?_ (by assumption) ?_
              (rotate_left 2; focus (simp only [List.getElem?_toArray, List.getElem?_cons_succ, List.getElem?_cons_zero]; rfl))
              (focus (refine Or.inl ⟨by rfl, ?_⟩; intro w hSw; (try dsimp only at hSw); go_simp; any_goals with_reducible rfl))
              (try simp only [Act.put, List.setIfInBounds_toArray, List.set_cons_zero, List.set_cons_succ])
              refine wpAnyH_done (by kernel_rfl) ?_ _
              refine NoPanic.normal ?_
              go_wp2_with fail
              go_ret2
              exact ⟨by rw [HER.out]; rfl, HB0.out.trans ((HU5.out).below.mono HB0.out.size)⟩
        · go_simp
          refine hK.out _ _ ?_ (fun hNew => ?_)
          · (try dsimp only)
            exact CB.out _ ((Upd.alloc [] W0 _).trans (Upd.drew [] _))
          clear hK K hHeld
          have hHeld := hNew
          clear hNew
          (try simp only [Act.put, List.setIfInBounds_toArray, List.set_cons_zero, List.set_cons_succ])
          refine wpAnyH_ready (rs := [0, 14]) (by kernel_rfl) (by simp) (AllReadyH.cons (by simp only [List.getElem?_toArray, List.getElem?_cons_succ, List.getElem?_cons_zero]; rfl) (fun K hK => ?_) (AllReadyH.cons (by simp only [List.getElem?_toArray, List.getElem?_cons_succ, List.getElem?_cons_zero]; rfl) (fun K hK => ?_) AllReadyH.nil))
          · go_simp
            go_at_call 41
            refine (P1.out ((W0.alloc (.cells (madeCells #[.int .u8 0] m) 5)).drew)).mono ?_
            rintro e v2 ⟨rfl, hb2⟩
            have HU2 : Hid (Upd [] W0 v2) := Lib.hid (((Upd.alloc [] W0 _).trans (Upd.drew [] _)).trans (Upd.ofBelow hb2 []))
            have HM2 : Hid (Upd [] (W0.alloc (.cells (madeCells #[.int .u8 0] m) 5)) v2) := Lib.hid ((Upd.drew [] _).trans (Upd.ofBelow hb2 []))
            clear hb2
            (try go_wp2_with fail)
            refine hK.out _ _ ?_ (fun hNew => ?_)
            · (try dsimp only)
              exact CB.out _ HU2.out
            clear hK K hHeld
            have hHeld := hNew
            clear hNew
            (try simp only [Act.put, List.setIfInBounds_toArray, List.set_cons_zero, List.set_cons_succ])
            refine wpAnyH_ready (rs := [4, 14]) (by kernel_rfl) (by simp) (AllReadyH.cons (by simp only [List.getElem?_toArray, List.getElem?_cons_succ, List.getElem?_cons_zero]; rfl) (fun K hK => ?_) (AllReadyH.cons (by simp only [List.getElem?_toArray, List.getElem?_cons_succ, List.getElem?_cons_zero]; rfl) (fun K hK => ?_) AllReadyH.nil))
            · go_simp
              go_at_call 41
              refine (P4.out v2).mono ?_
              rintro e v3 ⟨rfl, hb3⟩
              have HU3 : Hid (Upd [] W0 v3) := Lib.hid ((HU2.out).trans (Upd.ofBelow hb3 []))
              have HM3 : Hid (Upd [] (W0.alloc (.cells (madeCells #[.int .u8 0] m) 5)) v3) := Lib.hid ((HM2.out).trans (Upd.ofBelow hb3 []))
              clear hb3
              (try go_wp2_with fail)
              refine hK.out _ _ ?_ (fun hNew => ?_)
              · (try dsimp only)
                exact CB.out _ HU3.out
              clear hK K hHeld
              have hHeld := hNew
              clear hNew
              (try simp only [Act.put, List.setIfInBounds_toArray, List.set_cons_zero, List.set_cons_succ])
              refine wpAnyH_take (i := 5) (oi := ?_) (v := ?_) ?_ (by kernel_rfl) (by kernel_rfl) (by kernel_rfl) (fun _ _ _ h => h) ?_ (by assumption) ?_
              (rotate_left 2; focus (simp only [List.getElem?_toArray, List.getElem?_cons_succ, List.getElem?_cons_zero]; rfl))
              (focus (refine Or.inl ⟨by rfl, ?_⟩; intro w hSw; (try dsimp only at hSw); go_simp; any_goals with_reducible rfl))
              (try simp only [Act.put, List.setIfInBounds_toArray, List.set_cons_zero, List.set_cons_succ])
              refine wpAnyH_ready (rs := [9, 14]) (by kernel_rfl) (by simp) (AllReadyH.cons (by simp only [List.getElem?_toArray, List.getElem?_cons_succ, List.getElem?_cons_zero]; rfl) (fun K hK => ?_) (AllReadyH.cons (by simp only [List.getElem?_toArray, List.getElem?_cons_succ, List.getElem?_cons_zero]; rfl) (fun K hK => ?_) AllReadyH.nil))
              · go_simp
                go_at_call 41
                refine (P8.out v3).mono ?_
                rintro e v4 ⟨rfl, hb4⟩
                have HU4 : Hid (Upd [] W0 v4) := Lib.hid ((HU3.out).trans (Upd.ofBelow hb4 []))
                have HM4 : Hid (Upd [] (W0.alloc (.cells (madeCells #[.int .u8 0] m) 5)) v4) := Lib.hid ((HM3.out).trans (Upd.ofBelow hb4 []))
                clear hb4
                (try go_wp2_with fail)
                refine hK.out _ _ ?_ (fun hNew => ?_)
                · (try dsimp only)
                  exact CB.out _ HU4.out
                clear hK K hHeld
                have hHeld := hNew
                clear hNew
                (try simp only [Act.put, List.setIfInBounds_toArray, List.set_cons_zero, List.set_cons_succ])
                refine wpAnyH_take (i := 10) (oi := ?_) (v := ?_) ?_ (by kernel_rfl) (by kernel_rfl) (by kernel_rfl) (fun _ _ _ h => h) ?_ (by assumption) ?_
                (rotate_left 2; focus (simp only [List.getElem?_toArray, List.getElem?_cons_succ, List.getElem?_cons_zero]; rfl))
                (focus (refine Or.inl ⟨by rfl, ?_⟩; intro w hSw; (try dsimp only at hSw); go_simp; any_goals with_reducible rfl))
                (try simp only [Act.put, List.setIfInBounds_toArray, List.set_cons_zero, List.set_cons_succ])
                refine wpAnyH_ready (rs := [14]) (by kernel_rfl) (by simp) (AllReadyH.cons (by simp only [List.getElem?_toArray, List.getElem?_cons_succ, List.getElem?_cons_zero]; rfl) (fun K hK => ?_) AllReadyH.nil)
                have hcv : (convert 89 9 (.slice (some ⟨(W0).heap.size, 0, none⟩) m m)).run Try.prog (v4) = .ok (.string (zerosS m)) (v4) := CV.out (W0) (v4) (HM4.out)
                go_simp
                clear hcv
                refine hK.out _ _ ?_ (fun hNew => ?_)
                · (try dsimp only)
                  exact CB.out _ (HU4.out)
                clear hK K hHeld
                have hHeld := hNew
                clear hNew
                (try simp only [Act.put, List.setIfInBounds_toArray, List.set_cons_zero, List.set_cons_succ])
                refine wpAnyH_take (i := 15) (oi := ?_) (v := ?_) ?_ (by kernel_rfl) (by kernel_rfl) (by kernel_rfl) (fun _ _ _ h => h) ?_ (by assumption) ?_
                (rotate_left 2; focus (simp only [List.getElem?_toArray, List.getElem?_cons_succ, List.getElem?_cons_zero]; rfl))
                (focus (refine Or.inl ⟨by rfl, ?_⟩; intro w hSw; (try dsimp only at hSw); go_simp; any_goals with_reducible rfl))
                (try simp only [Act.put, List.setIfInBounds_toArray, List.set_cons_zero, List.set_cons_succ])
                refine wpAnyH_take (i := 16) (oi := ?_) (v := ?_) ?_ (by kernel_rfl) (by kernel_rfl) (by kernel_rfl) (fun _ _ _ h => h) ?_ (by assumption) ?_
                (rotate_left 2; focus (simp only [List.getElem?_toArray, List.getElem?_cons_succ, List.getElem?_cons_zero]; rfl))
                (focus (refine Or.inl ⟨by rfl, ?_⟩; intro w hSw; (try dsimp only at hSw); go_simp; any_goals with_reducible rfl))
                (try simp only [Act.put, List.setIfInBounds_toArray, List.set_cons_zero, List.set_cons_succ])
                refine wpAnyH_take (i := 17) (oi := ?_) (v := ?_) ?_ (by kernel_rfl) (by kernel_rfl) (by kernel_rfl) (fun _ _ _ h => h) ?_ (by assumption) ?_
                (rotate_left 2; focus (simp only [List.getElem?_toArray, List.getElem?_cons_succ, List.getElem?_cons_zero]; rfl))
                (focus (refine Or.inl ⟨by rfl, ?_⟩; intro w hSw; (try dsimp only at hSw); go_simp; any_goals with_reducible rfl))
                (try simp only [Act.put, List.setIfInBounds_toArray, List.set_cons_zero, List.set_cons_succ])
                refine wpAnyH_done (by kernel_rfl) ?_ _
                refine NoPanic.normal ?_
                go_wp2_with fail
                go_ret2
                exact ⟨by rw [HER.out]; rfl, HB0.out.trans ((HU4.out).below.mono HB0.out.size)⟩
              · have hcv : (convert 89 9 (.slice (some ⟨(W0).heap.size, 0, none⟩) m m)).run Try.prog (v3) = .ok (.string (zerosS m)) (v3) := CV.out (W0) (v3) (HM3.out)
                go_simp
                clear hcv
                refine hK.out _ _ ?_ (fun hNew => ?_)
                · (try dsimp only)
                  exact CB.out _ (HU3.out)
                clear hK K hHeld
                have hHeld := hNew
                clear hNew
                (try simp only [Act.put, List.setIfInBounds_toArray, List.set_cons_zero, List.set_cons_succ])
                refine wpAnyH_ready (rs := [9]) (by kernel_rfl) (by simp) (AllReadyH.cons (by simp only [List.getElem?_toArray, List.getElem?_cons_succ, List.getElem?_cons_zero]; rfl) (fun K hK => ?_) AllReadyH.nil)
                go_simp
                go_at_call 41
                refine (P8.out v3).mono ?_
                rintro e v5 ⟨rfl, hb5⟩
                have HU5 : Hid (Upd [] W0 v5) := Lib.hid ((HU3.out).trans (Upd.ofBelow hb5 []))
                have HM5 : Hid (Upd [] (W0.alloc (.cells (madeCells #[.int .u8 0] m) 5)) v5) := Lib.hid ((HM3.out).trans (Upd.ofBelow hb5 []))
                clear hb5
                (try go_wp2_with fail)
                refine hK.out _ _ ?_ (fun hNew => ?_)
                · (try dsimp only)
                  exact CB.out _ HU5.out
                clear hK K hHeld
                have hHeld := hNew
                clear hNew
                (try simp only [Act.put, List.setIfInBounds_toArray, List.set_cons_zero, List.set_cons_succ])
                refine wpAnyH_take (i := 10) (oi := ?_) (v := ?_) ?_ (by kernel_rfl) (by kernel_rfl) (by kernel_rfl) (fun _ _ _ h => h) ?_ (by assumption) ?_
                (rotate_left 2; focus (simp only [List.getElem?_toArray, List.getElem?_cons_succ, List.getElem?_cons_zero]; rfl))
                (focus (refine Or.inl ⟨by rfl, ?_⟩; intro w hSw; (try dsimp only at hSw); go_simp; any_goals with_reducible rfl))
                (try simp only [Act.put, List.setIfInBounds_toArray, List.set_cons_zero, List.set_cons_succ])
                refine wpAnyH_take (i := 15) (oi := ?_) (v := ?_) ?_ (by kernel_rfl) (by kernel_rfl) (by kernel_rfl) (fun _ _ _ h => h) ?_ (by assumption) ?_
                (rotate_left 2; focus (simp only [List.getElem?_toArray, List.getElem?_cons_succ, List.getElem?_cons_zero]; rfl))
                (focus (refine Or.inl ⟨by rfl, ?_⟩; intro w hSw; (try dsimp only at hSw); go_simp; any_goals with_reducible rfl))
                (try simp only [Act.put, List.setIfInBounds_toArray, List.set_cons_zero, List.set_cons_succ])
                refine wpAnyH_take (i := 16) (oi := ?_) (v := ?_) ?_ (by kernel_rfl) (by kernel_rfl) (by kernel_rfl) (fun _ _ _ h => h) ?_ (by assumption) ?_
                (rotate_left 2; focus (simp only [List.getElem?_toArray, List.getElem?_cons_succ, List.getElem?_cons_zero]; rfl))
                (focus (refine Or.inl ⟨by rfl, ?_⟩; intro w hSw; (try dsimp only at hSw); go_simp; any_goals with_reducible rfl))
                (try simp only [Act.put, List.setIfInBounds_toArray, List.set_cons_zero, List.set_cons_succ])
                refine wpAnyH_take (i := 17) (oi := ?_) (v := ?_) ?_ (by kernel_rfl) (by kernel_rfl) (by kernel_rfl) (fun _ _ _ h => h) ?_ (by assumption) ?_
                (rotate_left 2; focus (simp only [List.getElem?_toArray, List.getElem?_cons_succ, List.getElem?_cons_zero]; rfl))
                (focus (refine Or.inl ⟨by rfl, ?_⟩; intro w hSw; (try dsimp only at hSw); go_simp; any_goals with_reducible rfl))
                (try simp only [Act.put, List.setIfInBounds_toArray, List.set_cons_zero, List.set_cons_succ])
                refine wpAnyH_done (by kernel_rfl) ?_ _
                refine NoPanic.normal ?_
                go_wp2_with fail
                go_ret2
                exact ⟨by rw [HER.out]; rfl, HB0.out.trans ((HU5.out).below.mono HB0.out.size)⟩
            · have hcv : (convert 89 9 (.slice (some ⟨(W0).heap.size, 0, none⟩) m m)).run Try.prog (v2) = .ok (.string (zerosS m)) (v2) := CV.out (W0) (v2) (HM2.out)
              go_simp
              clear hcv
              refine hK.out _ _ ?_ (fun hNew => ?_)
              · (try dsimp only)
                exact CB.out _ (HU2.out)
              clear hK K hHeld
              have hHeld := hNew
              clear hNew
              (try simp only [Act.put, List.setIfInBounds_toArray, List.set_cons_zero, List.set_cons_succ])
              refine wpAnyH_ready (rs := [4]) (by kernel_rfl) (by simp) (AllReadyH.cons (by simp only [List.getElem?_toArray, List.getElem?_cons_succ, List.getElem?_cons_zero]; rfl) (fun K hK => ?_) AllReadyH.nil)
              go_simp
              go_at_call 41
              refine (P4.out v2).mono ?_
              rintro e v4 ⟨rfl, hb4⟩
              have HU4 : Hid (Upd [] W0 v4) := Lib.hid ((HU2.out).trans (Upd.ofBelow hb4 []))
              have HM4 : Hid (Upd [] (W0.alloc (.cells (madeCells #[.int .u8 0] m) 5)) v4) := Lib.hid ((HM2.out).trans (Upd.ofBelow hb4 []))
              clear hb4
              (try go_wp2_with fail)
              refine hK.out _ _ ?_ (fun hNew => ?_)
              · (try dsimp only)
                exact CB.out _ HU4.out
              clear hK K hHeld
              have hHeld := hNew
              clear hNew
              (try simp only [Act.put, List.setIfInBounds_toArray, List.set_cons_zero, List.set_cons_succ])
              refine wpAnyH_take (i := 5) (oi := ?_) (v := ?_) ?_ (by kernel_rfl) (by kernel_rfl) (by kernel_rfl) (fun _ _ _ h => h) ?_ (by assumption) ?_
              (rotate_left 2; focus (simp only [List.getElem?_toArray, List.getElem?_cons_succ, List.getElem?_cons_zero]; rfl))
              (focus (refine Or.inl ⟨by rfl, ?_⟩; intro w hSw; (try dsimp only at hSw); go_simp; any_goals with_reducible rfl))
              (try simp only [Act.put, List.setIfInBounds_toArray, List.set_cons_zero, List.set_cons_succ])
              refine wpAnyH_ready (rs := [9]) (by kernel_rfl) (by simp) (AllReadyH.cons (by simp only [List.getElem?_toArray, List.getElem?_cons_succ, List.getElem?_cons_zero]; rfl) (fun K hK => ?_) AllReadyH.nil)
              go_simp
              go_at_call 41
              refine (P8.out v4).mono ?_
              rintro e v5 ⟨rfl, hb5⟩
              have HU5 : Hid (Upd [] W0 v5) := Lib.hid ((HU4.out).trans (Upd.ofBelow hb5 []))
              have HM5 : Hid (Upd [] (W0.alloc (.cells (madeCells #[.int .u8 0] m) 5)) v5) := Lib.hid ((HM4.out).trans (Upd.ofBelow hb5 []))
              clear hb5
              (try go_wp2_with fail)
              refine hK.out _ _ ?_ (fun hNew => ?_)
              · (try dsimp only)
                exact CB.out _ HU5.out
              clear hK K hHeld
              have hHeld := hNew
              clear hNew
              (try simp only [Act.put, List.setIfInBounds_toArray, List.set_cons_zero, List.set_cons_succ])
              refine wpAnyH_take (i := 10) (oi := ?_) (v := ?_) ?_ (by kernel_rfl) (by kernel_rfl) (by kernel_rfl) (fun _ _ _ h => h) ?_ (by assumption) ?_
              (rotate_left 2; focus (simp only [List.getElem?_toArray, List.getElem?_cons_succ, List.getElem?_cons_zero]; rfl))
              (focus (refine Or.inl ⟨by rfl, ?_⟩; intro w hSw; (try dsimp only at hSw); go_simp; any_goals with_reducible rfl))
              (try simp only [Act.put, List.setIfInBounds_toArray, List.set_cons_zero, List.set_cons_succ])
              refine wpAnyH_take (i := 15) (oi := ?_) (v := ?_) ?_ (by kernel_rfl) (by kernel_rfl) (by kernel_rfl) (fun _ _ _ h => h) ?_ (by assumption) ?_
              (rotate_left 2; focus (simp only [List.getElem?_toArray, List.getElem?_cons_succ, List.getElem?_cons_zero]; rfl))
              (focus (refine Or.inl ⟨by rfl, ?_⟩; intro w hSw; (try dsimp only at hSw); go_simp; any_goals with_reducible rfl))
              (try simp only [Act.put, List.setIfInBounds_toArray, List.set_cons_zero, List.set_cons_succ])
              refine wpAnyH_take (i := 16) (oi := ?_) (v := ?_) ?_ (by kernel_rfl) (by kernel_rfl) (by kernel_rfl) (fun _ _ _ h => h) ?_ (by assumption) ?_
              (rotate_left 2; focus (simp only [List.getElem?_toArray, List.getElem?_cons_succ, List.getElem?_cons_zero]; rfl))
              (focus (refine Or.inl ⟨by rfl, ?_⟩; intro w hSw; (try dsimp only at hSw); go_simp; any_goals with_reducible rfl))
              (try simp only [Act.put, List.setIfInBounds_toArray, List.set_cons_zero, List.set_cons_succ])
              refine wpAnyH_take (i := 17) (oi := ?_) (v := ?_) ?_ (by kernel_rfl) (by kernel_rfl) (by kernel_rfl) (fun _ _ _ h => h) ?_ (by assumption) ?_
              (rotate_left 2; focus (simp only [List.getElem?_toArray, List.getElem?_cons_succ, List.getElem?_cons_zero]; rfl))
              (focus (refine Or.inl ⟨by rfl, ?_⟩; intro w hSw; (try dsimp only at hSw); go_simp; any_goals with_reducible rfl))
              (try simp only [Act.put, List.setIfInBounds_toArray, List.set_cons_zero, List.set_cons_succ])
              refine wpAnyH_done (by kernel_rfl) ?_ _
              refine NoPanic.normal ?_
              go_wp2_with fail
              go_ret2
              exact ⟨by rw [HER.out]; rfl, HB0.out.trans ((HU5.out).below.mono HB0.out.size)⟩
          · have hcv : (convert 89 9 (.slice (some ⟨(W0).heap.size, 0, none⟩) m m)).run Try.prog (((W0.alloc (.cells (madeCells #[.int .u8 0] m) 5)).drew)) = .ok (.string (zerosS m)) (((W0.alloc (.cells (madeCells #[.int .u8 0] m) 5)).drew)) := CV.out (W0) (((W0.alloc (.cells (madeCells #[.int .u8 0] m) 5)).drew)) (Upd.drew [] _)
            go_simp
            clear hcv
            refine hK.out _ _ ?_ (fun hNew => ?_)
            · (try dsimp only)
              exact CB.out _ ((Upd.alloc [] W0 _).trans (Upd.drew [] _))
            clear hK K hHeld
            have hHeld := hNew
            clear hNew
            (try simp only [Act.put, List.setIfInBounds_toArray, List.set_cons_zero, List.set_cons_succ])
            refine wpAnyH_ready (rs := [0]) (by kernel_rfl) (by simp) (AllReadyH.cons (by simp only [List.getElem?_toArray, List.getElem?_cons_succ, List.getElem?_cons_zero]; rfl) (fun K hK => ?_) AllReadyH.nil)
            go_simp
            go_at_call 41
            refine (P1.out ((W0.alloc (.cells (madeCells #[.int .u8 0] m) 5)).drew)).mono ?_
            rintro e v3 ⟨rfl, hb3⟩
            have HU3 : Hid (Upd [] W0 v3) := Lib.hid (((Upd.alloc [] W0 _).trans (Upd.drew [] _)).trans (Upd.ofBelow hb3 []))
            have HM3 : Hid (Upd [] (W0.alloc (.cells (madeCells #[.int .u8 0] m) 5)) v3) := Lib.hid ((Upd.drew [] _).trans (Upd.ofBelow hb3 []))
            clear hb3
            (try go_wp2_with fail)
            refine hK.out _ _ ?_ (fun hNew => ?_)
            · (try dsimp only)
              exact CB.out _ HU3.out
            clear hK K hHeld
            have hHeld := hNew
            clear hNew
            (try simp only [Act.put, List.setIfInBounds_toArray, List.set_cons_zero, List.set_cons_succ])
            refine wpAnyH_ready (rs := [4]) (by kernel_rfl) (by simp) (AllReadyH.cons (by simp only [List.getElem?_toArray, List.getElem?_cons_succ, List.getElem?_cons_zero]; rfl) (fun K hK => ?_) AllReadyH.nil)
            go_simp
            go_at_call 41
            refine (P4.out v3).mono ?_
            rintro e v4 ⟨rfl, hb4⟩
            have HU4 : Hid (Upd [] W0 v4) := Lib.hid ((HU3.out).trans (Upd.ofBelow hb4 []))
            have HM4 : Hid (Upd [] (W0.alloc (.cells (madeCells #[.int .u8 0] m) 5)) v4) := Lib.hid ((HM3.out).trans (Upd.ofBelow hb4 []))
            clear hb4
            (try go_wp2_with fail)
            refine hK.out _ _ ?_ (fun hNew => ?_)
            · (try dsimp only)
              exact CB.out _ HU4.out
            clear hK K hHeld
            have hHeld := hNew
            clear hNew
            (try simp only [Act.put, List.setIfInBounds_toArray, List.set_cons_zero, List.set_cons_succ])
            refine wpAnyH_take (i := 5) (oi := ?_) (v := ?_) ?_ (by kernel_rfl) (by kernel_rfl) (by kernel_rfl) (fun _ _ _ h => h) ?_ (by assumption) ?_
            (rotate_left 2; focus (simp only [List.getElem?_toArray, List.getElem?_cons_succ, List.getElem?_cons_zero]; rfl))
            (focus (refine Or.inl ⟨by rfl, ?_⟩; intro w hSw; (try dsimp only at hSw); go_simp; any_goals with_reducible rfl))
            (try simp only [Act.put, List.setIfInBounds_toArray, List.set_cons_zero, List.set_cons_succ])
            refine wpAnyH_ready (rs := [9]) (by kernel_rfl) (by simp) (AllReadyH.cons (by simp only [List.getElem?_toArray, List.getElem?_cons_succ, List.getElem?_cons_zero]; rfl) (fun K hK => ?_) AllReadyH.nil)
            go_simp
            go_at_call 41
            refine (P8.out v4).mono ?_
            rintro e v5 ⟨rfl, hb5⟩
            have HU5 : Hid (Upd [] W0 v5) := Lib.hid ((HU4.out).trans (Upd.ofBelow hb5 []))
            have HM5 : Hid (Upd [] (W0.alloc (.cells (madeCells #[.int .u8 0] m) 5)) v5) := Lib.hid ((HM4.out).trans (Upd.ofBelow hb5 []))
            clear hb5
            (try go_wp2_with fail)
            refine hK.out _ _ ?_ (fun hNew => ?_)
            · (try dsimp only)
              exact CB.out _ HU5.out
            clear hK K hHeld
            have hHeld := hNew
            clear hNew
            (try simp only [Act.put, List.setIfInBounds_toArray, List.set_cons_zero, List.set_cons_succ])
            refine wpAnyH_take (i := 10) (oi := ?_) (v := ?_) ?_ (by kernel_rfl) (by kernel_rfl) (by kernel_rfl) (fun _ _ _ h => h) ?_ (by assumption) ?_
            (rotate_left 2; focus (simp only [List.getElem?_toArray, List.getElem?_cons_succ, List.getElem?_cons_zero]; rfl))
            (focus (refine Or.inl ⟨by rfl, ?_⟩; intro w hSw; (try dsimp only at hSw); go_simp; any_goals with_reducible rfl))
            (try simp only [Act.put, List.setIfInBounds_toArray, List.set_cons_zero, List.set_cons_succ])
            refine wpAnyH_take (i := 15) (oi := ?_) (v := ?_) ?_ (by kernel_rfl) (by kernel_rfl) (by kernel_rfl) (fun _ _ _ h => h) ?_ (by assumption) ?_
            (rotate_left 2; focus (simp only [List.getElem?_toArray, List.getElem?_cons_succ, List.getElem?_cons_zero]; rfl))
            (focus (refine Or.inl ⟨by rfl, ?_⟩; intro w hSw; (try dsimp only at hSw); go_simp; any_goals with_reducible rfl))
            (try simp only [Act.put, List.setIfInBounds_toArray, List.set_cons_zero, List.set_cons_succ])
            refine wpAnyH_take (i := 16) (oi := ?_) (v := ?_) ?_ (by kernel_rfl) (by kernel_rfl) (by kernel_rfl) (fun _ _ _ h => h) ?_ (by assumption) ?_
            (rotate_left 2; focus (simp only [List.getElem?_toArray, List.getElem?_cons_succ, List.getElem?_cons_zero]; rfl))
            (focus (refine Or.inl ⟨by rfl, ?_⟩; intro w hSw; (try dsimp only at hSw); go_simp; any_goals with_reducible rfl))
            (try simp only [Act.put, List.setIfInBounds_toArray, List.set_cons_zero, List.set_cons_succ])
            refine wpAnyH_take (i := 17) (oi := ?_) (v := ?_) ?_ (by kernel_rfl) (by kernel_rfl) (by kernel_rfl) (fun _ _ _ h => h) ?_ (by assumption) ?_
            (rotate_left 2; focus (simp only [List.getElem?_toArray, List.getElem?_cons_succ, List.getElem?_cons_zero]; rfl))
            (focus (refine Or.inl ⟨by rfl, ?_⟩; intro w hSw; (try dsimp only at hSw); go_simp; any_goals with_reducible rfl))
            (try simp only [Act.put, List.setIfInBounds_toArray, List.set_cons_zero, List.set_cons_succ])
            refine wpAnyH_done (by kernel_rfl) ?_ _
            refine NoPanic.normal ?_
            go_wp2_with fail
            go_ret2
            exact ⟨by rw [HER.out]; rfl, HB0.out.trans ((HU5.out).below.mono HB0.out.size)⟩
        -- END LEAF
      | false =>
        have hnl := mayB_normal hleaf HMM.out hd2
        have e : putRec x dim = (recS 2 x.right x.pl.off (strOfNums (rowI x.pl.normal)), 0) := by unfold putRec; rw [if_neg HNR.out, if_neg (by rw [HMM.out]; simp), if_neg (by simp [hleaf])]
        obtain ⟨rfl, rfl⟩ := Prod.mk.inj (HPR.out.symm.trans e)
        rw [hleaf] at g0
        have P1 : Hid (∀ W, Calls Try.prog 41 #[.int .u64 2, .int .i64 1] W fun e w' => e = .returned (.string (strOfNums (leI 1 2))) ∧ Below W.heap.size W w') := Lib.hid (fun W => ref01_put_calls 2 1 (by decide) (by omega) (by omega) W)
        have P4 : Hid (∀ W, Calls Try.prog 41 #[.int .u64 (IntKind.u64.wrap x.right), .int .i64 4] W fun e w' => e = .returned (.string (strOfNums (leI 4 (IntKind.u64.wrap x.right)))) ∧ Below W.heap.size W w') := Lib.hid (fun W => ref01_put_calls _ 4 (wrap_u64_wf _) (by omega) (by omega) W)
        have P8 : Hid (∀ W, Calls Try.prog 41 #[.int .u64 (IntKind.u64.wrap x.pl.off), .int .i64 8] W fun e w' => e = .returned (.string (strOfNums (leI 8 (IntKind.u64.wrap x.pl.off)))) ∧ Below W.heap.size W w') := Lib.hid (fun W => ref01_put_calls _ 8 (wrap_u64_wf _) (by omega) (by omega) W)
        have HROW : Hid (∀ W, Upd [] W0 W → Calls Try.prog 42 #[.slice an x.pl.normal.length cn] W fun e w' => e = .returned (.string (strOfNums (rowI x.pl.normal))) ∧ Below W.heap.size W w') := Lib.hid (fun W hW => ref01_row_calls _ x.pl.normal M W (H1.out.normal.upd hW (by simp) (fun k hk => .inl hk)) (by omega))
        have er : recS 2 x.right x.pl.off (strOfNums (rowI x.pl.normal)) = strOfNums (leI 1 2) ++ strOfNums (leI 4 (IntKind.u64.wrap x.right)) ++ strOfNums (leI 8 (IntKind.u64.wrap x.pl.off)) ++ strOfNums (rowI x.pl.normal) := by
          rw [recS_eq]
          unfold recI
          rw [leI1_wrap.2, strOfNums_append, strOfNums_append, strOfNums_append, ByteArray.append_assoc, ByteArray.append_assoc]
        obtain ⟨T1, hT1⟩ : ∃ T, strOfNums (leI 1 2) = T := ⟨_, rfl⟩
        obtain ⟨T4, hT4⟩ : ∃ T, strOfNums (leI 4 (IntKind.u64.wrap x.right)) = T := ⟨_, rfl⟩
        obtain ⟨T8, hT8⟩ : ∃ T, strOfNums (leI 8 (IntKind.u64.wrap x.pl.off)) = T := ⟨_, rfl⟩
        obtain ⟨TR, hTR⟩ : ∃ T, strOfNums (rowI x.pl.normal) = T := ⟨_, rfl⟩
        have s1 : T1.size = 1 := by rw [← hT1, strNums_size]; rfl
        have s4 : T4.size = 4 := by rw [← hT4, strNums_size, leI_len]
        have s8 : T8.size = 8 := by rw [← hT8, strNums_size, leI_len]
        have sr : TR.size ≤ 4096 := by rw [← hTR, strNums_size, rowI_len]; omega
        have s5 : (T1 ++ T4).size = 5 := by rw [ByteArray.size_append, s1, s4]
        have s13 : (T1 ++ T4 ++ T8).size = 13 := by rw [ByteArray.size_append, s5, s8]
        have hif : ¬ 9223372036854775807 < 13 + TR.size := by omega
        rw [hT1] at P1
        rw [hT4] at P4
        rw [hT8] at P8
        rw [hTR] at HROW
        have HER := Lib.hid (show recS 2 x.right x.pl.off (strOfNums (rowI x.pl.normal)) = T1 ++ T4 ++ T8 ++ TR by rw [er, hT1, hT4, hT8, hTR])
        have CB : Hid (∀ W, Upd [] W0 W → W.cell? ⟨w.heap.size, 4, none⟩ = some (.int .i64 x.pl.off) ∧ W.cell? ⟨w.heap.size, 5, none⟩ = some (.int .i64 x.right) ∧ W.cell? ⟨w.heap.size, 3, none⟩ = some (.slice an x.pl.normal.length cn)) := Lib.hid (fun W hW => ⟨(HCL.out W hW).c4, (HCL.out W hW).c5, (HCL.out W hW).c3⟩)
        clear er hT1 hT4 hT8 hTR e HCL HMM HPR hmt hm
        go_wp2_with fail
        -- SPLIT
        refine wp_region_noPanic ?_
        refine wp_region_held_drew (S := (fun w' => w'.cell? ⟨w.heap.size, 4, none⟩ = some (.int .i64 x.pl.off) ∧ w'.cell? ⟨w.heap.size, 5, none⟩ = some (.int .i64 x.right) ∧ w'.cell? ⟨w.heap.size, 3, none⟩ = some (.slice an x.pl.normal.length cn))) (by kernel_rfl) ?_ (fun hHeld => ?_)
        · (try dsimp only)
          exact CB.out _ (Upd.drew [] W0)
        refine wpAnyH_take (i := 1) (oi := ?_) (v := ?_) ?_ (by kernel_rfl) (by kernel_rfl) (by kernel_rfl) (fun _ _ _ h => h) ?_ (by assumption) ?_
        (rotate_left 2; focus (simp only [List.getElem?_toArray, List.getElem?_cons_succ, List.getElem?_cons_zero]; rfl))
        (focus (refine Or.inl ⟨by rfl, ?_⟩; intro w hSw; (try dsimp only at hSw); go_simp; any_goals with_reducible rfl))
        (try simp only [Act.put, List.setIfInBounds_toArray, List.set_cons_zero, List.set_cons_succ])
        refine wpAnyH_take (i := 2) (oi := ?_) (v := ?_) ?_ (by kernel_rfl) (by kernel_rfl) (by kernel_rfl) (fun _ _ _ h => h) ?_ (by assumption) ?_
        (rotate_left 2; focus (simp only [List.getElem?_toArray, List.getElem?_cons_succ, List.getElem?_cons_zero]; rfl))
        (focus (refine Or.inl ⟨by rfl, ?_⟩; intro w hSw; (try dsimp only at hSw); go_simp; any_goals with_reducible rfl))
        (try simp only [Act.put, List.setIfInBounds_toArray, List.set_cons_zero, List.set_cons_succ])
        refine wpAnyH_take (i := 3) (oi := ?_) (v := ?_) ?_ (by kernel_rfl) (by kernel_rfl) (by kernel_rfl) (fun _ _ _ h => h) ?_ (by assumption) ?_
        (rotate_left 2; focus (simp only [List.getElem?_toArray, List.getElem?_cons_succ, List.getElem?_cons_zero]; rfl))
        (focus (refine Or.inl ⟨by rfl, ?_⟩; intro w hSw; (try dsimp only at hSw); go_simp; any_goals with_reducible rfl))
        (try simp only [Act.put, List.setIfInBounds_toArray, List.set_cons_zero, List.set_cons_succ])
        refine wpAnyH_take (i := 6) (oi := ?_) (v := ?_) ?_ (by kernel_rfl) (by kernel_rfl) (by kernel_rfl) (fun _ _ _ h => h) ?_ (by assumption) ?_
        (rotate_left 2; focus (simp only [List.getElem?_toArray, List.getElem?_cons_succ, List.getElem?_cons_zero]; rfl))
        (focus (refine Or.inl ⟨by rfl, ?_⟩; intro w hSw; (try dsimp only at hSw); go_simp; any_goals with_reducible rfl))
        (try simp only [Act.put, List.setIfInBounds_toArray, List.set_cons_zero, List.set_cons_succ])
        refine wpAnyH_take (i := 7) (oi := ?_) (v := ?_) ?_ (by kernel_rfl) (by kernel_rfl) (by kernel_rfl) (fun _ _ _ h => h) ?_ (by assumption) ?_
        (rotate_left 2; focus (simp only [List.getElem?_toArray, List.getElem?_cons_succ, List.getElem?_cons_zero]; rfl))
        (focus (refine Or.inl ⟨by rfl, ?_⟩; intro w hSw; (try dsimp only at hSw); go_simp; any_goals with_reducible rfl))
        (try simp only [Act.put, List.setIfInBounds_toArray, List.set_cons_zero, List.set_cons_succ])
        refine wpAnyH_take (i := 8) (oi := ?_) (v := ?_) ?_ (by kernel_rfl) (by kernel_rfl) (by kernel_rfl) (fun _ _ _ h => h) ?_ (by assumption) ?_
        (rotate_left 2; focus (simp only [List.getElem?_toArray, List.getElem?_cons_succ, List.getElem?_cons_zero]; rfl))
        (focus (refine Or.inl ⟨by rfl, ?_⟩; intro w hSw; (try dsimp only at hSw); go_simp; any_goals with_reducible rfl))
        (try simp only [Act.put, List.setIfInBounds_toArray, List.set_cons_zero, List.set_cons_succ])
        refine wpAnyH_take (i := 9) (oi := ?_) (v := ?_) ?_ (by kernel_rfl) (by kernel_rfl) (by kernel_rfl) (fun _ _ _ h => h) ?_ (by assumption) ?_
        (rotate_left 2; focus (simp only [List.getElem?_toArray, List.getElem?_cons_succ, List.getElem?_cons_zero]; rfl))
        (focus (refine Or.inl ⟨by rfl, ?_⟩; intro w hSw; (try dsimp only at hSw); go_simp; any_goals with_reducible rfl))
        (try simp only [Act.put, List.setIfInBounds_toArray, List.set_cons_zero, List.set_cons_succ])
        refine wpAnyH_take (i := 12) (oi := ?_) (v := ?_) ?_ (by kernel_rfl) (by kernel_rfl) (by kernel_rfl) (fun _ _ _ h => h) ?_ (by assumption) ?_
        (rotate_left 2; focus (simp only [List.getElem?_toArray, List.getElem?_cons_succ, List.getElem?_cons_zero]; rfl))
        (focus (refine Or.inl ⟨by rfl, ?_⟩; intro w hSw; (try dsimp only at hSw); go_simp; any_goals with_reducible rfl))
        (try simp only [Act.put, List.setIfInBounds_toArray, List.set_cons_zero, List.set_cons_succ])
        refine wpAnyH_take (i := 13) (oi := ?_) (v := ?_) ?_ (by kernel_rfl) (by kernel_rfl) (by kernel_rfl) (fun _ _ _ h => h) ?_ (by assumption) ?_
        (rotate_left 2; focus (simp only [List.getElem?_toArray, List.getElem?_cons_succ, List.getElem?_cons_zero]; rfl))
        (focus (refine Or.inl ⟨by rfl, ?_⟩; intro w hSw; (try dsimp only at hSw); go_simp; any_goals with_reducible rfl))
        (try simp only [Act.put, List.setIfInBounds_toArray, List.set_cons_zero, List.set_cons_succ])
        refine wpAnyH_take (i := 14) (oi := ?_) (v := ?_) ?_ (by kernel_rfl) (by kernel_rfl) (by kernel_rfl) (fun _ _ _ h => h) ?_ (by assumption) ?_
        (rotate_left 2; focus (simp only [List.getElem?_toArray, List.getElem?_cons_succ, List.getElem?_cons_zero]; rfl))
        (focus (refine Or.inl ⟨by rfl, ?_⟩; intro w hSw; (try dsimp only at hSw); go_simp; any_goals with_reducible rfl))
        (try simp only [Act.put, List.setIfInBounds_toArray, List.set_cons_zero, List.set_cons_succ])
        refine wpAnyH_ready (rs := [0]) (by kernel_rfl) (by simp) (AllReadyH.cons (by simp only [List.getElem?_toArray, List.getElem?_cons_succ, List.getElem?_cons_zero]; rfl) (fun K hK => ?_) AllReadyH.nil)
        go_simp
        go_at_call 41
        refine (P1.out W0.drew).mono ?_
        rintro e v1 ⟨rfl, hb1⟩
        have HU1 : Hid (Upd [] W0 v1) := Lib.hid ((Upd.drew [] W0).trans (Upd.ofBelow hb1 []))
        clear hb1
        (try go_wp2_with fail)
        refine hK.out _ _ ?_ (fun hNew => ?_)
        · (try dsimp only)
          exact CB.out _ HU1.out
        clear hK K hHeld
        have hHeld := hNew
        clear hNew
        (try simp only [Act.put, List.setIfInBounds_toArray, List.set_cons_zero, List.set_cons_succ])
        refine wpAnyH_ready (rs := [4]) (by kernel_rfl) (by simp) (AllReadyH.cons (by simp only [List.getElem?_toArray, List.getElem?_cons_succ, List.getElem?_cons_zero]; rfl) (fun K hK => ?_) AllReadyH.nil)
        go_simp
        go_at_call 41
        refine (P4.out v1).mono ?_
        rintro e v2 ⟨rfl, hb2⟩
        have HU2 : Hid (Upd [] W0 v2) := Lib.hid ((HU1.out).trans (Upd.ofBelow hb2 []))
        clear hb2
        (try go_wp2_with fail)
        refine hK.out _ _ ?_ (fun hNew => ?_)
        · (try dsimp only)
          exact CB.out _ HU2.out
        clear hK K hHeld
        have hHeld := hNew
        clear hNew
        (try simp only [Act.put, List.setIfInBounds_toArray, List.set_cons_zero, List.set_cons_succ])
        refine wpAnyH_take (i := 5) (oi := ?_) (v := ?_) ?_ (by kernel_rfl) (by kernel_rfl) (by kernel_rfl) (fun _ _ _ h => h) ?_ (by assumption) ?_
        (rotate_left 2; focus (simp only [List.getElem?_toArray, List.getElem?_cons_succ, List.getElem?_cons_zero]; rfl))
        (focus (refine Or.inl ⟨by rfl, ?_⟩; intro w hSw; (try dsimp only at hSw); go_simp; any_goals with_reducible rfl))
        (try simp only [Act.put, List.setIfInBounds_toArray, List.set_cons_zero, List.set_cons_succ])
        refine wpAnyH_ready (rs := [10]) (by kernel_rfl) (by simp) (AllReadyH.cons (by simp only [List.getElem?_toArray, List.getElem?_cons_succ, List.getElem?_cons_zero]; rfl) (fun K hK => ?_) AllReadyH.nil)
        go_simp
        go_at_call 41
        refine (P8.out v2).mono ?_
        rintro e v3 ⟨rfl, hb3⟩
        have HU3 : Hid (Upd [] W0 v3) := Lib.hid ((HU2.out).trans (Upd.ofBelow hb3 []))
        clear hb3
        (try go_wp2_with fail)
        refine hK.out _ _ ?_ (fun hNew => ?_)
        · (try dsimp only)
          exact CB.out _ HU3.out
        clear hK K hHeld
        have hHeld := hNew
        clear hNew
        (try simp only [Act.put, List.setIfInBounds_toArray, List.set_cons_zero, List.set_cons_succ])
        refine wpAnyH_take (i := 11) (oi := ?_) (v := ?_) ?_ (by kernel_rfl) (by kernel_rfl) (by kernel_rfl) (fun _ _ _ h => h) ?_ (by assumption) ?_
        (rotate_left 2; focus (simp only [List.getElem?_toArray, List.getElem?_cons_succ, List.getElem?_cons_zero]; rfl))
        (focus (refine Or.inl ⟨by rfl, ?_⟩; intro w hSw; (try dsimp only at hSw); go_simp; any_goals with_reducible rfl))
        (try simp only [Act.put, List.setIfInBounds_toArray, List.set_cons_zero, List.set_cons_succ])
        refine wpAnyH_ready (rs := [15]) (by kernel_rfl) (by simp) (AllReadyH.cons (by simp only [List.getElem?_toArray, List.getElem?_cons_succ, List.getElem?_cons_zero]; rfl) (fun K hK => ?_) AllReadyH.nil)
        have hrw := HROW.out v3 (HU3.out)
        go_simp
        go_at_call 42
        refine hrw.mono ?_
        rintro e v4 ⟨rfl, hb4⟩
        have HU4 : Hid (Upd [] W0 v4) := Lib.hid ((HU3.out).trans (Upd.ofBelow hb4 []))
        clear hb4
        (try go_wp2_with fail)
        refine hK.out _ _ ?_ (fun hNew => ?_)
        · (try dsimp only)
          exact CB.out _ HU4.out
        clear hK K hHeld
        have hHeld := hNew
        clear hNew
        (try simp only [Act.put, List.setIfInBounds_toArray, List.set_cons_zero, List.set_cons_succ])
        refine wpAnyH_take (i := 16) (oi := ?_) (v := ?_) ?_ (by kernel_rfl) (by kernel_rfl) (by kernel_rfl) (fun _ _ _ h => h) ?_ (by assumption) ?_
        (rotate_left 2; focus (simp only [List.getElem?_toArray, List.getElem?_cons_succ, List.getElem?_cons_zero]; rfl))
        (focus (refine Or.inl ⟨by rfl, ?_⟩; intro w hSw; (try dsimp only at hSw); go_simp; any_goals with_reducible rfl))
        (try simp only [Act.put, List.setIfInBounds_toArray, List.set_cons_zero, List.set_cons_succ])
        refine wpAnyH_take (i := 17) (oi := ?_) (v := ?_) ?_ (by kernel_rfl) (by kernel_rfl) (by kernel_rfl) (fun _ _ _ h => h) ?_ (by assumption) ?_
        (rotate_left 2; focus (simp only [List.getElem?_toArray, List.getElem?_cons_succ, List.getElem?_cons_zero]; rfl))
        (focus (refine Or.inl ⟨by rfl, ?_⟩; intro w hSw; (try dsimp only at hSw); go_simp; any_goals with_reducible rfl))
        (try simp only [Act.put, List.setIfInBounds_toArray, List.set_cons_zero, List.set_cons_succ])
        refine wpAnyH_take (i := 18) (oi := ?_) (v := ?_) ?_ (by kernel_rfl) (by kernel_rfl) (by kernel_rfl) (fun _ _ _ h => h) ?_ (by assumption) ?_
        (rotate_left 2; focus (simp only [List.getElem?_toArray, List.getElem?_cons_succ, List.getElem?_cons_zero]; rfl))
        (focus (refine Or.inl ⟨by rfl, ?_⟩; intro w hSw; (try dsimp only at hSw); go_simp; any_goals with_reducible rfl))
        (try simp only [Act.put, List.setIfInBounds_toArray, List.set_cons_zero, List.set_cons_succ])
        refine wpAnyH_done (by kernel_rfl) ?_ _
        refine NoPanic.normal ?_
        go_wp2_with fail
        go_ret2
        exact ⟨by rw [HER.out]; rfl, HB0.out.trans ((HU4.out).below.mono HB0.out.size)⟩
        -- END SPLIT

end Go.Proofs.Ytfkmkhojedfccaa
