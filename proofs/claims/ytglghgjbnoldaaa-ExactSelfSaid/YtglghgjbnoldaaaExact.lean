/-
exact.Rank, exact.Brute.
-/
import Derived.Test.YtglghgjbnoldaaaRank
namespace Go.Proofs.Ytglghgjbnoldaaa
set_option linter.unusedVariables false
set_option linter.unusedSimpArgs false
open Go.RowKit

theorem farAt_wf (L : List (List Int)) (k : Int) (v : List Int) : (Lit.int .i64 (farAt L k v)).wf = true := by
  unfold farAt
  split
  · decide
  · split
    · exact farI_wf _ _
    · decide
theorem resOf_ok {L : List (List Int)} {v ids : List Int} (hL : L.length ≤ 1048576) : ∀ x ∈ resOf L v ids, rsE.ok x := by
  intro x hx
  unfold resOf at hx
  obtain ⟨i, hi, rfl⟩ := List.mem_map.1 hx
  have := (List.mem_filter.1 hi).2
  simp at this
  refine ⟨?_, farAt_wf _ _ _⟩
  show (Lit.int .i64 i).wf = true
  have e1 : IntKind.i64.min = -9223372036854775808 := by decide
  have e2 : IntKind.i64.max = 9223372036854775807 := by decide
  show (decide (IntKind.i64.min ≤ i) && decide (i ≤ IntKind.i64.max)) = true
  rw [e1, e2]
  have h1 : (-9223372036854775808 : Int) ≤ i := by omega
  have h2 : i ≤ (9223372036854775807 : Int) := by omega
  simp [h1, h2]
theorem resOf_len (L : List (List Int)) (v ids : List Int) : (resOf L v ids).length ≤ ids.length := by
  unfold resOf
  rw [List.length_map]
  exact List.length_filter_le _ _

theorem rank_bad (w : World) (N : List Nat) (p : Nat) (dim : Int) (L : List (List Int)) (k : Int) (vv iv : Value) (v ids : List Int) (h : Its w N p dim L) (hv : (Kd.int .i32).slice.At N w [vv] v) (hi : (Kd.int .i64).slice.At N w [iv] ids) (hc : exCheck L.length dim v k ≠ 0) :
    Calls Try.prog 10 #[.pointer (some ⟨p, 0, none⟩), vv, .int .i64 k, iv] w fun e w' => e = .returned (.tuple #[.slice none 0 0, .int .i64 (exCheck L.length dim v k)]) ∧ ∃ m, w' = w.drewN m := by
  have HC := Lib.hid (exact_check_calls w N p dim L k vv v h hv)
  obtain ⟨av, cv, rfl, _, _⟩ := Kd.slice_form hv
  obtain ⟨ai, ci, rfl, _, _⟩ := Kd.slice_form hi
  obtain ⟨c, hcc⟩ : ∃ c, exCheck L.length dim v k = c := ⟨_, rfl⟩
  rw [hcc] at HC hc ⊢
  have hcb : (c != 0) = true := by simpa using hc
  clear h hv hi hcc hc
  go_enter Try.func10, Try.ntmps10
  go_wp2_with fail
  refine HC.out.mono ?_
  rintro e w1 ⟨rfl, m, rfl⟩
  go_wp2_with fail
  go_ret2
  exact ⟨rfl, m, rfl⟩

set_option maxHeartbeats 2000000 in
theorem rank_ok (w : World) (N : List Nat) (p : Nat) (dim : Int) (L : List (List Int)) (k : Int) (vv iv : Value) (v ids : List Int) (h : Its w N p dim L) (hv : (Kd.int .i32).slice.At N w [vv] v) (hi : (Kd.int .i64).slice.At N w [iv] ids) (hc : exCheck L.length dim v k = 0) (hn : ids.length ≤ 1048576) (hk : (Lit.int .i64 k).wf = true) :
    Calls Try.prog 10 #[.pointer (some ⟨p, 0, none⟩), vv, .int .i64 k, iv] w fun e w' => ∃ v' out, e = .returned (.tuple #[v', .int .i64 0]) ∧ Row rsE.kd [] 42 w.heap.size w' v' out ∧ E3.Chosen k (resOf L v (uniq ids)) out ∧ Below w.heap.size w w' := by
  have HC := Lib.hid (exact_check_calls w N p dim L k vv v h hv)
  rw [hc] at HC
  obtain ⟨av, cv, rfl, _, _⟩ := Kd.slice_form hv
  obtain ⟨ai, ci, rfl, _, _⟩ := Kd.slice_form hi
  have H := Lib.hid h
  have HV := Lib.hid hv
  have HI := Lib.hid hi
  have HU := Lib.hid (uniq_len ids)
  clear h hv hi hc
  go_enter Try.func10, Try.ntmps10
  go_wp2_with fail
  refine HC.out.mono ?_
  rintro e w1 ⟨rfl, m, rfl⟩
  have HCL := Lib.hid (clone_int_calls _ ids N (w.drewN m) (HI.out.upd (Upd.drewN [] w m) (by simp) (fun k hk => .inl hk)) (by omega))
  go_wp2_with fail
  refine HCL.out.mono ?_
  rintro e w2 ⟨v2, rfl, hb2, hr2⟩
  have HB2 : Hid (Below w.heap.size w w2) := Lib.hid ((bdN w.heap.size w m).trans hb2)
  have hr2' : Row (Kd.int .i64) [] 3 w.heap.size w2 v2 ids := hr2
  obtain ⟨a2, c2, rfl, _, _⟩ := row_form hr2'
  have HSO := Lib.hid (sort_int_calls _ ids w.heap.size w2 hr2' (by omega))
  have HO2 := Lib.hid hr2'.ob_lt
  clear hr2 hr2' hb2 HCL HC
  go_wp2_with fail
  refine HSO.out.mono ?_
  rintro e w3 ⟨rfl, hu3, hr3⟩
  have HB3 : Hid (Below w.heap.size w w3) := Lib.hid (HB2.out.trans (hu3.belowB HB2.out.size (fun k hk => (HO2.out k hk).1)))
  have HCO := Lib.hid (compact_int_calls _ (sortI ids) w.heap.size w3 hr3 (by rw [sortI_len]; omega))
  have HO3 := Lib.hid hr3.ob_lt
  clear hu3 hr3 HSO
  go_wp2_with fail
  refine HCO.out.mono ?_
  rintro e w4 ⟨v4, rfl, hu4, _, hr4⟩
  rw [compact_sort] at hr4
  have HB4 : Hid (Below w.heap.size w w4) := Lib.hid (HB3.out.trans (hu4.belowB HB3.out.size (fun k hk => (HO3.out k hk).1)))
  obtain ⟨U, hU⟩ : ∃ U, uniq ids = U := ⟨_, rfl⟩
  rw [hU] at hr4 HU
  have HUU := Lib.hid hU
  obtain ⟨a4, c4, rfl, _, _⟩ := row_form hr4
  have HVA := Lib.hid (valuesI_calls _ U [] w4 (hr4.read (by simp)) (by simp))
  clear hu4 hr4 HCO hU
  go_wp2_with fail
  refine HVA.out.mono ?_
  rintro e w5 ⟨bx, rfl, hb5, hit5⟩
  have hB5 : Below w.heap.size w w5 := HB4.out.trans (hb5.mono HB4.out.size)
  have HB5 := Lib.hid hB5
  have HEA := Lib.hid (each_calls p dim L v (.slice av v.length cv) U _ _ w5 [] (by simp) (by simp) (enters_it Try.func36 rfl rfl) (((H.out.upd (Upd.ofBelow hB5 []) (by simp) (by simp) (N' := []) (by simp)))) ((HV.out.upd (Upd.ofBelow hB5 []) (by simp) (M' := []) (by simp))) hit5)
  clear hb5 hit5 hB5 HVA
  go_wp2_with fail
  refine HEA.out.mono ?_
  rintro e w6 ⟨bi, bxx, bv, rfl, hb6, hit6⟩
  have HB6 := Lib.hid (HB5.out.trans (hb6.mono HB5.out.size))
  have hLn := H.out.n
  have HTO := Lib.hid (E3.topk_of_calls k _ _ (resOf L v U) w6 [] (enters_it Try.func35 rfl rfl) hit6 (resOf_ok hLn) (by have := resOf_len L v U; have := HU.out; omega) hk)
  clear hb6 hit6 HEA
  go_wp2_with fail
  refine HTO.out.mono ?_
  rintro e w7 ⟨v7, out, rfl, hr7, hch, hb7⟩
  have HB7 := Lib.hid (HB6.out.trans (hb7.mono HB6.out.size))
  have HR7 := Lib.hid (hr7.base HB6.out.size)
  obtain ⟨a7, c7, rfl, _, _⟩ := row_form hr7
  have HCH := Lib.hid hch
  clear hr7 hb7 hch HTO
  go_wp2_with fail
  go_ret2
  exact ⟨_, out, rfl, HR7.out, by rw [HUU.out]; exact HCH.out, HB7.out⟩

end Go.Proofs.Ytglghgjbnoldaaa
