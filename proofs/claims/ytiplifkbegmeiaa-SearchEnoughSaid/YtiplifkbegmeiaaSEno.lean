/-
The law SearchEnough.
-/
import Derived.Test.YtiplifkbegmeiaaBuilt
import Derived.Test.YtiplifkbegmeiaaGaQ
namespace Go.Proofs.Ytiplifkbegmeiaa
set_option linter.unusedVariables false
set_option linter.unusedSimpArgs false
open Go.RowKit

set_option maxHeartbeats 8000000 in
set_option maxRecDepth 100000 in
theorem searchEnough_calls (vL vT vv : Value) (F : Fo) (v : List Int) (limit : Int) (w : World) (h : FoAt [] w vL vT F) (hs : F.small) (hv : (Kd.int .i32).slice.At [] w [vv] v) :
    Calls Try.prog 4 #[.agg #[.int .i64 F.dim, .int .i64 F.leaf, .int .i64 F.depth, vL, vT], vv, .int .i64 limit] w fun e w' => e = .returned (.bool true) ∧ Below w.heap.size w w' := by
  obtain ⟨aL, cL, rfl, hlL, hcL⟩ := Kd.slice_form h.L
  obtain ⟨aT, cT, rfl, hlT, hcT⟩ := Kd.slice_form h.T
  obtain ⟨av, cv, rfl, hlv, hcv⟩ := Kd.slice_form hv
  unfold maxLen at hcL hcT hcv
  obtain ⟨W0, hW0⟩ : ∃ W0, w.alloc (foObj (.slice aL F.L.length cL) (.slice aT F.T.length cT) F) = W0 := ⟨_, rfl⟩
  have hu0 : Upd [] w W0 := by rw [← hW0]; exact Upd.alloc [] w _
  have hx0 : W0.heap[w.heap.size]? = some (foObj (.slice aL F.L.length cL) (.slice aT F.T.length cT) F) := by rw [← hW0]; exact Go.heap_alloc_new w _
  unfold foObj at hW0
  have H0 := Lib.hid (h.below hu0.below)
  have HV0 := Lib.hid (hv.below hu0.below)
  have HB0 := Lib.hid hu0.below
  have HX0 := Lib.hid hx0
  have HA := Lib.hid (awake21_calls W0)
  have HS := Lib.hid hs
  clear h hs hv hu0 hx0
  go_enter Try.func4, Try.ntmps4
  go_wp2_with fail
  refine HA.out.mono ?_
  rintro e w1 ⟨rfl, hb1⟩
  have hx1 := (hb1.block _ (block_lt HX0.out)).trans HX0.out
  obtain ⟨d0, d1, d2, d3, d4⟩ := fo_cells hx1
  have HX1 := Lib.hid hx1
  have H1 := Lib.hid (H0.out.below hb1)
  have HV1 := Lib.hid (HV0.out.below hb1)
  have HB1 := Lib.hid (HB0.out.trans (hb1.mono HB0.out.size))
  clear hb1 hx1 hW0 HX0 H0 HV0 HA
  by_cases hcb : canB F
  · have HBU := Lib.hid (built_yes _ _ F w1 H1.out HS.out hcb)
    have HCB := Lib.hid hcb
    clear hcb
    go_wp2_with fail
    refine HBU.out.mono ?_
    rintro e w2 ⟨p, rfl, hi2, hb2⟩
    have hx2 := (hb2.block _ (block_lt HX1.out)).trans HX1.out
    have H2 := Lib.hid (H1.out.below hb2)
    have HV2 := Lib.hid (HV1.out.below hb2)
    have HB2 := Lib.hid (HB1.out.trans (hb2.mono HB1.out.size))
    obtain ⟨W3, hW3⟩ : ∃ W3, w2.alloc (.cells #[.pointer none, .int .i64 0, .int .i64 0, .slice none 0 0] 30) = W3 := ⟨_, rfl⟩
    have hu3 : Upd [] w2 W3 := by rw [← hW3]; exact Upd.alloc [] w2 _
    have hy3 : W3.heap[w2.heap.size]? = some (.cells #[.pointer none, .int .i64 0, .int .i64 0, .slice none 0 0] 30) := by rw [← hW3]; exact Go.heap_alloc_new w2 _
    obtain ⟨z0, z1, z2, z3⟩ : W3.frozen? ⟨w2.heap.size, 0, none⟩ = false ∧ W3.frozen? ⟨w2.heap.size, 1, none⟩ = false ∧ W3.frozen? ⟨w2.heap.size, 2, none⟩ = false ∧ W3.frozen? ⟨w2.heap.size, 3, none⟩ = false := ⟨frozen_of_block hy3, frozen_of_block hy3, frozen_of_block hy3, frozen_of_block hy3⟩
    obtain ⟨y0, y1, y2, y3⟩ : W3.cell? ⟨w2.heap.size, 0, none⟩ = some (.pointer none) ∧ W3.cell? ⟨w2.heap.size, 1, none⟩ = some (.int .i64 0) ∧ W3.cell? ⟨w2.heap.size, 2, none⟩ = some (.int .i64 0) ∧ W3.cell? ⟨w2.heap.size, 3, none⟩ = some (.slice none 0 0) := by refine ⟨?_, ?_, ?_, ?_⟩ <;> (rw [cell_of_block hy3]; rfl)
    obtain ⟨W4, hW4⟩ : ∃ W4, (((W3.setCell ⟨w2.heap.size, 0, none⟩ (.pointer (some ⟨p, 0, none⟩))).setCell ⟨w2.heap.size, 1, none⟩ (.int .i64 F.leaf)).setCell ⟨w2.heap.size, 2, none⟩ (.int .i64 F.depth)).setCell ⟨w2.heap.size, 3, none⟩ (.slice aT F.T.length cT) = W4 := ⟨_, rfl⟩
    have hu4 : Upd [w2.heap.size] W3 W4 := by rw [← hW4]; exact upd_set4 _ _ _ _ _ _
    have hy4 : W4.heap[w2.heap.size]? = some (.cells #[.pointer (some ⟨p, 0, none⟩), .int .i64 F.leaf, .int .i64 F.depth, .slice aT F.T.length cT] 30) := by rw [← hW4]; exact heap_set4 hy3 rfl _ _ _ _
    have hb4 : Below w2.heap.size w2 W4 := hu3.below.trans (hu4.belowB hu3.size (by simp))
    have hx4 := (hb4.block _ (block_lt hx2)).trans hx2
    have HI4 := Lib.hid (hi2.below hb4)
    have H4 := Lib.hid (H2.out.below hb4)
    have HV4 := Lib.hid (HV2.out.below hb4)
    have HB4 := Lib.hid (HB2.out.trans (hb4.mono HB2.out.size))
    clear d0 d1 d2 d3 d4
    obtain ⟨d0, d1, d2, d3, d4⟩ := fo_cells hx4
    obtain ⟨c0, c1, c2, c3⟩ := lay_cells hy4
    have HX4 := Lib.hid hx4
    have HY4 := Lib.hid hy4
    clear hb2 hx2 hi2 hu3 hy3 hu4 hb4 hx4 hy4 H1 HV1 HX1 HB1 HBU
    by_cases hlen : 2000 < v.length
    · have hlen2 : (2000 : Int) < (v.length : Int) := by omega
      go_wp2_with fail
      go_ret
      exact ⟨rfl, HB4.out⟩
    have hlen2 : ¬ (2000 : Int) < (v.length : Int) := by omega
    obtain ⟨f1, f2, f3, f4, f5, f6⟩ := few16_ok HCB.out.1
    have hdim := (dataCheck_ok HCB.out.2).1
    have hfl := flat_lenF HCB.out.2
    obtain ⟨c, hc⟩ : ∃ c, seaCheck F.L.length F.dim F.leaf F.depth F.T v = c := ⟨_, rfl⟩
    by_cases hgood : c = 0 ∧ 1 ≤ limit ∧ limit ≤ 16777216
    · obtain ⟨hz, hl1, hl2⟩ := hgood
      subst hz
      obtain ⟨hz1, hz2⟩ := sea_zero hc
      obtain ⟨hz3, hz4, hz5⟩ := lay_zero hz1
      have HGD := Lib.hid (gathered (limit := limit) (Bd21.vec hz2).1 hz3 hz4 hl1)
      have HG := gather_ok p F.L.length F.dim F.leaf F.depth F.L.flatten _ _ F.T v limit W4 HI4.out hdim hfl H4.out.T f6 HV4.out hc hl1 hl2 (by omega) (by omega) (by omega)
      obtain ⟨FIN, hFIN⟩ : ∃ Z, gatherS F.T v F.L.length limit F.T.flatten.length (beginS F.T) [] = Z := ⟨_, rfl⟩
      rw [hFIN] at HG HGD
      have HGD2 := Lib.hid (gathered (limit := (F.L.length : Int)) (Bd21.vec hz2).1 hz3 hz4 (by omega))
      have HG2 : ∀ W, Below W4.heap.size W4 W → _ := fun W hW => gather_ok p F.L.length F.dim F.leaf F.depth F.L.flatten _ _ F.T v (F.L.length : Int) W (HI4.out.below hW) hdim hfl (H4.out.T.below hW) f6 (HV4.out.below hW) hc (by omega) (by omega) (by omega) (by omega) (by omega)
      obtain ⟨FIN2, hFIN2⟩ : ∃ Z, gatherS F.T v F.L.length (F.L.length : Int) F.T.flatten.length (beginS F.T) [] = Z := ⟨_, rfl⟩
      rw [hFIN2] at HG2 HGD2
      have hup2 : (setUpTo F.L.length FIN2.2).length = F.L.length := by
        have h1 := setOk_up HGD2.out.ok
        have h2 := setOk_len HGD2.out.ok
        rcases HGD2.out.enough with h | h <;> omega
      have hup := setOk_up HGD.out.ok
      have hlen0 := setOk_len HGD.out.ok
      obtain ⟨R, hR⟩ : ∃ l, setUpTo F.L.length FIN.2 = l := ⟨_, rfl⟩
      have HRS : Hid (R.Pairwise (· < ·) ∧ ∀ x ∈ R, 0 ≤ x ∧ x < (F.L.length : Int)) := Lib.hid (by
        rw [← hR]; exact ⟨setUpTo_sorted _ _, fun x hx => ((setUpTo_mem _ _ _).1 hx).1⟩)
      have hen : (limit ≤ (R.length : Int) ∨ R.length = F.L.length) := by
        rw [← hR, hup]
        rcases HGD.out.enough with h | h
        · exact .inl h
        · exact .inr h.1
      have hR300 : R.length ≤ 301 := by rw [← hR, hup]; omega
      obtain ⟨ST, hST⟩ : ∃ N : Int, (FIN.1.steps : Int) = N := ⟨_, rfl⟩
      obtain ⟨NN, hNN⟩ : ∃ N : Int, (F.T.flatten.length : Int) = N := ⟨_, rfl⟩
      have hst1 : 1 ≤ ST := by have := HGD.out.lo; omega
      have hst2 : ST ≤ NN := by have := HGD.out.hi; omega
      rw [hR, hST] at HG
      obtain ⟨R2, hR2⟩ : ∃ l, setUpTo F.L.length FIN2.2 = l := ⟨_, rfl⟩
      rw [hR2] at HG2 hup2
      have HG2 := Lib.hid HG2
      have HG := Lib.hid HG
      have HUP2 := Lib.hid hup2
      have HNN := Lib.hid hNN
      have HN600 : Hid (NN ≤ 600 ∧ 0 ≤ NN) := Lib.hid (by omega)
      have HT300 := Lib.hid f3
      have HL301 := Lib.hid f1
      have HEN := Lib.hid hen
      clear f1 f2 f3 f4 f5 f6 hdim hfl hc hz1 hz2 hz3 hz4 hz5 hFIN hFIN2 hup hup2 hR hR2 hNN hST HGD HGD2 hlen0 hen hl2
      go_wp2_with fail
      refine HG.out.mono ?_
      rintro e w5 ⟨v5, rfl, hat5, hb5⟩
      have hx5 := (hb5.block _ (block_lt HX4.out)).trans HX4.out
      have hy5 := (hb5.block _ (block_lt HY4.out)).trans HY4.out
      have HB5 := Lib.hid (HB4.out.trans (hb5.mono HB4.out.size))
      have HBX5 := Lib.hid hb5
      have HT5 := Lib.hid (H4.out.T.below hb5)
      clear d0 d1 d2 d3 d4 c0 c1 c2 c3 hW3 hW4 z0 z1 z2 z3 y0 y1 y2 y3
      have HX5 := Lib.hid hx5
      have HY5 := Lib.hid hy5
      obtain ⟨d0, d1, d2, d3, d4⟩ := fo_cells hx5
      obtain ⟨a5, c5, rfl, _, hc5⟩ := slice_form' hat5
      unfold maxLen at hc5
      have HAT5 := Lib.hid hat5
      clear hb5 hx5 hy5 hat5 HG
      go_wp2_with fail
      go_loopw [12, 13] (fun n i wr => ∃ k : Nat, k ≤ F.T.length ∧ i = .int .i64 k ∧ n = .int .i64 ((F.T.take k).flatten.length : Int) ∧ wr = w5) (fun _ i _ => F.T.length - (intOf i).toNat)
      case atStart => exact ⟨0, Nat.zero_le _, rfl, by simp, rfl⟩
      case round =>
        obtain ⟨k, hk, rfl, rfl, rfl⟩ := hrel
        by_cases hlt : k < F.T.length
        · obtain ⟨x, hx⟩ : ∃ x, F.T[k]? = some x := ⟨_, List.getElem?_eq_getElem hlt⟩
          obtain ⟨b, o, cp, vi, hvT, _, _, _, _, e0, hxi⟩ := lists_at HT5.out hx
          obtain ⟨ai, ci, rfl, _, hci⟩ := Kd.slice_form hxi
          unfold maxLen at hci
          simp at hvT
          obtain ⟨rfl, rfl⟩ := hvT
          have i0 : (0 : Int) ≤ (k : Int) := by omega
          have i1 : (k : Int) < (F.T.length : Int) := by omega
          have hft := flat_take hx
          have hle := flat_take_le F.T (k + 1)
          have hnn := HNN.out
          have h6 := HN600.out
          obtain ⟨A, hA⟩ : ∃ N : Int, ((F.T.take k).flatten.length : Int) = N := ⟨_, rfl⟩
          obtain ⟨B, hB⟩ : ∃ N : Int, (x.length : Int) = N := ⟨_, rfl⟩
          have hAB : IntKind.i64.wrap (A + B) = A + B := IntWalk.i64_in _ ⟨by omega, by omega⟩
          have HFT : Hid (A + B = ((F.T.take (k + 1)).flatten.length : Int)) := Lib.hid (by omega)
          rw [hA]
          clear hx hxi hft hle hnn h6 hA
          go_wp2_with fail
          go_roundw
          case rel => exact ⟨k + 1, by omega, by go_num, by first | (rw [← HFT.out, ← hB]; done) | rw [← HFT.out] | simp [← HFT.out], by first | rfl | trivial⟩
          case measure => simp [intOf]; omega
        · have hkk : k = F.T.length := by omega
          subst hkk
          rw [List.take_length, HNN.out]
          obtain ⟨wA, hwA⟩ : ∃ W, W = wr := ⟨_, rfl⟩
          subst hwA
          have hmin : ¬ (R.length : Int) < min limit (F.L.length : Int) := by have := HEN.out; omega
          obtain ⟨MI, hMI⟩ : ∃ m, min limit (F.L.length : Int) = m := ⟨_, rfl⟩
          have HMI := Lib.hid hMI
          by_cases hmm : limit ≤ (F.L.length : Int)
          case' pos => have hmin2 : ¬ (R.length : Int) < limit := by omega
          case' neg => have hmin2 : ¬ (R.length : Int) < (F.L.length : Int) := by omega
          all_goals
            clear hmin hMI
            go_wp2_with fail
            go_loopw [14] (fun i wr => ∃ k : Nat, k ≤ R.length ∧ i = .int .i64 k ∧ Hid (∃ n, wr = wA.drewN n)) (fun i _ => R.length - (intOf i).toNat)
            case atStart => exact ⟨0, Nat.zero_le _, rfl, ⟨0, rfl⟩⟩
            case round =>
              obtain ⟨k, hk, rfl, hw⟩ := hrel
              obtain ⟨nn, rfl⟩ := hw
              by_cases hlt : k < R.length
              · obtain ⟨x, hx⟩ : ∃ x, R[k]? = some x := ⟨_, List.getElem?_eq_getElem hlt⟩
                obtain ⟨b1, o1, cp1, hv1, _, _, _, _, g1, _⟩ := ints_at HAT5.out hx
                simp at hv1
                obtain ⟨rfl, rfl⟩ := hv1
                have hxr := HRS.out.2 x (List.mem_of_getElem? hx)
                have hx0 : ¬ x < 0 := by omega
                have hx1 : ¬ (F.L.length : Int) ≤ x := by omega
                have hi1 : (k : Int) < (R.length : Int) := by omega
                have hi0 : (0 : Int) ≤ (k : Int) := by omega
                by_cases hk0 : k = 0
                · have hkz : ¬ 0 < k := by omega
                  have hkz2 : ¬ (0 : Int) < (k : Int) := by omega
                  have HKL := Lib.hid (show k + 1 ≤ R.length by omega)
                  clear hx hxr hk0
                  go_wp2
                  have q0 : decide (x < 0) = false := by simp; omega
                  have q1 : decide ((F.L.length : Int) ≤ x) = false := by simp; omega
                  have q2 : decide (0 < k) = false := by simp; omega
                  have q3 : decide ((0 : Int) < (k : Int)) = false := by simp; omega
                  -- REGION
                  refine wp_region_noPanic ?_
                  refine wp_region_held_drew (S := (fun w' => w'.cell? ⟨b1, o1 + k, none⟩ = some (.int .i64 x) ∧ w'.cell? ⟨w.heap.size, 3, none⟩ = some (.slice aL F.L.length cL))) (by kernel_rfl) ?_ (fun hHeld => ?_)
                  · (try dsimp only)
                    exact ⟨g1, d3⟩
                  refine wpAnyH_take (i := 0) (oi := ?_) (v := ?_) ?_ (by kernel_rfl) (by kernel_rfl) (by kernel_rfl) (fun _ _ _ h => h) ?_ (by assumption) ?_
                  (rotate_left 2; focus (simp only [List.getElem?_toArray, List.getElem?_cons_succ, List.getElem?_cons_zero]; rfl))
                  (focus (refine Or.inl ⟨by rfl, ?_⟩; intro w hSw; (try dsimp only at hSw); go_simp; any_goals with_reducible rfl))
                  (try simp only [Act.put, List.setIfInBounds_toArray, List.set_cons_zero, List.set_cons_succ])
                  refine wpAnyH_take (i := 1) (oi := ?_) (v := ?_) ?_ (by kernel_rfl) (by kernel_rfl) (by kernel_rfl) (fun _ _ _ h => h) ?_ (by assumption) ?_
                  (rotate_left 2; focus (simp only [List.getElem?_toArray, List.getElem?_cons_succ, List.getElem?_cons_zero]; rfl))
                  (focus (refine Or.inl ⟨by rfl, ?_⟩; intro w hSw; (try dsimp only at hSw); go_simp; any_goals with_reducible rfl))
                  (try simp only [Act.put, List.setIfInBounds_toArray, List.set_cons_zero, List.set_cons_succ])
                  refine wpAnyH_take (i := 2) (oi := ?_) (v := ?_) ?_ (by kernel_rfl) (by kernel_rfl) (by kernel_rfl) (fun _ _ _ h => h) ?_ (by assumption) ?_
                  (rotate_left 2; focus (simp only [List.getElem?_toArray, List.getElem?_cons_succ, List.getElem?_cons_zero]; rfl))
                  (focus (refine Or.inl ⟨by rfl, ?_⟩; intro w hSw; (try dsimp only at hSw); go_simp; any_goals with_reducible rfl))
                  (try simp only [Act.put, List.setIfInBounds_toArray, List.set_cons_zero, List.set_cons_succ])
                  refine wpAnyH_take (i := 3) (oi := ?_) (v := ?_) ?_ (by kernel_rfl) (by kernel_rfl) (by kernel_rfl) (fun _ _ _ h => h) ?_ (by assumption) ?_
                  (rotate_left 2; focus (simp only [List.getElem?_toArray, List.getElem?_cons_succ, List.getElem?_cons_zero]; rfl))
                  (focus (refine Or.inl ⟨by rfl, ?_⟩; intro w hSw; (try dsimp only at hSw); go_simp; any_goals with_reducible rfl))
                  (try simp only [Act.put, List.setIfInBounds_toArray, List.set_cons_zero, List.set_cons_succ])
                  refine wpAnyH_take (i := 4) (oi := ?_) (v := ?_) ?_ (by kernel_rfl) (by kernel_rfl) (by kernel_rfl) (fun _ _ _ h => h) ?_ (by assumption) ?_
                  (rotate_left 2; focus (simp only [List.getElem?_toArray, List.getElem?_cons_succ, List.getElem?_cons_zero]; rfl))
                  (focus (refine Or.inl ⟨by rfl, ?_⟩; intro w hSw; (try dsimp only at hSw); go_simp; any_goals with_reducible rfl))
                  (try simp only [Act.put, List.setIfInBounds_toArray, List.set_cons_zero, List.set_cons_succ])
                  refine wpAnyH_take (i := 5) (oi := ?_) (v := ?_) ?_ (by kernel_rfl) (by kernel_rfl) (by kernel_rfl) (fun _ _ _ h => h) ?_ (by assumption) ?_
                  (rotate_left 2; focus (simp only [List.getElem?_toArray, List.getElem?_cons_succ, List.getElem?_cons_zero]; rfl))
                  (focus (refine Or.inl ⟨by rfl, ?_⟩; intro w hSw; (try dsimp only at hSw); go_simp; any_goals with_reducible rfl))
                  (try simp only [Act.put, List.setIfInBounds_toArray, List.set_cons_zero, List.set_cons_succ])
                  refine wpAnyH_take (i := 6) (oi := ?_) (v := ?_) ?_ (by kernel_rfl) (by kernel_rfl) (by kernel_rfl) (fun _ _ _ h => h) ?_ (by assumption) ?_
                  (rotate_left 2; focus (simp only [List.getElem?_toArray, List.getElem?_cons_succ, List.getElem?_cons_zero]; rfl))
                  (focus (refine Or.inl ⟨by rfl, ?_⟩; intro w hSw; (try dsimp only at hSw); go_simp; any_goals with_reducible rfl))
                  (try simp only [Act.put, List.setIfInBounds_toArray, List.set_cons_zero, List.set_cons_succ])
                  refine wpAnyH_take (i := 7) (oi := ?_) (v := ?_) ?_ (by kernel_rfl) (by kernel_rfl) (by kernel_rfl) (fun _ _ _ h => h) ?_ (by assumption) ?_
                  (rotate_left 2; focus (simp only [List.getElem?_toArray, List.getElem?_cons_succ, List.getElem?_cons_zero]; rfl))
                  (focus (refine Or.inl ⟨by rfl, ?_⟩; intro w hSw; (try dsimp only at hSw); go_simp; any_goals with_reducible rfl))
                  (try simp only [Act.put, List.setIfInBounds_toArray, List.set_cons_zero, List.set_cons_succ])
                  refine wpAnyH_take (i := 8) (oi := ?_) (v := ?_) ?_ (by kernel_rfl) (by kernel_rfl) (by kernel_rfl) (fun _ _ _ h => h) ?_ (by assumption) ?_
                  (rotate_left 2; focus (simp only [List.getElem?_toArray, List.getElem?_cons_succ, List.getElem?_cons_zero]; rfl))
                  (focus (refine Or.inl ⟨by rfl, ?_⟩; intro w hSw; (try dsimp only at hSw); go_simp; any_goals with_reducible rfl))
                  (try simp only [Act.put, List.setIfInBounds_toArray, List.set_cons_zero, List.set_cons_succ])
                  refine wpAnyH_take (i := 9) (oi := ?_) (v := ?_) ?_ (by kernel_rfl) (by kernel_rfl) (by kernel_rfl) (fun _ _ _ h => h) ?_ (by assumption) ?_
                  (rotate_left 2; focus (simp only [List.getElem?_toArray, List.getElem?_cons_succ, List.getElem?_cons_zero]; rfl))
                  (focus (refine Or.inl ⟨by rfl, ?_⟩; intro w hSw; (try dsimp only at hSw); go_simp; any_goals with_reducible rfl))
                  (try simp only [Act.put, List.setIfInBounds_toArray, List.set_cons_zero, List.set_cons_succ])
                  refine wpAnyH_take (i := 10) (oi := ?_) (v := ?_) ?_ (by kernel_rfl) (by kernel_rfl) (by kernel_rfl) (fun _ _ _ h => h) ?_ (by assumption) ?_
                  (rotate_left 2; focus (simp only [List.getElem?_toArray, List.getElem?_cons_succ, List.getElem?_cons_zero]; rfl))
                  (focus (refine Or.inl ⟨by rfl, ?_⟩; intro w hSw; (try dsimp only at hSw); go_simp; any_goals with_reducible rfl))
                  (try simp only [Act.put, List.setIfInBounds_toArray, List.set_cons_zero, List.set_cons_succ])
                  refine wpAnyH_take (i := 11) (oi := ?_) (v := ?_) ?_ (by kernel_rfl) (by kernel_rfl) (by kernel_rfl) (fun _ _ _ h => h) ?_ (by assumption) ?_
                  (rotate_left 2; focus (simp only [List.getElem?_toArray, List.getElem?_cons_succ, List.getElem?_cons_zero]; rfl))
                  (focus (refine Or.inl ⟨by rfl, ?_⟩; intro w hSw; (try dsimp only at hSw); go_simp; any_goals with_reducible rfl))
                  (try simp only [Act.put, List.setIfInBounds_toArray, List.set_cons_zero, List.set_cons_succ])
                  refine wpAnyH_take (i := 12) (oi := ?_) (v := ?_) ?_ (by kernel_rfl) (by kernel_rfl) (by kernel_rfl) (fun _ _ _ h => h) ?_ (by assumption) ?_
                  (rotate_left 2; focus (simp only [List.getElem?_toArray, List.getElem?_cons_succ, List.getElem?_cons_zero]; rfl))
                  (focus (refine Or.inl ⟨by rfl, ?_⟩; intro w hSw; (try dsimp only at hSw); go_simp; any_goals with_reducible rfl))
                  (try simp only [Act.put, List.setIfInBounds_toArray, List.set_cons_zero, List.set_cons_succ])
                  refine wpAnyH_take (i := 13) (oi := ?_) (v := ?_) ?_ (by kernel_rfl) (by kernel_rfl) (by kernel_rfl) (fun _ _ _ h => h) ?_ (by assumption) ?_
                  (rotate_left 2; focus (simp only [List.getElem?_toArray, List.getElem?_cons_succ, List.getElem?_cons_zero]; rfl))
                  (focus (refine Or.inl ⟨by rfl, ?_⟩; intro w hSw; (try dsimp only at hSw); go_simp; any_goals with_reducible rfl))
                  (try simp only [Act.put, List.setIfInBounds_toArray, List.set_cons_zero, List.set_cons_succ])
                  refine wpAnyH_take (i := 14) (oi := ?_) (v := ?_) ?_ (by kernel_rfl) (by kernel_rfl) (by kernel_rfl) (fun _ _ _ h => h) ?_ (by assumption) ?_
                  (rotate_left 2; focus (simp only [List.getElem?_toArray, List.getElem?_cons_succ, List.getElem?_cons_zero]; rfl))
                  (focus (refine Or.inl ⟨by rfl, ?_⟩; intro w hSw; (try dsimp only at hSw); go_simp; any_goals with_reducible rfl))
                  (try simp only [Act.put, List.setIfInBounds_toArray, List.set_cons_zero, List.set_cons_succ])
                  refine wpAnyH_take (i := 15) (oi := ?_) (v := ?_) ?_ (by kernel_rfl) (by kernel_rfl) (by kernel_rfl) (fun _ _ _ h => h) ?_ (by assumption) ?_
                  (rotate_left 2; focus (simp only [List.getElem?_toArray, List.getElem?_cons_succ, List.getElem?_cons_zero]; rfl))
                  (focus (refine Or.inl ⟨by rfl, ?_⟩; intro w hSw; (try dsimp only at hSw); go_simp; any_goals with_reducible rfl))
                  (try simp only [Act.put, List.setIfInBounds_toArray, List.set_cons_zero, List.set_cons_succ])
                  refine wpAnyH_take (i := 16) (oi := ?_) (v := ?_) ?_ (by kernel_rfl) (by kernel_rfl) (by kernel_rfl) (fun _ _ _ h => h) ?_ (by assumption) ?_
                  (rotate_left 2; focus (simp only [List.getElem?_toArray, List.getElem?_cons_succ, List.getElem?_cons_zero]; rfl))
                  (focus (refine Or.inl ⟨by rfl, ?_⟩; intro w hSw; (try dsimp only at hSw); go_simp; any_goals with_reducible rfl))
                  (try simp only [Act.put, List.setIfInBounds_toArray, List.set_cons_zero, List.set_cons_succ])
                  refine wpAnyH_take (i := 17) (oi := ?_) (v := ?_) ?_ (by kernel_rfl) (by kernel_rfl) (by kernel_rfl) (fun _ _ _ h => h) ?_ (by assumption) ?_
                  (rotate_left 2; focus (simp only [List.getElem?_toArray, List.getElem?_cons_succ, List.getElem?_cons_zero]; rfl))
                  (focus (refine Or.inl ⟨by rfl, ?_⟩; intro w hSw; (try dsimp only at hSw); go_simp; any_goals with_reducible rfl))
                  (try simp only [Act.put, List.setIfInBounds_toArray, List.set_cons_zero, List.set_cons_succ])
                  refine wpAnyH_take (i := 18) (oi := ?_) (v := ?_) ?_ (by kernel_rfl) (by kernel_rfl) (by kernel_rfl) (fun _ _ _ h => h) ?_ (by assumption) ?_
                  (rotate_left 2; focus (simp only [List.getElem?_toArray, List.getElem?_cons_succ, List.getElem?_cons_zero]; rfl))
                  (focus (refine Or.inl ⟨by rfl, ?_⟩; intro w hSw; (try dsimp only at hSw); go_simp; any_goals with_reducible rfl))
                  (try simp only [Act.put, List.setIfInBounds_toArray, List.set_cons_zero, List.set_cons_succ])
                  refine wpAnyH_take (i := 19) (oi := ?_) (v := undef) ?_ (by kernel_rfl) (by kernel_rfl) (by kernel_rfl) (fun _ _ _ h => h) ?_ (by assumption) ?_
                  (rotate_left 1; focus (simp only [List.getElem?_toArray, List.getElem?_cons_succ, List.getElem?_cons_zero]; rfl))
                  (focus (exact Or.inr ⟨by rfl, rfl⟩))
                  (try simp only [Act.put, List.setIfInBounds_toArray, List.set_cons_zero, List.set_cons_succ])
                  refine wpAnyH_take (i := 20) (oi := ?_) (v := undef) ?_ (by kernel_rfl) (by kernel_rfl) (by kernel_rfl) (fun _ _ _ h => h) ?_ (by assumption) ?_
                  (rotate_left 1; focus (simp only [List.getElem?_toArray, List.getElem?_cons_succ, List.getElem?_cons_zero]; rfl))
                  (focus (exact Or.inr ⟨by rfl, rfl⟩))
                  (try simp only [Act.put, List.setIfInBounds_toArray, List.set_cons_zero, List.set_cons_succ])
                  refine wpAnyH_take (i := 21) (oi := ?_) (v := undef) ?_ (by kernel_rfl) (by kernel_rfl) (by kernel_rfl) (fun _ _ _ h => h) ?_ (by assumption) ?_
                  (rotate_left 1; focus (simp only [List.getElem?_toArray, List.getElem?_cons_succ, List.getElem?_cons_zero]; rfl))
                  (focus (exact Or.inr ⟨by rfl, rfl⟩))
                  (try simp only [Act.put, List.setIfInBounds_toArray, List.set_cons_zero, List.set_cons_succ])
                  refine wpAnyH_take (i := 22) (oi := ?_) (v := undef) ?_ (by kernel_rfl) (by kernel_rfl) (by kernel_rfl) (fun _ _ _ h => h) ?_ (by assumption) ?_
                  (rotate_left 1; focus (simp only [List.getElem?_toArray, List.getElem?_cons_succ, List.getElem?_cons_zero]; rfl))
                  (focus (exact Or.inr ⟨by rfl, rfl⟩))
                  (try simp only [Act.put, List.setIfInBounds_toArray, List.set_cons_zero, List.set_cons_succ])
                  refine wpAnyH_take (i := 23) (oi := ?_) (v := undef) ?_ (by kernel_rfl) (by kernel_rfl) (by kernel_rfl) (fun _ _ _ h => h) ?_ (by assumption) ?_
                  (rotate_left 1; focus (simp only [List.getElem?_toArray, List.getElem?_cons_succ, List.getElem?_cons_zero]; rfl))
                  (focus (exact Or.inr ⟨by rfl, rfl⟩))
                  (try simp only [Act.put, List.setIfInBounds_toArray, List.set_cons_zero, List.set_cons_succ])
                  refine wpAnyH_take (i := 24) (oi := ?_) (v := undef) ?_ (by kernel_rfl) (by kernel_rfl) (by kernel_rfl) (fun _ _ _ h => h) ?_ (by assumption) ?_
                  (rotate_left 1; focus (simp only [List.getElem?_toArray, List.getElem?_cons_succ, List.getElem?_cons_zero]; rfl))
                  (focus (exact Or.inr ⟨by rfl, rfl⟩))
                  (try simp only [Act.put, List.setIfInBounds_toArray, List.set_cons_zero, List.set_cons_succ])
                  refine wpAnyH_take (i := 25) (oi := ?_) (v := undef) ?_ (by kernel_rfl) (by kernel_rfl) (by kernel_rfl) (fun _ _ _ h => h) ?_ (by assumption) ?_
                  (rotate_left 1; focus (simp only [List.getElem?_toArray, List.getElem?_cons_succ, List.getElem?_cons_zero]; rfl))
                  (focus (exact Or.inr ⟨by rfl, rfl⟩))
                  (try simp only [Act.put, List.setIfInBounds_toArray, List.set_cons_zero, List.set_cons_succ])
                  refine wpAnyH_take (i := 26) (oi := ?_) (v := undef) ?_ (by kernel_rfl) (by kernel_rfl) (by kernel_rfl) (fun _ _ _ h => h) ?_ (by assumption) ?_
                  (rotate_left 1; focus (simp only [List.getElem?_toArray, List.getElem?_cons_succ, List.getElem?_cons_zero]; rfl))
                  (focus (exact Or.inr ⟨by rfl, rfl⟩))
                  (try simp only [Act.put, List.setIfInBounds_toArray, List.set_cons_zero, List.set_cons_succ])
                  refine wpAnyH_take (i := 27) (oi := ?_) (v := undef) ?_ (by kernel_rfl) (by kernel_rfl) (by kernel_rfl) (fun _ _ _ h => h) ?_ (by assumption) ?_
                  (rotate_left 1; focus (simp only [List.getElem?_toArray, List.getElem?_cons_succ, List.getElem?_cons_zero]; rfl))
                  (focus (exact Or.inr ⟨by rfl, rfl⟩))
                  (try simp only [Act.put, List.setIfInBounds_toArray, List.set_cons_zero, List.set_cons_succ])
                  refine wpAnyH_take (i := 28) (oi := ?_) (v := undef) ?_ (by kernel_rfl) (by kernel_rfl) (by kernel_rfl) (fun _ _ _ h => h) ?_ (by assumption) ?_
                  (rotate_left 1; focus (simp only [List.getElem?_toArray, List.getElem?_cons_succ, List.getElem?_cons_zero]; rfl))
                  (focus (exact Or.inr ⟨by rfl, rfl⟩))
                  (try simp only [Act.put, List.setIfInBounds_toArray, List.set_cons_zero, List.set_cons_succ])
                  refine wpAnyH_take (i := 29) (oi := ?_) (v := ?_) ?_ (by kernel_rfl) (by kernel_rfl) (by kernel_rfl) (fun _ _ _ h => h) ?_ (by assumption) ?_
                  (rotate_left 2; focus (simp only [List.getElem?_toArray, List.getElem?_cons_succ, List.getElem?_cons_zero]; rfl))
                  (focus (refine Or.inl ⟨by rfl, ?_⟩; intro w hSw; (try dsimp only at hSw); go_simp; any_goals with_reducible rfl))
                  (try simp only [Act.put, List.setIfInBounds_toArray, List.set_cons_zero, List.set_cons_succ])
                  refine wpAnyH_take (i := 30) (oi := ?_) (v := ?_) ?_ (by kernel_rfl) (by kernel_rfl) (by kernel_rfl) (fun _ _ _ h => h) ?_ (by assumption) ?_
                  (rotate_left 2; focus (simp only [List.getElem?_toArray, List.getElem?_cons_succ, List.getElem?_cons_zero]; rfl))
                  (focus (refine Or.inl ⟨by rfl, ?_⟩; intro w hSw; (try dsimp only at hSw); go_simp; any_goals with_reducible rfl))
                  (try simp only [Act.put, List.setIfInBounds_toArray, List.set_cons_zero, List.set_cons_succ])
                  refine wpAnyH_done (by kernel_rfl) ?_ _
                  refine NoPanic.normal ?_
                  -- END REGION
                  go_wp2
                  go_roundw
                  case rel => exact ⟨k + 1, HKL.out, by go_num, by first | exact ⟨_, rfl⟩ | exact ⟨_, World.drewN_drewN ..⟩⟩
                  case measure => simp [intOf]; omega
                · obtain ⟨y, hy⟩ : ∃ y, R[k - 1]? = some y := ⟨_, List.getElem?_eq_getElem (by omega)⟩
                  obtain ⟨b2, o2, cp2, hv2, _, _, _, _, g2, _⟩ := ints_at HAT5.out hy
                  simp at hv2
                  obtain ⟨⟨rfl, rfl⟩, rfl⟩ := hv2
                  have hyx : y < x := sorted_at HRS.out.1 hy hx (by omega)
                  have hyx2 : ¬ x ≤ y := by omega
                  obtain ⟨m, hm⟩ : ∃ m, k - 1 = m := ⟨_, rfl⟩
                  rw [hm] at g2
                  have hkp : (0 : Int) < (k : Int) := by omega
                  have hkn : 0 < k := by omega
                  have hsub : IntKind.i64.wrap ((k : Int) - 1) = (m : Int) := by rw [show (k : Int) - 1 = (m : Int) by omega]; exact IntWalk.i64_in _ ⟨by omega, by omega⟩
                  have hj1 : (m : Int) < (R.length : Int) := by omega
                  have hj0 : (0 : Int) ≤ (m : Int) := by omega
                  have HKL := Lib.hid (show k + 1 ≤ R.length by omega)
                  clear hm hk0
                  clear hx hxr hy hyx
                  go_wp2
                  go_quiet (fail)
                  go_wp2
                  go_roundw
                  case rel => exact ⟨k + 1, HKL.out, by go_num, by first | exact ⟨_, rfl⟩ | exact ⟨_, World.drewN_drewN ..⟩⟩
                  case measure => simp [intOf]; omega
              · have hG2 := HG2.out (wA.drewN nn) (HBX5.out.trans (bdN _ _ _))
                have HG2' := Lib.hid hG2
                obtain ⟨c0, c1, c2, c3⟩ := lay_cells ((Upd.drewN [] wA nn).block _ (block_lt HY5.out) (by simp) |>.trans HY5.out)
                clear hG2
                go_wp2_with fail
                refine HG2'.out.mono ?_
                rintro e w6 ⟨v6, rfl, hat6, hb6⟩
                have hx6 := (hb6.block _ (block_lt (w := wA.drewN nn) HX5.out)).trans HX5.out
                clear d0 d1 d2 d3 d4 c0 c1 c2 c3
                obtain ⟨d0, d1, d2, d3, d4⟩ := fo_cells hx6
                obtain ⟨a6, c6, rfl, _, hc6⟩ := slice_form' hat6
                unfold maxLen at hc6
                have HB6 := Lib.hid ((HB5.out.trans (bdN _ _ nn)).trans (hb6.mono HB5.out.size))
                rw [HUP2.out]
                have hbs : ((F.L.length : Int) == (F.L.length : Int)) = true := by simp
                clear hx6 hat6 hb6
                go_wp2_with fail
                go_ret
                exact ⟨by simp, HB6.out⟩
    · have HG := gather_bad p F.L.length F.dim F.leaf F.depth F.L.flatten _ _ F.T v limit W4 HI4.out hdim hfl H4.out.T f6 HV4.out (by rw [hc]; omega)
      rw [hc] at HG
      obtain ⟨c', hc'⟩ : ∃ c', (if c = 0 then 1 else c) = c' := ⟨_, rfl⟩
      have hzb : (c' != 0) = true := by
        rw [← hc']
        split <;> simp
        assumption
      rw [hc'] at HG
      have HG := Lib.hid HG
      clear f1 f2 f3 f4 f5 f6 hdim hfl hc hc' hgood
      go_wp2_with fail
      refine HG.out.mono ?_
      rintro e w5 ⟨rfl, hb5⟩
      have HB5 := Lib.hid (HB4.out.trans (hb5.mono HB4.out.size))
      clear hb5 hW3 hW4
      go_wp2_with fail
      go_ret
      exact ⟨rfl, HB5.out⟩
  · have HBU := Lib.hid (built_no _ _ F w1 H1.out HS.out hcb)
    clear hcb
    unfold noFo at HBU
    go_wp2_with fail
    refine HBU.out.mono ?_
    rintro e w2 ⟨rfl, hb2⟩
    have HB2 := Lib.hid (HB1.out.trans (hb2.mono HB1.out.size))
    obtain ⟨W3, hW3⟩ : ∃ W3, w2.alloc (.cells #[.pointer none, .int .i64 0, .int .i64 0, .slice none 0 0] 30) = W3 := ⟨_, rfl⟩
    have hu3 : Upd [] w2 W3 := by rw [← hW3]; exact Upd.alloc [] w2 _
    have hy3 : W3.heap[w2.heap.size]? = some (.cells #[.pointer none, .int .i64 0, .int .i64 0, .slice none 0 0] 30) := by rw [← hW3]; exact Go.heap_alloc_new w2 _
    obtain ⟨z0, z1, z2, z3⟩ : W3.frozen? ⟨w2.heap.size, 0, none⟩ = false ∧ W3.frozen? ⟨w2.heap.size, 1, none⟩ = false ∧ W3.frozen? ⟨w2.heap.size, 2, none⟩ = false ∧ W3.frozen? ⟨w2.heap.size, 3, none⟩ = false := ⟨frozen_of_block hy3, frozen_of_block hy3, frozen_of_block hy3, frozen_of_block hy3⟩
    obtain ⟨y0, y1, y2, y3⟩ : W3.cell? ⟨w2.heap.size, 0, none⟩ = some (.pointer none) ∧ W3.cell? ⟨w2.heap.size, 1, none⟩ = some (.int .i64 0) ∧ W3.cell? ⟨w2.heap.size, 2, none⟩ = some (.int .i64 0) ∧ W3.cell? ⟨w2.heap.size, 3, none⟩ = some (.slice none 0 0) := by refine ⟨?_, ?_, ?_, ?_⟩ <;> (rw [cell_of_block hy3]; rfl)
    have HB3 : ∀ u0 u1 u2 u3, Hid (Below w.heap.size w ((((W3.setCell ⟨w2.heap.size, 0, none⟩ u0).setCell ⟨w2.heap.size, 1, none⟩ u1).setCell ⟨w2.heap.size, 2, none⟩ u2).setCell ⟨w2.heap.size, 3, none⟩ u3)) := fun u0 u1 u2 u3 => Lib.hid (HB2.out.trans ((hu3.below.trans ((upd_set4 W3 w2.heap.size u0 u1 u2 u3).belowB hu3.size (by simp))).mono HB2.out.size))
    have HB3' := Lib.hid HB3
    clear HB3 hb2 hu3 hy3
    go_wp2_with fail
    go_ret
    exact ⟨rfl, (HB3'.out _ _ _ _).out⟩

theorem SearchEnough_walk (s : Array Value) (F : Fo) (vv : Value) (v : List Int) (limit : Int) (w : World) (h : kFo.At [] w s.toList F) (hs : F.small) (hv : (Kd.int .i32).slice.At [] w [vv] v) (hl : (Lit.int .i64 limit).wf = true) :
    Calls Try.prog 4 #[.agg s, vv, .int .i64 limit] w fun e w' => e = .returned (.bool true) ∧ Below w.heap.size w w' := by
  obtain ⟨vL, vT, rfl, hf⟩ := fo_arr h
  exact searchEnough_calls vL vT vv F v limit w hf hs hv

end Go.Proofs.Ytiplifkbegmeiaa
