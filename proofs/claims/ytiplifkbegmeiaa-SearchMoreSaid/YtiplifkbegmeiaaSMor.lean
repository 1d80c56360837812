/-
The law SearchMore.
-/
import Derived.Test.YtiplifkbegmeiaaBuilt
import Derived.Test.YtiplifkbegmeiaaGaQ
namespace Go.Proofs.Ytiplifkbegmeiaa
set_option linter.unusedVariables false
set_option linter.unusedSimpArgs false
open Go.RowKit

set_option maxHeartbeats 8000000 in
set_option maxRecDepth 100000 in
theorem searchMore_calls (vL vT vv : Value) (F : Fo) (v : List Int) (limit more : Int) (w : World) (h : FoAt [] w vL vT F) (hs : F.small) (hv : (Kd.int .i32).slice.At [] w [vv] v) :
    Calls Try.prog 5 #[.agg #[.int .i64 F.dim, .int .i64 F.leaf, .int .i64 F.depth, vL, vT], vv, .int .i64 limit, .int .i64 more] w fun e w' => e = .returned (.bool true) ∧ Below w.heap.size w w' := by
  obtain ⟨aL, cL, rfl, hlL, hcL⟩ := Kd.slice_form h.L
  obtain ⟨aT, cT, rfl, hlT, hcT⟩ := Kd.slice_form h.T
  obtain ⟨av, cv, rfl, hlv, hcv⟩ := Kd.slice_form hv
  unfold maxLen at hcL hcT hcv
  obtain ⟨W0, hW0⟩ : ∃ W0, w.alloc (foObj (.slice aL F.L.length cL) (.slice aT F.T.length cT) F) = W0 := ⟨_, rfl⟩
  have hu0 : Upd [] w W0 := by rw [← hW0]; exact Upd.alloc [] w _
  have hx0 : W0.heap[w.heap.size]? = some (foObj (.slice aL F.L.length cL) (.slice aT F.T.length cT) F) := by rw [← hW0]; exact Go.heap_alloc_new w _
  unfold foObj at hW0
  have H0 := Lib.hid (h.below hu0.below)
  have HV0 := Lib.hid (hv.below hu0.below)
  have HB0 := Lib.hid hu0.below
  have HX0 := Lib.hid hx0
  have HA := Lib.hid (awake21_calls W0)
  have HS := Lib.hid hs
  clear h hs hv hu0 hx0
  go_enter Try.func5, Try.ntmps5
  go_wp2_with fail
  refine HA.out.mono ?_
  rintro e w1 ⟨rfl, hb1⟩
  have hx1 := (hb1.block _ (block_lt HX0.out)).trans HX0.out
  obtain ⟨d0, d1, d2, d3, d4⟩ := fo_cells hx1
  have HX1 := Lib.hid hx1
  have H1 := Lib.hid (H0.out.below hb1)
  have HV1 := Lib.hid (HV0.out.below hb1)
  have HB1 := Lib.hid (HB0.out.trans (hb1.mono HB0.out.size))
  clear hb1 hx1 hW0 HX0 H0 HV0 HA
  by_cases hcb : canB F
  · have HBU := Lib.hid (built_yes _ _ F w1 H1.out HS.out hcb)
    have HCB := Lib.hid hcb
    clear hcb
    go_wp2_with fail
    refine HBU.out.mono ?_
    rintro e w2 ⟨p, rfl, hi2, hb2⟩
    have hx2 := (hb2.block _ (block_lt HX1.out)).trans HX1.out
    have H2 := Lib.hid (H1.out.below hb2)
    have HV2 := Lib.hid (HV1.out.below hb2)
    have HB2 := Lib.hid (HB1.out.trans (hb2.mono HB1.out.size))
    obtain ⟨W3, hW3⟩ : ∃ W3, w2.alloc (.cells #[.pointer none, .int .i64 0, .int .i64 0, .slice none 0 0] 30) = W3 := ⟨_, rfl⟩
    have hu3 : Upd [] w2 W3 := by rw [← hW3]; exact Upd.alloc [] w2 _
    have hy3 : W3.heap[w2.heap.size]? = some (.cells #[.pointer none, .int .i64 0, .int .i64 0, .slice none 0 0] 30) := by rw [← hW3]; exact Go.heap_alloc_new w2 _
    obtain ⟨z0, z1, z2, z3⟩ : W3.frozen? ⟨w2.heap.size, 0, none⟩ = false ∧ W3.frozen? ⟨w2.heap.size, 1, none⟩ = false ∧ W3.frozen? ⟨w2.heap.size, 2, none⟩ = false ∧ W3.frozen? ⟨w2.heap.size, 3, none⟩ = false := ⟨frozen_of_block hy3, frozen_of_block hy3, frozen_of_block hy3, frozen_of_block hy3⟩
    obtain ⟨y0, y1, y2, y3⟩ : W3.cell? ⟨w2.heap.size, 0, none⟩ = some (.pointer none) ∧ W3.cell? ⟨w2.heap.size, 1, none⟩ = some (.int .i64 0) ∧ W3.cell? ⟨w2.heap.size, 2, none⟩ = some (.int .i64 0) ∧ W3.cell? ⟨w2.heap.size, 3, none⟩ = some (.slice none 0 0) := by refine ⟨?_, ?_, ?_, ?_⟩ <;> (rw [cell_of_block hy3]; rfl)
    obtain ⟨W4, hW4⟩ : ∃ W4, (((W3.setCell ⟨w2.heap.size, 0, none⟩ (.pointer (some ⟨p, 0, none⟩))).setCell ⟨w2.heap.size, 1, none⟩ (.int .i64 F.leaf)).setCell ⟨w2.heap.size, 2, none⟩ (.int .i64 F.depth)).setCell ⟨w2.heap.size, 3, none⟩ (.slice aT F.T.length cT) = W4 := ⟨_, rfl⟩
    have hu4 : Upd [w2.heap.size] W3 W4 := by rw [← hW4]; exact upd_set4 _ _ _ _ _ _
    have hy4 : W4.heap[w2.heap.size]? = some (.cells #[.pointer (some ⟨p, 0, none⟩), .int .i64 F.leaf, .int .i64 F.depth, .slice aT F.T.length cT] 30) := by rw [← hW4]; exact heap_set4 hy3 rfl _ _ _ _
    have hb4 : Below w2.heap.size w2 W4 := hu3.below.trans (hu4.belowB hu3.size (by simp))
    have hx4 := (hb4.block _ (block_lt hx2)).trans hx2
    have HI4 := Lib.hid (hi2.below hb4)
    have H4 := Lib.hid (H2.out.below hb4)
    have HV4 := Lib.hid (HV2.out.below hb4)
    have HB4 := Lib.hid (HB2.out.trans (hb4.mono HB2.out.size))
    clear d0 d1 d2 d3 d4
    obtain ⟨d0, d1, d2, d3, d4⟩ := fo_cells hx4
    obtain ⟨c0, c1, c2, c3⟩ := lay_cells hy4
    have HX4 := Lib.hid hx4
    have HY4 := Lib.hid hy4
    clear hb2 hx2 hi2 hu3 hy3 hu4 hb4 hx4 hy4 H1 HV1 HX1 HB1 HBU
    by_cases hlen : 2000 < v.length
    · have hlen2 : (2000 : Int) < (v.length : Int) := by omega
      go_wp2_with fail
      go_ret
      exact ⟨rfl, HB4.out⟩
    have hlen2 : ¬ (2000 : Int) < (v.length : Int) := by omega
    by_cases q1 : limit < 1
    · go_wp2_with fail
      go_ret
      exact ⟨rfl, HB4.out⟩
    by_cases q2 : 1048576 < limit
    · go_wp2_with fail
      go_ret
      exact ⟨rfl, HB4.out⟩
    by_cases q3 : more < 0
    · go_wp2_with fail
      go_ret
      exact ⟨rfl, HB4.out⟩
    by_cases q4 : 1048576 < more
    · go_wp2_with fail
      go_ret
      exact ⟨rfl, HB4.out⟩
    obtain ⟨f1, f2, f3, f4, f5, f6⟩ := few16_ok HCB.out.1
    have hdim := (dataCheck_ok HCB.out.2).1
    have hfl := flat_lenF HCB.out.2
    obtain ⟨c, hc⟩ : ∃ c, seaCheck F.L.length F.dim F.leaf F.depth F.T v = c := ⟨_, rfl⟩
    have hw1 : IntKind.i64.wrap (limit + more) = limit + more := IntWalk.i64_in _ ⟨by omega, by omega⟩
    by_cases hz : c = 0
    · subst hz
      obtain ⟨hz1, hz2⟩ := sea_zero hc
      obtain ⟨hz3, hz4, hz5⟩ := lay_zero hz1
      have HG := gather_ok p F.L.length F.dim F.leaf F.depth F.L.flatten _ _ F.T v limit W4 HI4.out hdim hfl H4.out.T f6 HV4.out hc (by omega) (by omega) (by omega) (by omega) (by omega)
      have HG2 : ∀ W, Below W4.heap.size W4 W → _ := fun W hW => gather_ok p F.L.length F.dim F.leaf F.depth F.L.flatten _ _ F.T v (limit + more) W (HI4.out.below hW) hdim hfl (H4.out.T.below hW) f6 (HV4.out.below hW) hc (by omega) (by omega) (by omega) (by omega) (by omega)
      have hmo := gathered_all (a := limit) (b := limit + more) (by omega) (Bd21.vec hz2).1 hz3
      obtain ⟨FIN, hFIN⟩ : ∃ Z, gatherS F.T v F.L.length limit F.T.flatten.length (beginS F.T) [] = Z := ⟨_, rfl⟩
      obtain ⟨FIN2, hFIN2⟩ : ∃ Z, gatherS F.T v F.L.length (limit + more) F.T.flatten.length (beginS F.T) [] = Z := ⟨_, rfl⟩
      rw [hFIN] at HG hmo
      rw [hFIN2] at HG2 hmo
      have hsub : ∀ x, x ∈ setUpTo F.L.length FIN.2 → x ∈ setUpTo F.L.length FIN2.2 := fun x hx => by
        rw [setUpTo_mem] at hx ⊢
        exact ⟨hx.1, hmo.2 x hx.2⟩
      have hR1 := set_wf F.L.length FIN.2 (by omega)
      have hR2 := set_wf F.L.length FIN2.2 (by omega)
      obtain ⟨ST, hST⟩ : ∃ N : Int, (FIN.1.steps : Int) = N := ⟨_, rfl⟩
      obtain ⟨ST2, hST2⟩ : ∃ N : Int, (FIN2.1.steps : Int) = N := ⟨_, rfl⟩
      have hstl : ¬ ST2 < ST := by have := hmo.1; omega
      have hs1 := setUpTo_sorted FIN.2 F.L.length
      have hs2 := setUpTo_sorted FIN2.2 F.L.length
      obtain ⟨R, hR⟩ : ∃ l, setUpTo F.L.length FIN.2 = l := ⟨_, rfl⟩
      obtain ⟨R2, hRR⟩ : ∃ l, setUpTo F.L.length FIN2.2 = l := ⟨_, rfl⟩
      rw [hR] at hR1 hs1 hsub HG
      rw [hRR] at hR2 hs2 hsub HG2
      rw [hST] at HG
      rw [hST2] at HG2
      have HG2 := Lib.hid HG2
      have HG := Lib.hid HG
      have HSUB := Lib.hid hsub
      have HS1 := Lib.hid hs1
      have HS2 := Lib.hid hs2
      have hRl := hR1.2
      have hRl2 := hR2.2
      clear f1 f2 f3 f4 f5 f6 hdim hfl hc hz1 hz2 hz3 hz4 hz5 hFIN hFIN2 hmo hsub hR1 hR2 hST hST2 hs1 hs2 hR hRR
      go_wp2_with fail
      refine HG.out.mono ?_
      rintro e w5 ⟨v5, rfl, hat5, hb5⟩
      have hy5 := (hb5.block _ (block_lt HY4.out)).trans HY4.out
      have HB5 := Lib.hid (HB4.out.trans (hb5.mono HB4.out.size))
      have HG25 := Lib.hid (HG2.out w5 hb5)
      clear d0 d1 d2 d3 d4 c0 c1 c2 c3 hW3 hW4 z0 z1 z2 z3 y0 y1 y2 y3
      obtain ⟨c0, c1, c2, c3⟩ := lay_cells hy5
      obtain ⟨a5, c5, rfl, _, hc5⟩ := slice_form' hat5
      unfold maxLen at hc5
      have HAT5 := Lib.hid hat5
      clear hb5 hy5 hat5 HG HG2
      go_wp2_with fail
      refine HG25.out.mono ?_
      rintro e w6 ⟨v6, rfl, hat6, hb6⟩
      obtain ⟨a6, c6, rfl, _, hc6⟩ := slice_form' hat6
      unfold maxLen at hc6
      have HAT6 := Lib.hid (HAT5.out.below hb6)
      have HAU6 := Lib.hid hat6
      have HB6 := Lib.hid (HB5.out.trans (hb6.mono HB5.out.size))
      clear hat6 hb6 c0 c1 c2 c3 HG25 hw1
      go_wp2_with fail
      go_loopw [17, 18] (fun kk i wr => ∃ k j : Nat, k ≤ R.length ∧ j ≤ R2.length ∧ i = .int .i64 k ∧ kk = .int .i64 j ∧ Hid (∀ (m : Nat) (x y : Int), m < j → R2[m]? = some y → R[k]? = some x → y < x) ∧ Hid (∃ n, wr = w6.drewN n)) (fun _ i _ => R.length - (intOf i).toNat)
      case atStart => exact ⟨0, 0, Nat.zero_le _, Nat.zero_le _, rfl, rfl, Lib.hid (fun m x y hm => by omega), ⟨0, rfl⟩⟩
      case round =>
        obtain ⟨k, j0, hk, hj0, rfl, rfl, hinv, hw⟩ := hrel
        by_cases hlt : k < R.length
        · obtain ⟨x, hx⟩ : ∃ x, R[k]? = some x := ⟨_, List.getElem?_eq_getElem hlt⟩
          have HX := Lib.hid hx
          obtain ⟨q, hq⟩ : ∃ q, R2[q]? = some x := by
            obtain ⟨q, hq, e⟩ := List.getElem_of_mem (HSUB.out x (List.mem_of_getElem? hx))
            exact ⟨q, by rw [List.getElem?_eq_getElem hq, e]⟩
          have hql := (List.getElem?_eq_some_iff.1 hq).1
          have HQ := Lib.hid hq
          have hjq : j0 ≤ q := Classical.byContradiction (fun h => by have := hinv.out q x x (by omega) hq hx; omega)
          obtain ⟨b1, o1, cp1, hv1, _, _, _, _, g1, _⟩ := ints_at HAT6.out hx
          simp at hv1
          obtain ⟨rfl, rfl⟩ := hv1
          have hi1 : (k : Int) < (R.length : Int) := by omega
          have hi0 : (0 : Int) ≤ (k : Int) := by omega
          clear hx hq
          go_wp2_with fail
          go_loopw [17] (fun kk wr' => ∃ j : Nat, j ≤ q ∧ kk = .int .i64 j ∧ Hid (∃ n, wr' = w6.drewN n)) (fun kk _ => R2.length - (intOf kk).toNat)
          case atStart => exact ⟨j0, hjq, rfl, hw⟩
          case round =>
            obtain ⟨j, hj, rfl, hw'⟩ := hrel
            obtain ⟨nn, rfl⟩ := hw'
            obtain ⟨y, hy⟩ : ∃ y, R2[j]? = some y := ⟨_, List.getElem?_eq_getElem (by omega)⟩
            obtain ⟨b2, o2, cp2, hv2, _, _, _, _, g2, _⟩ := ints_at HAU6.out hy
            simp at hv2
            obtain ⟨rfl, rfl⟩ := hv2
            have hj1 : (j : Int) < (R2.length : Int) := by omega
            have hj0' : (0 : Int) ≤ (j : Int) := by omega
            by_cases hjq2 : j < q
            · have hyx : y < x := sorted_at HS2.out hy HQ.out hjq2
              clear hy
              go_wp2
              go_quiet (fail)
              go_wp2
              go_roundw
              case rel => exact ⟨j + 1, by omega, by go_num, by first | exact ⟨_, rfl⟩ | exact ⟨_, World.drewN_drewN ..⟩⟩
              case measure => simp [intOf]; omega
            · obtain rfl : j = q := by omega
              have hyx : y = x := by
                have h1 := HQ.out
                rw [hy] at h1
                exact Option.some.inj h1
              subst hyx
              have hny : ¬ y < y := by omega
              have hne : ((j : Int) == (R2.length : Int)) = false := by simp; omega
              have hyy : (y != y) = false := by simp
              have HN : Hid (∀ (m : Nat) (x' y' : Int), m < j → R2[m]? = some y' → R[k + 1]? = some x' → y' < x') := Lib.hid (fun m x' y' hm h1 h2 => by
                have e1 := sorted_at HS2.out h1 hy hm
                have e2 := sorted_at HS1.out HX.out h2 (by omega)
                omega)
              clear hy hinv
              go_wp2
              go_quiet (fail)
              go_wp2
              go_quiet (fail)
              go_wp2
              go_roundw
              case rel => exact ⟨k + 1, j, by omega, by omega, by go_num, rfl, HN, by first | exact ⟨_, rfl⟩ | exact ⟨_, World.drewN_drewN ..⟩⟩
              case measure => simp [intOf]; omega
        · obtain ⟨nn, rfl⟩ := hw
          go_wp2
          go_ret
          exact ⟨rfl, HB6.out.trans (bdN _ _ _)⟩
    · have HG := gather_bad p F.L.length F.dim F.leaf F.depth F.L.flatten _ _ F.T v limit W4 HI4.out hdim hfl H4.out.T f6 HV4.out (by rw [hc]; exact .inl hz)
      rw [hc, if_neg hz] at HG
      have HG2 : ∀ W, Below W4.heap.size W4 W → _ := fun W hW => gather_bad p F.L.length F.dim F.leaf F.depth F.L.flatten _ _ F.T v (limit + more) W (HI4.out.below hW) hdim hfl (H4.out.T.below hW) f6 (HV4.out.below hW) (by rw [hc]; exact .inl hz)
      rw [hc, if_neg hz] at HG2
      have HG := Lib.hid HG
      have HG2 := Lib.hid HG2
      have hcc : (c != c) = false := by simp
      clear f1 f2 f3 f4 f5 f6 hdim hfl hc hz
      go_wp2_with fail
      refine HG.out.mono ?_
      rintro e w5 ⟨rfl, hb5⟩
      have hy5 := (hb5.block _ (block_lt HY4.out)).trans HY4.out
      have HB5 := Lib.hid (HB4.out.trans (hb5.mono HB4.out.size))
      have HG25 := Lib.hid (HG2.out w5 hb5)
      clear d0 d1 d2 d3 d4 c0 c1 c2 c3 hW3 hW4 z0 z1 z2 z3 y0 y1 y2 y3
      obtain ⟨c0, c1, c2, c3⟩ := lay_cells hy5
      clear hb5 hy5 HG HG2
      go_wp2_with fail
      refine HG25.out.mono ?_
      rintro e w6 ⟨rfl, hb6⟩
      have HB6 := Lib.hid (HB5.out.trans (hb6.mono HB5.out.size))
      clear hb6
      go_wp2_with fail
      go_loopw [18] (fun i wr => i = .int .i64 0 ∧ wr = w6) (fun _ _ => 0)
      case atStart => exact ⟨rfl, rfl⟩
      case round =>
        obtain ⟨rfl, rfl⟩ := hrel
        go_wp2_with fail
        go_ret
        exact ⟨rfl, HB6.out⟩
  · have HBU := Lib.hid (built_no _ _ F w1 H1.out HS.out hcb)
    clear hcb
    unfold noFo at HBU
    go_wp2_with fail
    refine HBU.out.mono ?_
    rintro e w2 ⟨rfl, hb2⟩
    have HB2 := Lib.hid (HB1.out.trans (hb2.mono HB1.out.size))
    obtain ⟨W3, hW3⟩ : ∃ W3, w2.alloc (.cells #[.pointer none, .int .i64 0, .int .i64 0, .slice none 0 0] 30) = W3 := ⟨_, rfl⟩
    have hu3 : Upd [] w2 W3 := by rw [← hW3]; exact Upd.alloc [] w2 _
    have hy3 : W3.heap[w2.heap.size]? = some (.cells #[.pointer none, .int .i64 0, .int .i64 0, .slice none 0 0] 30) := by rw [← hW3]; exact Go.heap_alloc_new w2 _
    obtain ⟨z0, z1, z2, z3⟩ : W3.frozen? ⟨w2.heap.size, 0, none⟩ = false ∧ W3.frozen? ⟨w2.heap.size, 1, none⟩ = false ∧ W3.frozen? ⟨w2.heap.size, 2, none⟩ = false ∧ W3.frozen? ⟨w2.heap.size, 3, none⟩ = false := ⟨frozen_of_block hy3, frozen_of_block hy3, frozen_of_block hy3, frozen_of_block hy3⟩
    obtain ⟨y0, y1, y2, y3⟩ : W3.cell? ⟨w2.heap.size, 0, none⟩ = some (.pointer none) ∧ W3.cell? ⟨w2.heap.size, 1, none⟩ = some (.int .i64 0) ∧ W3.cell? ⟨w2.heap.size, 2, none⟩ = some (.int .i64 0) ∧ W3.cell? ⟨w2.heap.size, 3, none⟩ = some (.slice none 0 0) := by refine ⟨?_, ?_, ?_, ?_⟩ <;> (rw [cell_of_block hy3]; rfl)
    have HB3 : ∀ u0 u1 u2 u3, Hid (Below w.heap.size w ((((W3.setCell ⟨w2.heap.size, 0, none⟩ u0).setCell ⟨w2.heap.size, 1, none⟩ u1).setCell ⟨w2.heap.size, 2, none⟩ u2).setCell ⟨w2.heap.size, 3, none⟩ u3)) := fun u0 u1 u2 u3 => Lib.hid (HB2.out.trans ((hu3.below.trans ((upd_set4 W3 w2.heap.size u0 u1 u2 u3).belowB hu3.size (by simp))).mono HB2.out.size))
    have HB3' := Lib.hid HB3
    clear HB3 hb2 hu3 hy3
    go_wp2_with fail
    go_ret
    exact ⟨rfl, (HB3'.out _ _ _ _).out⟩

theorem SearchMore_walk (s : Array Value) (F : Fo) (vv : Value) (v : List Int) (limit more : Int) (w : World) (h : kFo.At [] w s.toList F) (hs : F.small) (hv : (Kd.int .i32).slice.At [] w [vv] v) (hl : (Lit.int .i64 limit).wf = true) (hm : (Lit.int .i64 more).wf = true) :
    Calls Try.prog 5 #[.agg s, vv, .int .i64 limit, .int .i64 more] w fun e w' => e = .returned (.bool true) ∧ Below w.heap.size w w' := by
  obtain ⟨vL, vT, rfl, hf⟩ := fo_arr h
  exact searchMore_calls vL vT vv F v limit more w hf hs hv

end Go.Proofs.Ytiplifkbegmeiaa
