/-
The law SearchGathers.
-/
import Derived.Test.YtiplifkbegmeiaaBuilt
namespace Go.Proofs.Ytiplifkbegmeiaa
set_option linter.unusedVariables false
set_option linter.unusedSimpArgs false
open Go.RowKit

theorem lay_obj {w : World} {b p : Nat} {leaf depth : Int} {vT : Value} (h : w.heap[b]? = some (.cells #[.pointer (some ⟨p, 0, none⟩), .int .i64 leaf, .int .i64 depth, vT] 30)) {w' : World} (hu : Below w.heap.size w w') :
    w'.heap[b]? = some (.cells #[.pointer (some ⟨p, 0, none⟩), .int .i64 leaf, .int .i64 depth, vT] 30) := (hu.block _ (block_lt h)).trans h

set_option maxHeartbeats 8000000 in
set_option maxRecDepth 100000 in
theorem searchGathers_calls (vL vT vv : Value) (F : Fo) (v : List Int) (limit : Int) (w : World) (h : FoAt [] w vL vT F) (hs : F.small) (hv : (Kd.int .i32).slice.At [] w [vv] v) :
    Calls Try.prog 3 #[.agg #[.int .i64 F.dim, .int .i64 F.leaf, .int .i64 F.depth, vL, vT], vv, .int .i64 limit] w fun e w' => e = .returned (.bool true) ∧ Below w.heap.size w w' := by
  obtain ⟨aL, cL, rfl, hlL, hcL⟩ := Kd.slice_form h.L
  obtain ⟨aT, cT, rfl, hlT, hcT⟩ := Kd.slice_form h.T
  obtain ⟨av, cv, rfl, hlv, hcv⟩ := Kd.slice_form hv
  unfold maxLen at hcL hcT hcv
  obtain ⟨W0, hW0⟩ : ∃ W0, w.alloc (foObj (.slice aL F.L.length cL) (.slice aT F.T.length cT) F) = W0 := ⟨_, rfl⟩
  have hu0 : Upd [] w W0 := by rw [← hW0]; exact Upd.alloc [] w _
  have hx0 : W0.heap[w.heap.size]? = some (foObj (.slice aL F.L.length cL) (.slice aT F.T.length cT) F) := by rw [← hW0]; exact Go.heap_alloc_new w _
  unfold foObj at hW0
  have H0 := Lib.hid (h.below hu0.below)
  have HV0 := Lib.hid (hv.below hu0.below)
  have HB0 := Lib.hid hu0.below
  have HX0 := Lib.hid hx0
  have HA := Lib.hid (awake21_calls W0)
  have HS := Lib.hid hs
  clear h hs hv hu0 hx0
  go_enter Try.func3, Try.ntmps3
  go_wp2_with fail
  refine HA.out.mono ?_
  rintro e w1 ⟨rfl, hb1⟩
  have hx1 := (hb1.block _ (block_lt HX0.out)).trans HX0.out
  obtain ⟨d0, d1, d2, d3, d4⟩ := fo_cells hx1
  have HX1 := Lib.hid hx1
  have H1 := Lib.hid (H0.out.below hb1)
  have HV1 := Lib.hid (HV0.out.below hb1)
  have HB1 := Lib.hid (HB0.out.trans (hb1.mono HB0.out.size))
  clear hb1 hx1 hW0 HX0 H0 HV0 HA
  by_cases hcb : canB F
  · have HBU := Lib.hid (built_yes _ _ F w1 H1.out HS.out hcb)
    have HCB := Lib.hid hcb
    clear hcb
    go_wp2_with fail
    refine HBU.out.mono ?_
    rintro e w2 ⟨p, rfl, hi2, hb2⟩
    have hx2 := (hb2.block _ (block_lt HX1.out)).trans HX1.out
    have H2 := Lib.hid (H1.out.below hb2)
    have HV2 := Lib.hid (HV1.out.below hb2)
    have HB2 := Lib.hid (HB1.out.trans (hb2.mono HB1.out.size))
    obtain ⟨W3, hW3⟩ : ∃ W3, w2.alloc (.cells #[.pointer none, .int .i64 0, .int .i64 0, .slice none 0 0] 30) = W3 := ⟨_, rfl⟩
    have hu3 : Upd [] w2 W3 := by rw [← hW3]; exact Upd.alloc [] w2 _
    have hy3 : W3.heap[w2.heap.size]? = some (.cells #[.pointer none, .int .i64 0, .int .i64 0, .slice none 0 0] 30) := by rw [← hW3]; exact Go.heap_alloc_new w2 _
    obtain ⟨z0, z1, z2, z3⟩ : W3.frozen? ⟨w2.heap.size, 0, none⟩ = false ∧ W3.frozen? ⟨w2.heap.size, 1, none⟩ = false ∧ W3.frozen? ⟨w2.heap.size, 2, none⟩ = false ∧ W3.frozen? ⟨w2.heap.size, 3, none⟩ = false := ⟨frozen_of_block hy3, frozen_of_block hy3, frozen_of_block hy3, frozen_of_block hy3⟩
    obtain ⟨y0, y1, y2, y3⟩ : W3.cell? ⟨w2.heap.size, 0, none⟩ = some (.pointer none) ∧ W3.cell? ⟨w2.heap.size, 1, none⟩ = some (.int .i64 0) ∧ W3.cell? ⟨w2.heap.size, 2, none⟩ = some (.int .i64 0) ∧ W3.cell? ⟨w2.heap.size, 3, none⟩ = some (.slice none 0 0) := by refine ⟨?_, ?_, ?_, ?_⟩ <;> (rw [cell_of_block hy3]; rfl)
    obtain ⟨W4, hW4⟩ : ∃ W4, (((W3.setCell ⟨w2.heap.size, 0, none⟩ (.pointer (some ⟨p, 0, none⟩))).setCell ⟨w2.heap.size, 1, none⟩ (.int .i64 F.leaf)).setCell ⟨w2.heap.size, 2, none⟩ (.int .i64 F.depth)).setCell ⟨w2.heap.size, 3, none⟩ (.slice aT F.T.length cT) = W4 := ⟨_, rfl⟩
    have hu4 : Upd [w2.heap.size] W3 W4 := by rw [← hW4]; exact upd_set4 _ _ _ _ _ _
    have hy4 : W4.heap[w2.heap.size]? = some (.cells #[.pointer (some ⟨p, 0, none⟩), .int .i64 F.leaf, .int .i64 F.depth, .slice aT F.T.length cT] 30) := by rw [← hW4]; exact heap_set4 hy3 rfl _ _ _ _
    have hb4 : Below w2.heap.size w2 W4 := hu3.below.trans (hu4.belowB hu3.size (by simp))
    have hx4 := (hb4.block _ (block_lt hx2)).trans hx2
    have HI4 := Lib.hid (hi2.below hb4)
    have H4 := Lib.hid (H2.out.below hb4)
    have HV4 := Lib.hid (HV2.out.below hb4)
    have HB4 := Lib.hid (HB2.out.trans (hb4.mono HB2.out.size))
    clear d0 d1 d2 d3 d4
    obtain ⟨d0, d1, d2, d3, d4⟩ := fo_cells hx4
    obtain ⟨c0, c1, c2, c3⟩ := lay_cells hy4
    have HX4 := Lib.hid hx4
    have HY4 := Lib.hid hy4
    clear hb2 hx2 hi2 hu3 hy3 hu4 hb4 hx4 hy4 H1 HV1 HX1 HB1 HBU
    by_cases hlen : 2000 < v.length
    · have hlen2 : (2000 : Int) < (v.length : Int) := by omega
      go_wp2_with fail
      go_ret
      exact ⟨rfl, HB4.out⟩
    have hlen2 : ¬ (2000 : Int) < (v.length : Int) := by omega
    obtain ⟨f1, f2, f3, f4, f5, f6⟩ := few16_ok HCB.out.1
    have hdim := (dataCheck_ok HCB.out.2).1
    have hfl := flat_lenF HCB.out.2
    obtain ⟨c, hc⟩ : ∃ c, seaCheck F.L.length F.dim F.leaf F.depth F.T v = c := ⟨_, rfl⟩
    have HRC : Hid (∀ W, Below W4.heap.size W4 W → Calls Try.prog 13 #[.agg #[.int .i64 F.dim, .int .i64 F.leaf, .int .i64 F.depth, .slice aL F.L.length cL, .slice aT F.T.length cT], .slice av v.length cv] W fun e w' => e = .returned (.int .i64 c) ∧ Below W.heap.size W w') := Lib.hid (fun W hW => by
      rw [← hc]; exact ref21_check_calls _ _ _ F v [] W (H4.out.below hW) f6 (HV4.out.below hW))
    have HSC : Hid (∀ W, Below W4.heap.size W4 W → Calls Try.prog 14 #[.agg #[.pointer (some ⟨p, 0, none⟩), .int .i64 F.leaf, .int .i64 F.depth, .slice aT F.T.length cT], .slice av v.length cv] W fun e w' => e = .returned (.int .i64 c) ∧ Below W.heap.size W w') := Lib.hid (fun W hW => by
      rw [← hc]; exact search_check_calls p F.L.length F.dim F.leaf F.depth F.L.flatten _ _ F.T v [] W (HI4.out.below hW) hdim hfl (H4.out.T.below hW) f6 (HV4.out.below hW))
    by_cases hbad : c ≠ 0 ∨ limit < 1 ∨ 16777216 < limit
    · have HG := gather_bad p F.L.length F.dim F.leaf F.depth F.L.flatten _ _ F.T v limit W4 HI4.out hdim hfl H4.out.T f6 HV4.out (by rw [hc]; exact hbad)
      rw [hc] at HG
      by_cases hz : c = 0
      · subst hz
        rw [if_pos rfl] at HG
        have HG := Lib.hid HG
        have hbad : limit < 1 ∨ 16777216 < limit := by simpa using hbad
        clear f1 f2 f3 f4 f5 f6 hdim hfl hc
        go_wp2_with fail
        refine HG.out.mono ?_
        rintro e w5 ⟨rfl, hb5⟩
        have hx5 := (hb5.block _ (block_lt HX4.out)).trans HX4.out
        have HB5 := Lib.hid (HB4.out.trans (hb5.mono HB4.out.size))
        have HRC5 := Lib.hid (HRC.out w5 hb5)
        clear d0 d1 d2 d3 d4 c0 c1 c2 c3 hW3 hW4 z0 z1 z2 z3 y0 y1 y2 y3
        obtain ⟨d0, d1, d2, d3, d4⟩ := fo_cells hx5
        clear hb5 hx5
        go_wp2_with fail
        refine HRC5.out.mono ?_
        rintro e w6 ⟨rfl, hb6⟩
        have HB6 := Lib.hid (HB5.out.trans (hb6.mono HB5.out.size))
        clear hb6
        rcases Classical.em (limit < 1) with hl | hl
        · go_wp2_with fail
          go_ret
          exact ⟨rfl, HB6.out⟩
        · have hl2 : 16777216 < limit := hbad.resolve_left hl
          go_wp2_with fail
          go_ret
          exact ⟨rfl, HB6.out⟩
      · rw [if_neg hz] at HG
        have HG := Lib.hid HG
        have hz1 : (c != 0) = true := by simpa using hz
        have hz2 : (c == 0) = false := by simpa using hz
        have hz3 : (c != c) = false := by simp
        clear f1 f2 f3 f4 f5 f6 hdim hfl hc hz hbad
        go_wp2_with fail
        refine HG.out.mono ?_
        rintro e w5 ⟨rfl, hb5⟩
        have hx5 := (hb5.block _ (block_lt HX4.out)).trans HX4.out
        have hy5 := (hb5.block _ (block_lt HY4.out)).trans HY4.out
        have HB5 := Lib.hid (HB4.out.trans (hb5.mono HB4.out.size))
        have HRC5 := Lib.hid (HRC.out w5 hb5)
        have HBX := Lib.hid hb5
        clear d0 d1 d2 d3 d4 c0 c1 c2 c3 hW3 hW4 z0 z1 z2 z3 y0 y1 y2 y3
        obtain ⟨d0, d1, d2, d3, d4⟩ := fo_cells hx5
        have HY5 := Lib.hid hy5
        clear hb5 hx5 hy5
        go_wp2_with fail
        refine HRC5.out.mono ?_
        rintro e w6 ⟨rfl, hb6⟩
        have HB6 := Lib.hid (HB5.out.trans (hb6.mono HB5.out.size))
        have HSC6 := Lib.hid (HSC.out w6 (HBX.out.trans (hb6.mono HBX.out.size)))
        obtain ⟨c0, c1, c2, c3⟩ := lay_cells ((hb6.block _ (block_lt HY5.out)).trans HY5.out)
        clear hb6 d0 d1 d2 d3 d4
        go_wp2_with fail
        refine HSC6.out.mono ?_
        rintro e w7 ⟨rfl, hb7⟩
        have HB7 := Lib.hid (HB6.out.trans (hb7.mono HB6.out.size))
        clear hb7
        go_wp2_with fail
        go_ret
        exact ⟨by simp, HB7.out⟩
    · have hc0 : c = 0 := Classical.byContradiction (fun h => hbad (.inl h))
      subst hc0
      have hl1 : 1 ≤ limit := Classical.byContradiction (fun h => hbad (.inr (.inl (by omega))))
      have hl2 : limit ≤ 16777216 := Classical.byContradiction (fun h => hbad (.inr (.inr (by omega))))
      have HG := Lib.hid (gather_ok p F.L.length F.dim F.leaf F.depth F.L.flatten _ _ F.T v limit W4 HI4.out hdim hfl H4.out.T f6 HV4.out hc hl1 hl2 (by omega) (by omega) (by omega))
      have HRG : Hid (∀ W, Below W4.heap.size W4 W → _) := Lib.hid (fun W hW => ref_gather_calls _ _ _ F v limit W (H4.out.below hW) (HV4.out.below hW) hc hl1 hl2 (by omega) (by omega) (by omega))
      obtain ⟨FIN, hFIN⟩ : ∃ Z, gatherS F.T v F.L.length limit F.T.flatten.length (beginS F.T) [] = Z := ⟨_, rfl⟩
      rw [hFIN] at HG HRG
      obtain ⟨ST, hST⟩ : ∃ N : Int, (FIN.1.steps : Int) = N := ⟨_, rfl⟩
      obtain ⟨R, hR⟩ : ∃ l, setUpTo F.L.length FIN.2 = l := ⟨_, rfl⟩
      rw [hST, hR] at HG HRG
      clear f1 f2 f3 f4 f5 f6 hdim hfl hc hbad hST hR hFIN
      go_wp2_with fail
      refine HG.out.mono ?_
      rintro e w5 ⟨v5, rfl, hat5, hb5⟩
      have hx5 := (hb5.block _ (block_lt HX4.out)).trans HX4.out
      have hy5 := (hb5.block _ (block_lt HY4.out)).trans HY4.out
      have HB5 := Lib.hid (HB4.out.trans (hb5.mono HB4.out.size))
      have HRC5 := Lib.hid (HRC.out w5 hb5)
      have HBX5 := Lib.hid hb5
      have HAT5 := Lib.hid hat5
      clear d0 d1 d2 d3 d4 c0 c1 c2 c3 hW3 hW4 z0 z1 z2 z3 y0 y1 y2 y3
      obtain ⟨d0, d1, d2, d3, d4⟩ := fo_cells hx5
      have HX5 := Lib.hid hx5
      have HY5 := Lib.hid hy5
      clear hb5 hx5 hy5 hat5 HG
      go_wp2_with fail
      refine HRC5.out.mono ?_
      rintro e w6 ⟨rfl, hb6⟩
      have hx6 := (hb6.block _ (block_lt HX5.out)).trans HX5.out
      have hy6 := (hb6.block _ (block_lt HY5.out)).trans HY5.out
      have HB6 := Lib.hid (HB5.out.trans (hb6.mono HB5.out.size))
      have HBX6 := Lib.hid (HBX5.out.trans (hb6.mono HBX5.out.size))
      have HAT6 := Lib.hid (HAT5.out.below hb6)
      have HRG6 := Lib.hid (HRG.out w6 HBX6.out)
      clear d0 d1 d2 d3 d4
      obtain ⟨d0, d1, d2, d3, d4⟩ := fo_cells hx6
      have HY6 := Lib.hid hy6
      clear hb6 hx6 hy6 HRC5 HRG HAT5
      go_wp2_with fail
      refine HRG6.out.mono ?_
      rintro e w7 ⟨v7, rfl, hat7, hb7⟩
      have hy7 := (hb7.block _ (block_lt HY6.out)).trans HY6.out
      have HB7 := Lib.hid (HB6.out.trans (hb7.mono HB6.out.size))
      have HBX7 := Lib.hid (HBX6.out.trans (hb7.mono HBX6.out.size))
      have HAT7 := Lib.hid (HAT6.out.below hb7)
      have HAU7 := Lib.hid hat7
      have HSC7 := Lib.hid (HSC.out w7 HBX7.out)
      clear d0 d1 d2 d3 d4
      obtain ⟨c0, c1, c2, c3⟩ := lay_cells hy7
      clear hb7 hy7 hat7 HRG6
      go_wp2_with fail
      refine HSC7.out.mono ?_
      rintro e w8 ⟨rfl, hb8⟩
      have HB8 := Lib.hid (HB7.out.trans (hb8.mono HB7.out.size))
      have HSM := ref09_same_calls v5 v7 R R [] w8 (HAT7.out.below hb8) (HAU7.out.below hb8)
      rw [beq_self_eq_true] at HSM
      have HSM := Lib.hid HSM
      have hbs : (ST == ST) = true := by simp
      clear hb8 HSC7
      go_wp2_with fail
      refine HSM.out.mono ?_
      rintro e w9 ⟨rfl, n9, rfl⟩
      go_wp2_with fail
      go_ret
      exact ⟨by simp, HB8.out.trans (bdN _ _ _)⟩
  · have HBU := Lib.hid (built_no _ _ F w1 H1.out HS.out hcb)
    clear hcb
    unfold noFo at HBU
    go_wp2_with fail
    refine HBU.out.mono ?_
    rintro e w2 ⟨rfl, hb2⟩
    have HB2 := Lib.hid (HB1.out.trans (hb2.mono HB1.out.size))
    obtain ⟨W3, hW3⟩ : ∃ W3, w2.alloc (.cells #[.pointer none, .int .i64 0, .int .i64 0, .slice none 0 0] 30) = W3 := ⟨_, rfl⟩
    have hu3 : Upd [] w2 W3 := by rw [← hW3]; exact Upd.alloc [] w2 _
    have hy3 : W3.heap[w2.heap.size]? = some (.cells #[.pointer none, .int .i64 0, .int .i64 0, .slice none 0 0] 30) := by rw [← hW3]; exact Go.heap_alloc_new w2 _
    obtain ⟨z0, z1, z2, z3⟩ : W3.frozen? ⟨w2.heap.size, 0, none⟩ = false ∧ W3.frozen? ⟨w2.heap.size, 1, none⟩ = false ∧ W3.frozen? ⟨w2.heap.size, 2, none⟩ = false ∧ W3.frozen? ⟨w2.heap.size, 3, none⟩ = false := ⟨frozen_of_block hy3, frozen_of_block hy3, frozen_of_block hy3, frozen_of_block hy3⟩
    obtain ⟨y0, y1, y2, y3⟩ : W3.cell? ⟨w2.heap.size, 0, none⟩ = some (.pointer none) ∧ W3.cell? ⟨w2.heap.size, 1, none⟩ = some (.int .i64 0) ∧ W3.cell? ⟨w2.heap.size, 2, none⟩ = some (.int .i64 0) ∧ W3.cell? ⟨w2.heap.size, 3, none⟩ = some (.slice none 0 0) := by refine ⟨?_, ?_, ?_, ?_⟩ <;> (rw [cell_of_block hy3]; rfl)
    have HB3 : ∀ u0 u1 u2 u3, Hid (Below w.heap.size w ((((W3.setCell ⟨w2.heap.size, 0, none⟩ u0).setCell ⟨w2.heap.size, 1, none⟩ u1).setCell ⟨w2.heap.size, 2, none⟩ u2).setCell ⟨w2.heap.size, 3, none⟩ u3)) := fun u0 u1 u2 u3 => Lib.hid (HB2.out.trans ((hu3.below.trans ((upd_set4 W3 w2.heap.size u0 u1 u2 u3).belowB hu3.size (by simp))).mono HB2.out.size))
    have HB3' := Lib.hid HB3
    clear HB3 hb2 hu3 hy3
    go_wp2_with fail
    go_ret
    exact ⟨rfl, (HB3'.out _ _ _ _).out⟩

theorem SearchGathers_walk (s : Array Value) (F : Fo) (vv : Value) (v : List Int) (limit : Int) (w : World) (h : kFo.At [] w s.toList F) (hs : F.small) (hv : (Kd.int .i32).slice.At [] w [vv] v) (hl : (Lit.int .i64 limit).wf = true) :
    Calls Try.prog 3 #[.agg s, vv, .int .i64 limit] w fun e w' => e = .returned (.bool true) ∧ Below w.heap.size w w' := by
  obtain ⟨vL, vT, rfl, hf⟩ := fo_arr h
  exact searchGathers_calls vL vT vv F v limit w hf hs hv

end Go.Proofs.Ytiplifkbegmeiaa
