/-
The law ShapeWalks.
-/
import Derived.Test.YtonhpfenlnddkaaShapeLeaves
import Derived.Test.YtonhpfenlnddkaaSame
namespace Go.Proofs.Ytonhpfenlnddkaa
set_option linter.unusedVariables false
set_option linter.unusedSimpArgs false
open Go.RowKit

theorem rights_at {M : List Nat} {w : World} {v : Value} {l : List (Int × Int)} (h : kRight.slice.At M w [v] l) {i : Nat} {x : Int × Int} (hx : l[i]? = some x) :
    ∃ b o cap, v = .slice (some ⟨b, o, none⟩) l.length cap ∧ b < w.heap.size ∧ b ∉ M ∧ l.length ≤ cap ∧ cap ≤ maxLen ∧ w.cell? ⟨b, o + i * 2, none⟩ = some (.int .i64 x.1) ∧ w.cell? ⟨b, o + i * 2 + 1, none⟩ = some (.int .i64 x.2) := by
  obtain ⟨b, o, cap, h1, h2, h3, h4, h5, cs', hr, hc⟩ := Kd.slice_get h hx
  have e : cs' = [.int .i64 x.1, .int .i64 x.2] := hr.out
  subst e
  exact ⟨b, o, cap, h1, h2, h3, h4, h5, hc 0 _ rfl, hc 1 _ rfl⟩

attribute [local go_sem] Oper.semAt_some

set_option maxHeartbeats 8000000 in
set_option maxRecDepth 100000 in
theorem shapeWalks_calls (v : Value) (l : List Nd) (n dim stop : Int) (w : World) (h : kNd.slice.At [] w [v] l) (hs : ∀ x ∈ l, x.small) :
    Calls Try.prog 5 #[v, .int .i64 n, .int .i64 dim, .int .i64 stop] w fun e w' => e = .returned (.bool true) ∧ Below w.heap.size w w' := by
  obtain ⟨ao, cap, rfl, hl, hcap⟩ := Kd.slice_form h
  unfold maxLen at hcap
  obtain ⟨Wb, hWb⟩ : ∃ Wb, w.alloc (.cells #[.int .i64 stop] 3) = Wb := ⟨_, rfl⟩
  have hbb : Below w.heap.size w Wb := by rw [← hWb]; exact below_alloc1 w _
  have hrs : Wb.heap[w.heap.size]? = some (.cells #[.int .i64 stop] 3) := by rw [← hWb]; exact Go.heap_alloc_new w _
  have hzb : Wb.heap.size = w.heap.size + 1 := by rw [← hWb]; simp
  obtain ⟨W0, hW0⟩ : ∃ W0, Wb.alloc (.cells #[.bool false] 4) = W0 := ⟨_, rfl⟩
  have hrb0 : RB 4 Wb W0 := by rw [← hW0]; exact RB.start _ Wb
  have RB0 := Lib.hid hrb0
  have HBB := Lib.hid hbb
  have HRS0 := Lib.hid hrs
  have HA := Lib.hid (awake14_calls W0)
  have H0 := Lib.hid ((h.below hbb).below hrb0.below)
  have hz0 := hrb0.lt
  have HS := Lib.hid hs
  obtain ⟨fw, hfw⟩ : ∃ r, few l = r := ⟨_, rfl⟩
  have HFW := Lib.hid hfw
  clear h hs hfw hrb0 hbb hrs
  refine calls_of_wp_marks Try.func5 rfl ?_
  simp only [Try.ntmps5, List.size_toArray, List.length_cons, List.length_nil, Nat.reduceAdd, Nat.reduceSub, Array.replicate_succ, Array.replicate_zero, List.push_toArray, List.append_toArray, List.nil_append, List.cons_append]
  go_wp2_with fail
  refine HA.out.mono ?_
  rintro e w1 ⟨rfl, hb1⟩
  have hz1 := hb1.size
  have RB1 := Lib.hid (RB0.out.call hb1)
  have H1 := Lib.hid (H0.out.below hb1)
  have HF := few_calls _ l [] w1 H1.out HS.out
  rw [HFW.out] at HF
  have HF' := Lib.hid HF
  clear hb1 HF
  rw [← hzb]
  have hzbl : w.heap.size < Wb.heap.size := by omega
  have HZB := Lib.hid hzb
  clear hzb
  go_wp2_with fail
  refine HF'.out.mono ?_
  rintro e w2 ⟨rfl, m, hw2⟩
  have RB2 : Hid (RB 4 Wb w2) := Lib.hid (by rw [hw2]; exact RB1.out.drew _)
  have H2 : Hid (kNd.slice.At [] w2 [.slice ao l.length cap] l) := Lib.hid (by rw [hw2]; exact H1.out.below (bdN _ _ _))
  have hz2 := RB2.out.lt
  clear hw2
  have hc2 := RB2.out.c
  have hf2 := RB2.out.f
  cases fw with
  | false =>
    go_wp2_with fail
    exact RB2.out.finW HBB.out rfl Try.underlying4 rfl [] (by simp) (by simp)
  | true =>
    obtain ⟨f1, f2, f3⟩ := few_go l 0 0 HFW.out
    have hlen : l.length ≤ 401 := by rcases f1 with rfl | f1 <;> simp_all
    have hfl : (leavesOf l).flatten.length ≤ 5000 := by simp only [ite_self] at f2; omega
    have hids : ∀ x ∈ l, x.ids.length ≤ 1099511627776 := fun x hx => by have := f3 x hx; omega
    have HC1 := Lib.hid (ref_check_calls _ l n dim [] w2 H2.out (by omega) (by omega))
    have HIDS := Lib.hid hids
    have HFL := Lib.hid hfl
    clear f1 f2 f3 hids hfl
    generalize hrc : refCheck l n dim = rc at *
    have HRC := Lib.hid hrc
    clear hrc
    by_cases hn : 5000 < n
    · go_wp2_with fail
      exact RB2.out.finW HBB.out rfl Try.underlying4 rfl [] (by simp) (by simp)
    · go_wp2_with fail
      refine HC1.out.mono ?_
      rintro e w3 ⟨rfl, hb3⟩
      have RB3 := Lib.hid (RB2.out.call hb3)
      have H3 := Lib.hid (H2.out.below hb3)
      have hc3 := RB3.out.c
      have hf3 := RB3.out.f
      clear hb3 HC1
      by_cases hrc0 : rc = 0
      · subst hrc0
        have htree : (treeGo l dim 65 0 0).2.2 = true ∧ (treeGo l dim 65 0 0).2.1 = l.length := by
          have e := HRC.out
          unfold refCheck at e
          split at e
          · simp at e
          · split at e
            · simp at e
            · rename_i q1
              split at e
              · simp at e
              · rename_i q2
                exact ⟨by simpa using q1, by omega⟩
        have hV := walkOf_tree htree.1 htree.2
        have hvl := (treeGo_le l dim 65 0 0).1
        have HT := tree_calls _ l dim (by omega) 65 0 0 [] w3 H3.out (by omega) (by omega)
        rw [htree.1, htree.2, ← hV] at HT
        rw [← hV] at hvl
        have HTT := Lib.hid HT
        clear HT htree hc3 hf3 hc2 hf2 hV
        obtain ⟨V, hVV⟩ : ∃ V, walkOf l = V := ⟨_, rfl⟩
        rw [hVV] at HTT hvl
        have HVV := Lib.hid hVV
        clear hVV
        go_wp2_with fail
        refine HTT.out.mono ?_
        rintro e w4 ⟨v', rfl, hb4, hrow⟩
        have RB4 := Lib.hid (RB3.out.call hb4)
        have H4 := Lib.hid (H3.out.below hb4)
        have HRV := Lib.hid (hrow.read (by simp))
        have hz4 := RB4.out.lt
        clear hb4 HTT
        obtain ⟨av, cv, rfl, hcv1, hcv2⟩ := row_form hrow
        clear hrow
        unfold maxLen at hcv2
        obtain ⟨W5, hW5⟩ : ∃ W5, (w4.alloc (.cells #[.slice av V.length cv] 38)).alloc (.cells #[.int .i64 0] 3) = W5 := ⟨_, rfl⟩
        have hu5 : Upd [] w4 W5 := by rw [← hW5]; exact (Upd.alloc [] w4 _).trans (Upd.alloc [] _ _)
        have hv5 : W5.heap[w4.heap.size]? = some (.cells #[.slice av V.length cv] 38) := by rw [← hW5]; exact alloc2_fst w4 _ _
        have hk5 : W5.heap[w4.heap.size + 1]? = some (.cells #[.int .i64 0] 3) := by rw [← hW5]; exact alloc2_snd w4 _ _
        have hz5 : W5.heap.size = w4.heap.size + 2 := by rw [← hW5]; simp
        have RB5 := Lib.hid (RB4.out.upd hu5 (by simp))
        have H5 := Lib.hid (H4.out.upd hu5 (by simp) (M' := [w4.heap.size + 1]) (by simp))
        have HRV5 := Lib.hid (HRV.out.upd hu5 (by simp) (M' := [w4.heap.size + 1]) (by simp))
        have HV5 := Lib.hid hv5
        have HK5 := Lib.hid hk5
        have HWK := shape_walk_calls _ l [w4.heap.size + 1] W5 H5.out (by simp; omega) (by omega)
        rw [← hW5, HVV.out] at HWK
        have HWK' := Lib.hid HWK
        have HW5 := Lib.hid hW5
        clear hu5 hv5 hk5 hW5 HWK
        go_wp2_with fail
        refine HWK'.out.mono ?_
        rw [HW5.out]
        rintro e w6 ⟨bw, rfl, hb6, hit⟩
        have hz6 := hb6.size
        have RB6 := Lib.hid (RB5.out.call hb6)
        have H6 := Lib.hid (H5.out.below hb6)
        have HRV6 := Lib.hid (HRV5.out.below hb6)
        have HV6 := Lib.hid ((hb6.block _ (by omega)).trans HV5.out)
        have HK6 := Lib.hid ((hb6.block _ (by omega)).trans HK5.out)
        have HS6 : Hid (w6.heap[w.heap.size]? = some (.cells #[.int .i64 stop] 3)) := Lib.hid ((RB6.out.below.block _ (by omega)).trans HRS0.out)
        have HIT := Lib.hid hit
        clear hb6 hit HWK'
        go_wp2_with fail
        refine wp_range (xs := V) (val := valPair) [w4.heap.size + 1] rfl (enters_it Try.func67 rfl rfl) (fun W hu hsz => ?_)
          (fun pre M W => M = [w4.heap.size + 1] ∧ W.heap[w4.heap.size + 1]? = some (.cells #[.int .i64 pre.length] 3) ∧ Upd [w4.heap.size + 1] w6 W)
          (fun c pre M W => c = .exit 0 ∧ (pre.length : Int) = stop ∧ M = [w4.heap.size + 1] ∧ W.heap[w4.heap.size + 1]? = some (.cells #[.int .i64 pre.length] 3) ∧ Upd [w4.heap.size + 1] w6 W) ?_ ?_ ?_ ?_ ?_ ?_ ?_ ?_ ?_
        · exact HIT.out W _ _ (hu.mono (by simp)) (by omega) (fun k hk => .inl hk)
        · rintro pre M W W' S hS ⟨rfl, a3, a5⟩ hu
          exact ⟨rfl, upd_far hu a3 (fun h => (hS _ h).2 (by simp)), a5.trans' hu (fun k hk => .inr (hS k hk).1)⟩
        · rintro c pre M W W' S hS ⟨rfl, e, rfl, a3, a5⟩ hu
          exact ⟨rfl, e, rfl, upd_far hu a3 (fun h => (hS _ h).2 (by simp)), a5.trans' hu (fun k hk => .inr (hS k hk).1)⟩
        · rintro M W W' x args hv hu
          exact hv
        · rintro W M x args hv
          rw [hv]
          rfl
        · exact ⟨rfl, HK6.out, Upd.refl _ _⟩
        · simp
          omega
        · rintro l0 pre p rest M W0' W args hxs ⟨rfl, a3, a5⟩ hv _ hl1 hl2 hl3 hM
          have hv : args = #[.int .i64 p.1, .int .i64 p.2] := hv
          subst hv
          have hpx : V[pre.length]? = some p := by rw [hxs]; simp
          have hpl : pre.length < V.length := (List.getElem?_eq_some_iff.1 hpx).1
          obtain ⟨bv, ov, cv', hvv, hbv, hbv2, _, _, d1, d2⟩ := rights_at (HRV6.out.upd a5 (fun k hk => hk) (M' := []) (by simp)) hpx
          simp at hvv
          obtain ⟨rfl, rfl⟩ := hvv
          have hc : W.cell? ⟨w4.heap.size + 1, 0, none⟩ = some (.int .i64 pre.length) := by rw [cell_of_block a3]; rfl
          have hf : W.frozen? ⟨w4.heap.size + 1, 0, none⟩ = false := frozen_of_block a3
          have hcv : W.cell? ⟨w4.heap.size, 0, none⟩ = some (.slice (some ⟨bv, ov, none⟩) V.length cv) := by rw [cell_of_block (upd_far a5 HV6.out (by simp))]; rfl
          have hcs : W.cell? ⟨w.heap.size, 0, none⟩ = some (.int .i64 stop) := by rw [cell_of_block (upd_far a5 HS6.out (by simp; omega))]; rfl
          obtain ⟨p1, p2⟩ := p
          simp only at d1 d2
          have A3 := Lib.hid a3
          have A5 := Lib.hid a5
          have hlp : (pre ++ [(p1, p2)]).length = pre.length + 1 := by simp
          have HLP := Lib.hid hlp
          have hi1 : (pre.length : Int) < (V.length : Int) := by omega
          have hu3 : Upd [w4.heap.size + 1] W (W.setCell ⟨w4.heap.size + 1, 0, none⟩ (.int .i64 ((pre.length : Int) + 1))) := Upd.setCell (by simp) _
          have hcs3 : (W.setCell ⟨w4.heap.size + 1, 0, none⟩ (.int .i64 ((pre.length : Int) + 1))).cell? ⟨w.heap.size, 0, none⟩ = some (.int .i64 stop) :=
            (hu3.cell (a := ⟨w.heap.size, 0, none⟩) (cell_lt hcs) (by simp; omega)).trans hcs
          have h3 := heap_setCell_same W (w4.heap.size + 1) 0 _ _ (.int .i64 ((pre.length : Int) + 1)) a3
          have H3' : Hid ((W.setCell ⟨w4.heap.size + 1, 0, none⟩ (.int .i64 ((pre.length : Int) + 1))).heap[w4.heap.size + 1]? = some (.cells #[.int .i64 ((pre.length : Int) + 1)] 3)) := Lib.hid (by simpa using h3)
          have HU3 := Lib.hid hu3
          have hnn1 : ((pre.length : Nat) : Int) = (pre.length : Int) := rfl
          clear hxs a3 a5 hl3 hM hpx hlp hu3 h3 hv
          by_cases hst : (pre.length : Int) + 1 = stop
          · have hsb : ((pre.length : Int) + 1 == stop) = true := by simpa using hst
            have HST := Lib.hid hst
            clear hst
            gi_wp2
            refine ⟨HU3.out, _, (fun k hk => ⟨by simp at hk; subst hk; exact block_lt A3.out, .inl (by simpa using hk)⟩), HST.out, rfl, H3'.out, A5.out.trans HU3.out⟩
          · have hsb : ((pre.length : Int) + 1 == stop) = false := by simpa using hst
            clear hst
            gi_wp2
            refine ⟨HU3.out, _, (fun k hk => ⟨by simp at hk; subst hk; exact block_lt A3.out, .inl (by simpa using hk)⟩), rfl, H3'.out, A5.out.trans HU3.out⟩
        · rintro M W7 ⟨rfl, a3, a5⟩ hM hK
          simp only [Exit.inBlock, Exit.then]
          go_at_K
          obtain ⟨kk, hkk⟩ : ∃ kk, (V.length : Int) = kk := ⟨_, rfl⟩
          rw [hkk] at a3
          have hte : (kk != (V.length : Int)) = false := by rw [hkk]; simp
          clear hkk
          have hz7 := a5.size
          have RB7 := Lib.hid (RB6.out.upd a5 (by simp; omega))
          have H7 := Lib.hid (H6.out.upd a5 (fun k hk => hk) (M' := []) (by simp))
          have HRV7 := Lib.hid (HRV6.out.upd a5 (fun k hk => hk) (M' := []) (by simp))
          have hck : W7.cell? ⟨w4.heap.size + 1, 0, none⟩ = some (.int .i64 kk) := by rw [cell_of_block a3]; rfl
          have hcv : W7.cell? ⟨w4.heap.size, 0, none⟩ = some (.slice av V.length cv) := by rw [cell_of_block (upd_far a5 HV6.out (by simp))]; rfl
          have hcs : W7.cell? ⟨w.heap.size, 0, none⟩ = some (.int .i64 stop) := by rw [cell_of_block (upd_far a5 HS6.out (by simp; omega))]; rfl
          have HK7 := Lib.hid hK
          have hlt7 := block_lt hK
          clear a3 a5 hM hK
          go_wp2_with fail
          go_loopw [16, 13] (fun i m wr => ∃ j : Nat, j ≤ V.length ∧ i = .int .i64 j ∧ m = .int .i64 (mostOf (V.take j)) ∧ wr = W7) (fun i _ _ => V.length - (intOf i).toNat)
          case atStart => exact ⟨0, Nat.zero_le _, rfl, rfl, rfl⟩
          case round =>
            obtain ⟨j, hj, rfl, rfl, rfl⟩ := hrel
            by_cases hlt : j < V.length
            · obtain ⟨p, hp⟩ : ∃ p, V[j]? = some p := ⟨_, List.getElem?_eq_getElem hlt⟩
              obtain ⟨bv, ov, cv', hvv, hbv, _, _, _, d1, d2⟩ := rights_at HRV7.out hp
              simp at hvv
              obtain ⟨rfl, rfl⟩ := hvv
              have hmx := mostOf_snoc (V.take j) p
              rw [← take_snoc' hp] at hmx
              have HMX := Lib.hid hmx
              have hi1 : (j : Int) < (V.length : Int) := by omega
              clear hp hmx
              go_wp2_with fail
              all_goals
                go_roundw
                case rel => exact ⟨j + 1, by omega, by go_num, (by
                  rw [HMX.out]
                  first
                    | omega
                    | (congr 1; omega)), (by first | rfl | trivial)⟩
                case measure => simp [intOf]; omega
            · have e : mostOf (V.take j) = mostOf V := by rw [List.take_of_length_le (by omega)]
              rw [e]
              clear e
              have HRL := Lib.hid (ref_leaves_calls _ l [] wr H7.out (by omega))
              go_wp2_with fail
              refine HRL.out.mono ?_
              rintro e w8 ⟨v8, rfl, hb8, hrow8⟩
              have RB8 := Lib.hid (RB7.out.call hb8)
              have H8 := Lib.hid (H7.out.below hb8)
              have HL8 := Lib.hid (hrow8.read (by simp))
              have HK8 := Lib.hid ((hb8.block _ (block_lt HK7.out)).trans HK7.out)
              have hz8 := hb8.size
              obtain ⟨al, cl, rfl, hcl1, hcl2⟩ := row_form hrow8
              unfold maxLen at hcl2
              clear hb8 hrow8 HRL hck hcv hcs
              obtain ⟨Q, hQQ⟩ : ∃ Q, leavesOf l = Q := ⟨_, rfl⟩
              rw [hQQ] at HL8 hcl1
              have HQQ := Lib.hid hQQ
              have hqe : (leavesOf l).length = Q.length := by rw [hQQ]
              have hql : Q.length ≤ l.length := by rw [← hQQ]; unfold leavesOf; rw [List.length_map]; exact List.length_filter_le _ _
              obtain ⟨W9, hW9⟩ : ∃ W9, (w8.alloc (.cells #[.slice al Q.length cl] 46)).alloc (.cells #[.int .i64 0] 3) = W9 := ⟨_, rfl⟩
              have hu9 : Upd [] w8 W9 := by rw [← hW9]; exact (Upd.alloc [] w8 _).trans (Upd.alloc [] _ _)
              have hl9 : W9.heap[w8.heap.size]? = some (.cells #[.slice al Q.length cl] 46) := by rw [← hW9]; exact alloc2_fst w8 _ _
              have hi9 : W9.heap[w8.heap.size + 1]? = some (.cells #[.int .i64 0] 3) := by rw [← hW9]; exact alloc2_snd w8 _ _
              have hz9 : W9.heap.size = w8.heap.size + 2 := by rw [← hW9]; simp
              have RB9 := Lib.hid (RB8.out.upd hu9 (by simp))
              have H9 := Lib.hid (H8.out.upd hu9 (by simp) (M' := [w8.heap.size + 1]) (by simp))
              have HL9 := Lib.hid (HL8.out.upd hu9 (by simp) (M' := [w8.heap.size + 1]) (by simp))
              have HLC9 := Lib.hid hl9
              have HI9 := Lib.hid hi9
              have HK9 := Lib.hid (upd_far hu9 HK8.out (by simp))
              have HSL := shape_leaves_calls _ l [w8.heap.size + 1] W9 H9.out (by simp; omega) HIDS.out
              rw [← hW9, hQQ] at HSL
              have HSL' := Lib.hid HSL
              have HW9 := Lib.hid hW9
              rw [hqe]
              have HQE := Lib.hid hqe
              clear hu9 hl9 hi9 hW9 HSL hQQ hqe
              go_wp2_with fail
              refine HSL'.out.mono ?_
              rw [HW9.out]
              rintro e w10 ⟨bx, rfl, hb10, hit⟩
              have hz10 := hb10.size
              have RB10 := Lib.hid (RB9.out.call hb10)
              have H10 := Lib.hid (H9.out.below hb10)
              have HL10 := Lib.hid (HL9.out.below hb10)
              have HLC10 := Lib.hid ((hb10.block _ (by omega)).trans HLC9.out)
              have HI10 := Lib.hid ((hb10.block _ (by omega)).trans HI9.out)
              have HK10 := Lib.hid ((hb10.block _ (block_lt HK9.out)).trans HK9.out)
              have HIT := Lib.hid hit
              clear hb10 hit HSL'
              go_wp2_with fail
              refine wp_range (xs := Q) (val := valInts) [w8.heap.size + 1] rfl (enters_it Try.func68 rfl rfl) (fun W hu hsz => ?_)
                (fun pre M W => M = [w8.heap.size + 1] ∧ W.heap[w8.heap.size + 1]? = some (.cells #[.int .i64 pre.length] 3) ∧ Upd [w8.heap.size + 1] w10 W)
                (fun c pre M W => False) ?_ ?_ ?_ ?_ ?_ ?_ ?_ ?_ ?_
              · exact HIT.out W _ _ (hu.mono (by simp)) (by omega) (fun k hk => .inl hk)
              · rintro pre M W W' S hS ⟨rfl, a3, a5⟩ hu
                exact ⟨rfl, upd_far hu a3 (fun h => (hS _ h).2 (by simp)), a5.trans' hu (fun k hk => .inr (hS k hk).1)⟩
              · rintro c pre M W W' S hS h _
                exact h.elim
              · rintro M W W' x args ⟨v, rfl, hv⟩ hu
                exact ⟨v, rfl, hv.upd hu (by simp) (fun k hk => .inl hk)⟩
              · rintro W M x args ⟨v, rfl, hv⟩
                rfl
              · exact ⟨rfl, HI10.out, Upd.refl _ _⟩
              · simp
                omega
              · rintro l0 pre y rest M W0' W args hxs ⟨rfl, a3, a5⟩ ⟨v, rfl, hv⟩ _ hl1 hl2 hl3 hM
                have hpx : Q[pre.length]? = some y := by rw [hxs]; simp
                have hpl : pre.length < Q.length := (List.getElem?_eq_some_iff.1 hpx).1
                obtain ⟨bq, oq, cq, vi, hqq, _, _, _, _, d1, d2⟩ := lists_at (HL10.out.upd a5 (fun k hk => hk) (M' := []) (by simp)) hpx
                simp at hqq
                obtain ⟨rfl, rfl⟩ := hqq
                have hsm := ref09_same_calls _ _ y y [] W (hv.sub (by simp)) d2
                rw [show (y == y) = true by simp] at hsm
                have HSM := Lib.hid hsm
                have hc : W.cell? ⟨w8.heap.size + 1, 0, none⟩ = some (.int .i64 pre.length) := by rw [cell_of_block a3]; rfl
                have hf : W.frozen? ⟨w8.heap.size + 1, 0, none⟩ = false := frozen_of_block a3
                have hcl : W.cell? ⟨w8.heap.size, 0, none⟩ = some (.slice (some ⟨bq, oq, none⟩) Q.length cl) := by rw [cell_of_block (upd_far a5 HLC10.out (by simp))]; rfl
                have A3 := Lib.hid a3
                have A5 := Lib.hid a5
                have hi1 : (pre.length : Int) < (Q.length : Int) := by omega
                obtain ⟨av2, cv2, rfl, _, _⟩ := slice_form' hv
                obtain ⟨av3, cv3, rfl, _, _⟩ := slice_form' d2
                clear hxs a3 a5 hl3 hM hpx hv hsm d2
                gi_wp2
                refine ⟨trivial, ?_⟩
                gi_wp2
                refine ⟨trivial, rfl, (calls_round HSM.out).mono ?_⟩
                rintro e w' ⟨rfl, nn, rfl⟩
                have hc' : (W.drewN nn).cell? ⟨w8.heap.size + 1, 0, none⟩ = some (.int .i64 pre.length) := hc
                have hf' : (W.drewN nn).frozen? ⟨w8.heap.size + 1, 0, none⟩ = false := hf
                have AA := Lib.hid (show (W.drewN nn).heap[w8.heap.size + 1]? = _ from A3.out)
                have UU := Lib.hid (Upd.drewN [w8.heap.size + 1] W nn)
                have hsz' : (W.drewN nn).heap.size = W.heap.size := rfl
                generalize W.drewN nn = WD at hc' hf' AA UU hsz' ⊢
                clear hc hf hcl d1
                gi_wp2
                have h3 := heap_setCell_same WD (w8.heap.size + 1) 0 _ _ (.int .i64 ((pre.length : Int) + 1)) AA.out
                refine ⟨UU.out.trans (Upd.setCell (by simp) _), _, (fun k hk => ⟨by simp at hk; subst hk; have := block_lt AA.out; omega, .inl (by simpa using hk)⟩) , rfl, by simpa using h3, (A5.out.trans UU.out).trans (Upd.setCell (by simp) _)⟩
              · rintro M W ⟨rfl, a3, a5⟩ hM hK
                have RB11 := Lib.hid (RB10.out.upd a5 (by simp; omega))
                have H11 := Lib.hid (H10.out.upd a5 (fun k hk => hk) (M' := []) (by simp))
                have HLC11 := Lib.hid (upd_far a5 HLC10.out (by simp))
                have HKA := Lib.hid (upd_far a5 HK10.out (by simp; omega))
                have HKB := Lib.hid hK
                have HI11 := Lib.hid a3
                have HCT := shape_count_calls _ l [] W H11.out HIDS.out
                rw [HQE.out] at HCT
                have HCT' := Lib.hid HCT
                simp only [Exit.inBlock, Exit.then]
                go_at_K
                clear hK a3 a5 hM HCT
                go_wp2_with fail
                refine HCT'.out.mono ?_
                rintro e w12 ⟨rfl, hb12⟩
                have RB12 := Lib.hid (RB11.out.call hb12)
                have H12 := Lib.hid (H11.out.below hb12)
                have HLC12 := Lib.hid ((hb12.block _ (block_lt HLC11.out)).trans HLC11.out)
                have HI12 := Lib.hid ((hb12.block _ (block_lt HI11.out)).trans HI11.out)
                have HKA12 := Lib.hid ((hb12.block _ (block_lt HKA.out)).trans HKA.out)
                have HKB12 := Lib.hid ((hb12.block _ (block_lt HKB.out)).trans HKB.out)
                have hci : w12.cell? ⟨w8.heap.size + 1, 0, none⟩ = some (.int .i64 Q.length) := by rw [cell_of_block HI12.out]; rfl
                have hcl : w12.cell? ⟨w8.heap.size, 0, none⟩ = some (.slice al Q.length cl) := by rw [cell_of_block HLC12.out]; rfl
                have HDP := shape_depth_calls _ l [] w12 H12.out (by omega)
                rw [HVV.out] at HDP
                have HDP' := Lib.hid HDP
                clear hb12 HDP HCT'
                go_wp2_with fail
                refine HDP'.out.mono ?_
                rintro e w13 ⟨rfl, hb13⟩
                have RB13 := Lib.hid (RB12.out.call hb13)
                have HLC13 := Lib.hid ((hb13.block _ (block_lt HLC12.out)).trans HLC12.out)
                have HKA13 := Lib.hid ((hb13.block _ (block_lt HKA12.out)).trans HKA12.out)
                have HKB13 := Lib.hid ((hb13.block _ (block_lt HKB12.out)).trans HKB12.out)
                have hcl13 : w13.cell? ⟨w8.heap.size, 0, none⟩ = some (.slice al Q.length cl) := by rw [cell_of_block HLC13.out]; rfl
                have hc13 := RB13.out.c
                have hf13 := RB13.out.f
                have hk7 := block_lt HK7.out
                clear hb13 hci hcl
                go_wp2_with fail
                exact RB13.out.finW HBB.out rfl Try.underlying4 rfl [(_, _), (_, _)] (by simp; exact ⟨⟨by omega, HKB13.out⟩, by omega, HKA13.out⟩) (by simp; omega)
              · rintro c pre M W hpre h
                exact h.elim
        · rintro c pre M W7 hpre ⟨rfl, hstp, rfl, a3, a5⟩ hM hK
          obtain ⟨kk, hkk⟩ : ∃ kk, (pre.length : Int) = kk := ⟨_, rfl⟩
          rw [hkk] at a3 hstp
          subst hstp
          clear hkk
          by_cases hkv : kk = (V.length : Int)
          · have hte : (kk != (V.length : Int)) = false := by rw [hkv]; simp
            clear hkv
            have hz7 := a5.size
            have RB7 := Lib.hid (RB6.out.upd a5 (by simp; omega))
            have H7 := Lib.hid (H6.out.upd a5 (fun k hk => hk) (M' := []) (by simp))
            have HRV7 := Lib.hid (HRV6.out.upd a5 (fun k hk => hk) (M' := []) (by simp))
            have hck : W7.cell? ⟨w4.heap.size + 1, 0, none⟩ = some (.int .i64 kk) := by rw [cell_of_block a3]; rfl
            have hcv : W7.cell? ⟨w4.heap.size, 0, none⟩ = some (.slice av V.length cv) := by rw [cell_of_block (upd_far a5 HV6.out (by simp))]; rfl
            have hcs : W7.cell? ⟨w.heap.size, 0, none⟩ = some (.int .i64 kk) := by rw [cell_of_block (upd_far a5 HS6.out (by simp; omega))]; rfl
            have HK7 := Lib.hid hK
            have hlt7 := block_lt hK
            clear a3 a5 hM hK
            go_wp2_with fail
            go_loopw [16, 13] (fun i m wr => ∃ j : Nat, j ≤ V.length ∧ i = .int .i64 j ∧ m = .int .i64 (mostOf (V.take j)) ∧ wr = W7) (fun i _ _ => V.length - (intOf i).toNat)
            case atStart => exact ⟨0, Nat.zero_le _, rfl, rfl, rfl⟩
            case round =>
              obtain ⟨j, hj, rfl, rfl, rfl⟩ := hrel
              by_cases hlt : j < V.length
              · obtain ⟨p, hp⟩ : ∃ p, V[j]? = some p := ⟨_, List.getElem?_eq_getElem hlt⟩
                obtain ⟨bv, ov, cv', hvv, hbv, _, _, _, d1, d2⟩ := rights_at HRV7.out hp
                simp at hvv
                obtain ⟨rfl, rfl⟩ := hvv
                have hmx := mostOf_snoc (V.take j) p
                rw [← take_snoc' hp] at hmx
                have HMX := Lib.hid hmx
                have hi1 : (j : Int) < (V.length : Int) := by omega
                clear hp hmx
                go_wp2_with fail
                all_goals
                  go_roundw
                  case rel => exact ⟨j + 1, by omega, by go_num, (by
                    rw [HMX.out]
                    first
                      | omega
                      | (congr 1; omega)), (by first | rfl | trivial)⟩
                  case measure => simp [intOf]; omega
              · have e : mostOf (V.take j) = mostOf V := by rw [List.take_of_length_le (by omega)]
                rw [e]
                clear e
                have HRL := Lib.hid (ref_leaves_calls _ l [] wr H7.out (by omega))
                go_wp2_with fail
                refine HRL.out.mono ?_
                rintro e w8 ⟨v8, rfl, hb8, hrow8⟩
                have RB8 := Lib.hid (RB7.out.call hb8)
                have H8 := Lib.hid (H7.out.below hb8)
                have HL8 := Lib.hid (hrow8.read (by simp))
                have HK8 := Lib.hid ((hb8.block _ (block_lt HK7.out)).trans HK7.out)
                have hz8 := hb8.size
                obtain ⟨al, cl, rfl, hcl1, hcl2⟩ := row_form hrow8
                unfold maxLen at hcl2
                clear hb8 hrow8 HRL hck hcv hcs
                obtain ⟨Q, hQQ⟩ : ∃ Q, leavesOf l = Q := ⟨_, rfl⟩
                rw [hQQ] at HL8 hcl1
                have HQQ := Lib.hid hQQ
                have hqe : (leavesOf l).length = Q.length := by rw [hQQ]
                have hql : Q.length ≤ l.length := by rw [← hQQ]; unfold leavesOf; rw [List.length_map]; exact List.length_filter_le _ _
                obtain ⟨W9, hW9⟩ : ∃ W9, (w8.alloc (.cells #[.slice al Q.length cl] 46)).alloc (.cells #[.int .i64 0] 3) = W9 := ⟨_, rfl⟩
                have hu9 : Upd [] w8 W9 := by rw [← hW9]; exact (Upd.alloc [] w8 _).trans (Upd.alloc [] _ _)
                have hl9 : W9.heap[w8.heap.size]? = some (.cells #[.slice al Q.length cl] 46) := by rw [← hW9]; exact alloc2_fst w8 _ _
                have hi9 : W9.heap[w8.heap.size + 1]? = some (.cells #[.int .i64 0] 3) := by rw [← hW9]; exact alloc2_snd w8 _ _
                have hz9 : W9.heap.size = w8.heap.size + 2 := by rw [← hW9]; simp
                have RB9 := Lib.hid (RB8.out.upd hu9 (by simp))
                have H9 := Lib.hid (H8.out.upd hu9 (by simp) (M' := [w8.heap.size + 1]) (by simp))
                have HL9 := Lib.hid (HL8.out.upd hu9 (by simp) (M' := [w8.heap.size + 1]) (by simp))
                have HLC9 := Lib.hid hl9
                have HI9 := Lib.hid hi9
                have HK9 := Lib.hid (upd_far hu9 HK8.out (by simp))
                have HSL := shape_leaves_calls _ l [w8.heap.size + 1] W9 H9.out (by simp; omega) HIDS.out
                rw [← hW9, hQQ] at HSL
                have HSL' := Lib.hid HSL
                have HW9 := Lib.hid hW9
                rw [hqe]
                have HQE := Lib.hid hqe
                clear hu9 hl9 hi9 hW9 HSL hQQ hqe
                go_wp2_with fail
                refine HSL'.out.mono ?_
                rw [HW9.out]
                rintro e w10 ⟨bx, rfl, hb10, hit⟩
                have hz10 := hb10.size
                have RB10 := Lib.hid (RB9.out.call hb10)
                have H10 := Lib.hid (H9.out.below hb10)
                have HL10 := Lib.hid (HL9.out.below hb10)
                have HLC10 := Lib.hid ((hb10.block _ (by omega)).trans HLC9.out)
                have HI10 := Lib.hid ((hb10.block _ (by omega)).trans HI9.out)
                have HK10 := Lib.hid ((hb10.block _ (block_lt HK9.out)).trans HK9.out)
                have HIT := Lib.hid hit
                clear hb10 hit HSL'
                go_wp2_with fail
                refine wp_range (xs := Q) (val := valInts) [w8.heap.size + 1] rfl (enters_it Try.func68 rfl rfl) (fun W hu hsz => ?_)
                  (fun pre M W => M = [w8.heap.size + 1] ∧ W.heap[w8.heap.size + 1]? = some (.cells #[.int .i64 pre.length] 3) ∧ Upd [w8.heap.size + 1] w10 W)
                  (fun c pre M W => False) ?_ ?_ ?_ ?_ ?_ ?_ ?_ ?_ ?_
                · exact HIT.out W _ _ (hu.mono (by simp)) (by omega) (fun k hk => .inl hk)
                · rintro pre M W W' S hS ⟨rfl, a3, a5⟩ hu
                  exact ⟨rfl, upd_far hu a3 (fun h => (hS _ h).2 (by simp)), a5.trans' hu (fun k hk => .inr (hS k hk).1)⟩
                · rintro c pre M W W' S hS h _
                  exact h.elim
                · rintro M W W' x args ⟨v, rfl, hv⟩ hu
                  exact ⟨v, rfl, hv.upd hu (by simp) (fun k hk => .inl hk)⟩
                · rintro W M x args ⟨v, rfl, hv⟩
                  rfl
                · exact ⟨rfl, HI10.out, Upd.refl _ _⟩
                · simp
                  omega
                · rintro l0 pre y rest M W0' W args hxs ⟨rfl, a3, a5⟩ ⟨v, rfl, hv⟩ _ hl1 hl2 hl3 hM
                  have hpx : Q[pre.length]? = some y := by rw [hxs]; simp
                  have hpl : pre.length < Q.length := (List.getElem?_eq_some_iff.1 hpx).1
                  obtain ⟨bq, oq, cq, vi, hqq, _, _, _, _, d1, d2⟩ := lists_at (HL10.out.upd a5 (fun k hk => hk) (M' := []) (by simp)) hpx
                  simp at hqq
                  obtain ⟨rfl, rfl⟩ := hqq
                  have hsm := ref09_same_calls _ _ y y [] W (hv.sub (by simp)) d2
                  rw [show (y == y) = true by simp] at hsm
                  have HSM := Lib.hid hsm
                  have hc : W.cell? ⟨w8.heap.size + 1, 0, none⟩ = some (.int .i64 pre.length) := by rw [cell_of_block a3]; rfl
                  have hf : W.frozen? ⟨w8.heap.size + 1, 0, none⟩ = false := frozen_of_block a3
                  have hcl : W.cell? ⟨w8.heap.size, 0, none⟩ = some (.slice (some ⟨bq, oq, none⟩) Q.length cl) := by rw [cell_of_block (upd_far a5 HLC10.out (by simp))]; rfl
                  have A3 := Lib.hid a3
                  have A5 := Lib.hid a5
                  have hi1 : (pre.length : Int) < (Q.length : Int) := by omega
                  obtain ⟨av2, cv2, rfl, _, _⟩ := slice_form' hv
                  obtain ⟨av3, cv3, rfl, _, _⟩ := slice_form' d2
                  clear hxs a3 a5 hl3 hM hpx hv hsm d2
                  gi_wp2
                  refine ⟨trivial, ?_⟩
                  gi_wp2
                  refine ⟨trivial, rfl, (calls_round HSM.out).mono ?_⟩
                  rintro e w' ⟨rfl, nn, rfl⟩
                  have hc' : (W.drewN nn).cell? ⟨w8.heap.size + 1, 0, none⟩ = some (.int .i64 pre.length) := hc
                  have hf' : (W.drewN nn).frozen? ⟨w8.heap.size + 1, 0, none⟩ = false := hf
                  have AA := Lib.hid (show (W.drewN nn).heap[w8.heap.size + 1]? = _ from A3.out)
                  have UU := Lib.hid (Upd.drewN [w8.heap.size + 1] W nn)
                  have hsz' : (W.drewN nn).heap.size = W.heap.size := rfl
                  generalize W.drewN nn = WD at hc' hf' AA UU hsz' ⊢
                  clear hc hf hcl d1
                  gi_wp2
                  have h3 := heap_setCell_same WD (w8.heap.size + 1) 0 _ _ (.int .i64 ((pre.length : Int) + 1)) AA.out
                  refine ⟨UU.out.trans (Upd.setCell (by simp) _), _, (fun k hk => ⟨by simp at hk; subst hk; have := block_lt AA.out; omega, .inl (by simpa using hk)⟩) , rfl, by simpa using h3, (A5.out.trans UU.out).trans (Upd.setCell (by simp) _)⟩
                · rintro M W ⟨rfl, a3, a5⟩ hM hK
                  have RB11 := Lib.hid (RB10.out.upd a5 (by simp; omega))
                  have H11 := Lib.hid (H10.out.upd a5 (fun k hk => hk) (M' := []) (by simp))
                  have HLC11 := Lib.hid (upd_far a5 HLC10.out (by simp))
                  have HKA := Lib.hid (upd_far a5 HK10.out (by simp; omega))
                  have HKB := Lib.hid hK
                  have HI11 := Lib.hid a3
                  have HCT := shape_count_calls _ l [] W H11.out HIDS.out
                  rw [HQE.out] at HCT
                  have HCT' := Lib.hid HCT
                  simp only [Exit.inBlock, Exit.then]
                  go_at_K
                  clear hK a3 a5 hM HCT
                  go_wp2_with fail
                  refine HCT'.out.mono ?_
                  rintro e w12 ⟨rfl, hb12⟩
                  have RB12 := Lib.hid (RB11.out.call hb12)
                  have H12 := Lib.hid (H11.out.below hb12)
                  have HLC12 := Lib.hid ((hb12.block _ (block_lt HLC11.out)).trans HLC11.out)
                  have HI12 := Lib.hid ((hb12.block _ (block_lt HI11.out)).trans HI11.out)
                  have HKA12 := Lib.hid ((hb12.block _ (block_lt HKA.out)).trans HKA.out)
                  have HKB12 := Lib.hid ((hb12.block _ (block_lt HKB.out)).trans HKB.out)
                  have hci : w12.cell? ⟨w8.heap.size + 1, 0, none⟩ = some (.int .i64 Q.length) := by rw [cell_of_block HI12.out]; rfl
                  have hcl : w12.cell? ⟨w8.heap.size, 0, none⟩ = some (.slice al Q.length cl) := by rw [cell_of_block HLC12.out]; rfl
                  have HDP := shape_depth_calls _ l [] w12 H12.out (by omega)
                  rw [HVV.out] at HDP
                  have HDP' := Lib.hid HDP
                  clear hb12 HDP HCT'
                  go_wp2_with fail
                  refine HDP'.out.mono ?_
                  rintro e w13 ⟨rfl, hb13⟩
                  have RB13 := Lib.hid (RB12.out.call hb13)
                  have HLC13 := Lib.hid ((hb13.block _ (block_lt HLC12.out)).trans HLC12.out)
                  have HKA13 := Lib.hid ((hb13.block _ (block_lt HKA12.out)).trans HKA12.out)
                  have HKB13 := Lib.hid ((hb13.block _ (block_lt HKB12.out)).trans HKB12.out)
                  have hcl13 : w13.cell? ⟨w8.heap.size, 0, none⟩ = some (.slice al Q.length cl) := by rw [cell_of_block HLC13.out]; rfl
                  have hc13 := RB13.out.c
                  have hf13 := RB13.out.f
                  have hk7 := block_lt HK7.out
                  clear hb13 hci hcl
                  go_wp2_with fail
                  exact RB13.out.finW HBB.out rfl Try.underlying4 rfl [(_, _), (_, _)] (by simp; exact ⟨⟨by omega, HKB13.out⟩, by omega, HKA13.out⟩) (by simp; omega)
                · rintro c pre M W hpre h
                  exact h.elim
          · have hte : (kk != (V.length : Int)) = true := by simpa using hkv
            have hte2 : (kk != kk) = false := by simp
            clear hkv
            have hz7 := a5.size
            have RB7 := Lib.hid (RB6.out.upd a5 (by simp; omega))
            have H7 := Lib.hid (H6.out.upd a5 (fun k hk => hk) (M' := []) (by simp))
            have HRV7 := Lib.hid (HRV6.out.upd a5 (fun k hk => hk) (M' := []) (by simp))
            have hck : W7.cell? ⟨w4.heap.size + 1, 0, none⟩ = some (.int .i64 kk) := by rw [cell_of_block a3]; rfl
            have hcv : W7.cell? ⟨w4.heap.size, 0, none⟩ = some (.slice av V.length cv) := by rw [cell_of_block (upd_far a5 HV6.out (by simp))]; rfl
            have hcs : W7.cell? ⟨w.heap.size, 0, none⟩ = some (.int .i64 kk) := by rw [cell_of_block (upd_far a5 HS6.out (by simp; omega))]; rfl
            have HK7 := Lib.hid hK
            have hlt7 := block_lt hK
            clear a3 a5 hM hK
            go_wp2_with fail
            go_loopw [16, 13] (fun i m wr => ∃ j : Nat, j ≤ V.length ∧ i = .int .i64 j ∧ m = .int .i64 (mostOf (V.take j)) ∧ wr = W7) (fun i _ _ => V.length - (intOf i).toNat)
            case atStart => exact ⟨0, Nat.zero_le _, rfl, rfl, rfl⟩
            case round =>
              obtain ⟨j, hj, rfl, rfl, rfl⟩ := hrel
              by_cases hlt : j < V.length
              · obtain ⟨p, hp⟩ : ∃ p, V[j]? = some p := ⟨_, List.getElem?_eq_getElem hlt⟩
                obtain ⟨bv, ov, cv', hvv, hbv, _, _, _, d1, d2⟩ := rights_at HRV7.out hp
                simp at hvv
                obtain ⟨rfl, rfl⟩ := hvv
                have hmx := mostOf_snoc (V.take j) p
                rw [← take_snoc' hp] at hmx
                have HMX := Lib.hid hmx
                have hi1 : (j : Int) < (V.length : Int) := by omega
                clear hp hmx
                go_wp2_with fail
                all_goals
                  go_roundw
                  case rel => exact ⟨j + 1, by omega, by go_num, (by
                    rw [HMX.out]
                    first
                      | omega
                      | (congr 1; omega)), (by first | rfl | trivial)⟩
                  case measure => simp [intOf]; omega
              · have e : mostOf (V.take j) = mostOf V := by rw [List.take_of_length_le (by omega)]
                rw [e]
                clear e
                have HRL := Lib.hid (ref_leaves_calls _ l [] wr H7.out (by omega))
                go_wp2_with fail
                refine HRL.out.mono ?_
                rintro e w8 ⟨v8, rfl, hb8, hrow8⟩
                have RB8 := Lib.hid (RB7.out.call hb8)
                have H8 := Lib.hid (H7.out.below hb8)
                have HL8 := Lib.hid (hrow8.read (by simp))
                have HK8 := Lib.hid ((hb8.block _ (block_lt HK7.out)).trans HK7.out)
                have hz8 := hb8.size
                obtain ⟨al, cl, rfl, hcl1, hcl2⟩ := row_form hrow8
                unfold maxLen at hcl2
                clear hb8 hrow8 HRL hck hcv hcs
                obtain ⟨Q, hQQ⟩ : ∃ Q, leavesOf l = Q := ⟨_, rfl⟩
                rw [hQQ] at HL8 hcl1
                have HQQ := Lib.hid hQQ
                have hqe : (leavesOf l).length = Q.length := by rw [hQQ]
                have hql : Q.length ≤ l.length := by rw [← hQQ]; unfold leavesOf; rw [List.length_map]; exact List.length_filter_le _ _
                obtain ⟨W9, hW9⟩ : ∃ W9, (w8.alloc (.cells #[.slice al Q.length cl] 46)).alloc (.cells #[.int .i64 0] 3) = W9 := ⟨_, rfl⟩
                have hu9 : Upd [] w8 W9 := by rw [← hW9]; exact (Upd.alloc [] w8 _).trans (Upd.alloc [] _ _)
                have hl9 : W9.heap[w8.heap.size]? = some (.cells #[.slice al Q.length cl] 46) := by rw [← hW9]; exact alloc2_fst w8 _ _
                have hi9 : W9.heap[w8.heap.size + 1]? = some (.cells #[.int .i64 0] 3) := by rw [← hW9]; exact alloc2_snd w8 _ _
                have hz9 : W9.heap.size = w8.heap.size + 2 := by rw [← hW9]; simp
                have RB9 := Lib.hid (RB8.out.upd hu9 (by simp))
                have H9 := Lib.hid (H8.out.upd hu9 (by simp) (M' := [w8.heap.size + 1]) (by simp))
                have HL9 := Lib.hid (HL8.out.upd hu9 (by simp) (M' := [w8.heap.size + 1]) (by simp))
                have HLC9 := Lib.hid hl9
                have HI9 := Lib.hid hi9
                have HK9 := Lib.hid (upd_far hu9 HK8.out (by simp))
                have HSL := shape_leaves_calls _ l [w8.heap.size + 1] W9 H9.out (by simp; omega) HIDS.out
                rw [← hW9, hQQ] at HSL
                have HSL' := Lib.hid HSL
                have HW9 := Lib.hid hW9
                rw [hqe]
                have HQE := Lib.hid hqe
                clear hu9 hl9 hi9 hW9 HSL hQQ hqe
                go_wp2_with fail
                refine HSL'.out.mono ?_
                rw [HW9.out]
                rintro e w10 ⟨bx, rfl, hb10, hit⟩
                have hz10 := hb10.size
                have RB10 := Lib.hid (RB9.out.call hb10)
                have H10 := Lib.hid (H9.out.below hb10)
                have HL10 := Lib.hid (HL9.out.below hb10)
                have HLC10 := Lib.hid ((hb10.block _ (by omega)).trans HLC9.out)
                have HI10 := Lib.hid ((hb10.block _ (by omega)).trans HI9.out)
                have HK10 := Lib.hid ((hb10.block _ (block_lt HK9.out)).trans HK9.out)
                have HIT := Lib.hid hit
                clear hb10 hit HSL'
                go_wp2_with fail
                refine wp_range (xs := Q) (val := valInts) [w8.heap.size + 1] rfl (enters_it Try.func68 rfl rfl) (fun W hu hsz => ?_)
                  (fun pre M W => M = [w8.heap.size + 1] ∧ W.heap[w8.heap.size + 1]? = some (.cells #[.int .i64 pre.length] 3) ∧ Upd [w8.heap.size + 1] w10 W)
                  (fun c pre M W => False) ?_ ?_ ?_ ?_ ?_ ?_ ?_ ?_ ?_
                · exact HIT.out W _ _ (hu.mono (by simp)) (by omega) (fun k hk => .inl hk)
                · rintro pre M W W' S hS ⟨rfl, a3, a5⟩ hu
                  exact ⟨rfl, upd_far hu a3 (fun h => (hS _ h).2 (by simp)), a5.trans' hu (fun k hk => .inr (hS k hk).1)⟩
                · rintro c pre M W W' S hS h _
                  exact h.elim
                · rintro M W W' x args ⟨v, rfl, hv⟩ hu
                  exact ⟨v, rfl, hv.upd hu (by simp) (fun k hk => .inl hk)⟩
                · rintro W M x args ⟨v, rfl, hv⟩
                  rfl
                · exact ⟨rfl, HI10.out, Upd.refl _ _⟩
                · simp
                  omega
                · rintro l0 pre y rest M W0' W args hxs ⟨rfl, a3, a5⟩ ⟨v, rfl, hv⟩ _ hl1 hl2 hl3 hM
                  have hpx : Q[pre.length]? = some y := by rw [hxs]; simp
                  have hpl : pre.length < Q.length := (List.getElem?_eq_some_iff.1 hpx).1
                  obtain ⟨bq, oq, cq, vi, hqq, _, _, _, _, d1, d2⟩ := lists_at (HL10.out.upd a5 (fun k hk => hk) (M' := []) (by simp)) hpx
                  simp at hqq
                  obtain ⟨rfl, rfl⟩ := hqq
                  have hsm := ref09_same_calls _ _ y y [] W (hv.sub (by simp)) d2
                  rw [show (y == y) = true by simp] at hsm
                  have HSM := Lib.hid hsm
                  have hc : W.cell? ⟨w8.heap.size + 1, 0, none⟩ = some (.int .i64 pre.length) := by rw [cell_of_block a3]; rfl
                  have hf : W.frozen? ⟨w8.heap.size + 1, 0, none⟩ = false := frozen_of_block a3
                  have hcl : W.cell? ⟨w8.heap.size, 0, none⟩ = some (.slice (some ⟨bq, oq, none⟩) Q.length cl) := by rw [cell_of_block (upd_far a5 HLC10.out (by simp))]; rfl
                  have A3 := Lib.hid a3
                  have A5 := Lib.hid a5
                  have hi1 : (pre.length : Int) < (Q.length : Int) := by omega
                  obtain ⟨av2, cv2, rfl, _, _⟩ := slice_form' hv
                  obtain ⟨av3, cv3, rfl, _, _⟩ := slice_form' d2
                  clear hxs a3 a5 hl3 hM hpx hv hsm d2
                  gi_wp2
                  refine ⟨trivial, ?_⟩
                  gi_wp2
                  refine ⟨trivial, rfl, (calls_round HSM.out).mono ?_⟩
                  rintro e w' ⟨rfl, nn, rfl⟩
                  have hc' : (W.drewN nn).cell? ⟨w8.heap.size + 1, 0, none⟩ = some (.int .i64 pre.length) := hc
                  have hf' : (W.drewN nn).frozen? ⟨w8.heap.size + 1, 0, none⟩ = false := hf
                  have AA := Lib.hid (show (W.drewN nn).heap[w8.heap.size + 1]? = _ from A3.out)
                  have UU := Lib.hid (Upd.drewN [w8.heap.size + 1] W nn)
                  have hsz' : (W.drewN nn).heap.size = W.heap.size := rfl
                  generalize W.drewN nn = WD at hc' hf' AA UU hsz' ⊢
                  clear hc hf hcl d1
                  gi_wp2
                  have h3 := heap_setCell_same WD (w8.heap.size + 1) 0 _ _ (.int .i64 ((pre.length : Int) + 1)) AA.out
                  refine ⟨UU.out.trans (Upd.setCell (by simp) _), _, (fun k hk => ⟨by simp at hk; subst hk; have := block_lt AA.out; omega, .inl (by simpa using hk)⟩) , rfl, by simpa using h3, (A5.out.trans UU.out).trans (Upd.setCell (by simp) _)⟩
                · rintro M W ⟨rfl, a3, a5⟩ hM hK
                  have RB11 := Lib.hid (RB10.out.upd a5 (by simp; omega))
                  have H11 := Lib.hid (H10.out.upd a5 (fun k hk => hk) (M' := []) (by simp))
                  have HLC11 := Lib.hid (upd_far a5 HLC10.out (by simp))
                  have HKA := Lib.hid (upd_far a5 HK10.out (by simp; omega))
                  have HKB := Lib.hid hK
                  have HI11 := Lib.hid a3
                  have HCT := shape_count_calls _ l [] W H11.out HIDS.out
                  rw [HQE.out] at HCT
                  have HCT' := Lib.hid HCT
                  simp only [Exit.inBlock, Exit.then]
                  go_at_K
                  clear hK a3 a5 hM HCT
                  go_wp2_with fail
                  refine HCT'.out.mono ?_
                  rintro e w12 ⟨rfl, hb12⟩
                  have RB12 := Lib.hid (RB11.out.call hb12)
                  have H12 := Lib.hid (H11.out.below hb12)
                  have HLC12 := Lib.hid ((hb12.block _ (block_lt HLC11.out)).trans HLC11.out)
                  have HI12 := Lib.hid ((hb12.block _ (block_lt HI11.out)).trans HI11.out)
                  have HKA12 := Lib.hid ((hb12.block _ (block_lt HKA.out)).trans HKA.out)
                  have HKB12 := Lib.hid ((hb12.block _ (block_lt HKB.out)).trans HKB.out)
                  have hci : w12.cell? ⟨w8.heap.size + 1, 0, none⟩ = some (.int .i64 Q.length) := by rw [cell_of_block HI12.out]; rfl
                  have hcl : w12.cell? ⟨w8.heap.size, 0, none⟩ = some (.slice al Q.length cl) := by rw [cell_of_block HLC12.out]; rfl
                  have HDP := shape_depth_calls _ l [] w12 H12.out (by omega)
                  rw [HVV.out] at HDP
                  have HDP' := Lib.hid HDP
                  clear hb12 HDP HCT'
                  go_wp2_with fail
                  refine HDP'.out.mono ?_
                  rintro e w13 ⟨rfl, hb13⟩
                  have RB13 := Lib.hid (RB12.out.call hb13)
                  have HLC13 := Lib.hid ((hb13.block _ (block_lt HLC12.out)).trans HLC12.out)
                  have HKA13 := Lib.hid ((hb13.block _ (block_lt HKA12.out)).trans HKA12.out)
                  have HKB13 := Lib.hid ((hb13.block _ (block_lt HKB12.out)).trans HKB12.out)
                  have hcl13 : w13.cell? ⟨w8.heap.size, 0, none⟩ = some (.slice al Q.length cl) := by rw [cell_of_block HLC13.out]; rfl
                  have hc13 := RB13.out.c
                  have hf13 := RB13.out.f
                  have hk7 := block_lt HK7.out
                  clear hb13 hci hcl
                  go_wp2_with fail
                  exact RB13.out.finW HBB.out rfl Try.underlying4 rfl [(_, _), (_, _)] (by simp; exact ⟨⟨by omega, HKB13.out⟩, by omega, HKA13.out⟩) (by simp; omega)
                · rintro c pre M W hpre h
                  exact h.elim
      · have hrcb : (rc != 0) = true := by simpa using hrc0
        clear hrc0
        go_wp2_with fail
        exact RB3.out.finW HBB.out rfl Try.underlying4 rfl [] (by simp) (by simp)

theorem ShapeWalks_walk (v : Value) (l : List Nd) (n dim stop : Int) (w : World) (h : kNd.slice.At [] w [v] l) (hs : NdsSmall l) (hn : (Lit.int .i64 n).wf = true) (hd : (Lit.int .i64 dim).wf = true) (ht : (Lit.int .i64 stop).wf = true) :
    Calls Try.prog 5 #[v, .int .i64 n, .int .i64 dim, .int .i64 stop] w fun e w' => e = .returned (.bool true) ∧ Below w.heap.size w w' :=
  shapeWalks_calls v l n dim stop w h hs.2

end Go.Proofs.Ytonhpfenlnddkaa
