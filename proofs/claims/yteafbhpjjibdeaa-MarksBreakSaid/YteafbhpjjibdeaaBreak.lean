/-
The law MarksBreak.
-/
import Derived.Test.YteafbhpjjibdeaaOrderP
import Derived.Test.YteafbhpjjibdeaaStrs
namespace Go.Proofs.Yteafbhpjjibdeaa
set_option linter.unusedVariables false
set_option linter.unusedSimpArgs false
open Go.RowKit

attribute [local go_sem] Oper.semAt_some

theorem u8_range {x : Int} (h : (Lit.int .u8 x).wf = true) : 0 ≤ x ∧ x ≤ 255 := by
  simp [Lit.wf, IntKind.min, IntKind.max, IntKind.signed, IntKind.bits] at h
  omega

theorem strs_cell {M : List Nat} {w : World} {ao : Option Addr} {n cap : Nat} {ss : List ByteArray} (h : Kd.str.slice.At M w [.slice ao n cap] ss) {i : Nat} {x : ByteArray} (hx : ss[i]? = some x) :
    ∃ b o, ao = some ⟨b, o, none⟩ ∧ w.cell? ⟨b, o + i, none⟩ = some (.string x) := by
  obtain ⟨ao', cap', e, h1, h2, h3⟩ := h.out
  simp at e
  obtain ⟨rfl, rfl, rfl⟩ := e
  obtain ⟨b, o, rfl, _, _, cs, hr, hc⟩ := h3 i x hx
  have hr1 := hr.1
  subst hr1
  exact ⟨b, o, rfl, by simpa [Kd.str] using hc 0 _ rfl⟩
theorem bytesLess_lt : ∀ (x y : List UInt8), Op.bytesLess x y = decide (x < y)
  | [], [] => by simp [Op.bytesLess]
  | _ :: _, [] => by simp [Op.bytesLess]
  | [], _ :: _ => by simp [Op.bytesLess]
  | a :: x, b :: y => by
    rw [Op.bytesLess, bytesLess_lt x y]
    simp only [List.cons_lt_cons_iff]
    by_cases h1 : a < b <;> by_cases h2 : a = b <;> by_cases h3 : x < y <;> simp [h1, h2, h3]
theorem str_rise {V : List (List UInt8)} (h : V.Pairwise (· < ·)) {j : Nat} {x y : ByteArray} (hx : (ofBs V)[j + 1]? = some x) (hy : (ofBs V)[j]? = some y) : (Op.bytesLess x.toList y.toList || x.toList == y.toList) = false := by
  unfold ofBs at hx hy
  rw [List.getElem?_map] at hx hy
  have hl : j + 1 < V.length := by
    rcases Nat.lt_or_ge (j + 1) V.length with h | h
    · exact h
    · rw [List.getElem?_eq_none h] at hx; cases hx
  rw [List.getElem?_eq_getElem hl] at hx
  rw [List.getElem?_eq_getElem (by omega)] at hy
  simp at hx hy
  subst hx hy
  have := List.pairwise_iff_getElem.1 h j (j + 1) (by omega) hl (by omega)
  rw [ByteArray.toList_eq, ByteArray.toList_eq]
  simp only [bytesLess_lt, Bool.or_eq_false_iff, decide_eq_false_iff_not, beq_eq_false_iff_ne]
  exact ⟨List.not_lt.2 (List.le_of_lt this), fun e => by rw [e] at this; exact absurd this (List.lt_irrefl _)⟩

theorem RB.finE {t : TypeId} {w0 w wk : World} {n : Nat} (h : RB t w wk) (hn : w.heap.size = n) (h0 : Below w0.heap.size w0 w) {b : Bool} {P : Program} {fn : Func} {tmps : Array Value} {p : Tmp} (hr : fn.results = #[.cell p t]) (hu : P.underlying t = some .bool) (hp : tmps.getD p undef = .pointer (some ⟨n, 0, none⟩))
    (Ds : List (Nat × Array Value)) (hK : ∀ D ∈ Ds, n < D.1 ∧ wk.heap[D.1]? = some (.deferred (some []))) (hd : (Ds.map (·.1)).Nodup) :
    LeavesInM Fence.wide 0 P fn tmps (fun e w' => e = .returned (.bool b) ∧ Below w0.heap.size w0 w') (Ds.map fun D => { target := .collected D.1, args := D.2 }) .returning (wk.setCell ⟨n, 0, none⟩ (.bool b)) := by
  subst hn
  exact h.finW h0 hr hu hp Ds hK hd

set_option maxHeartbeats 8000000 in
set_option maxRecDepth 100000 in
theorem MarksBreak_walk (v : Value) (l : List Int) (stop : Int) (vs : Value) (ss : List ByteArray) (w : World) (h : (Kd.int .u8).slice.At [] w [v] l) (hsw : (Lit.int .i64 stop).wf = true) (hs : Kd.str.slice.At [] w [vs] ss) :
    Calls Try.prog 10 #[v, .int .i64 stop, vs] w fun e w' => e = .returned (.bool true) ∧ Below w.heap.size w w' := by
  obtain ⟨ao, cap, rfl, hl, hcap⟩ := Kd.slice_form h
  obtain ⟨aw, cw, rfl, hls, hcs⟩ := Kd.slice_form hs
  unfold maxLen at hcap hcs
  obtain ⟨Wb, hWb⟩ : ∃ Wb, w.alloc (.cells #[.int .i64 stop] 3) = Wb := ⟨_, rfl⟩
  have hub : Upd [] w Wb := by rw [← hWb]; exact Upd.alloc [] w _
  have hbb : Wb.heap[w.heap.size]? = some (.cells #[.int .i64 stop] 3) := by rw [← hWb]; exact Go.heap_alloc_new w _
  obtain ⟨W0, hW0⟩ : ∃ W0, Wb.alloc (.cells #[.bool false] 4) = W0 := ⟨_, rfl⟩
  have hrb0 : RB 4 Wb W0 := by rw [← hW0]; exact RB.start _ Wb
  have RB0 := Lib.hid hrb0
  have hszb : Wb.heap.size = w.heap.size + 1 := by rw [← hWb]; simp
  have HBB := Lib.hid hub.below
  have HSB := Lib.hid hbb
  have HA := Lib.hid (awake09_calls W0)
  have H0 := Lib.hid ((h.below hub.below).below hrb0.below)
  have HS0 := Lib.hid ((hs.below hub.below).below hrb0.below)
  have hz0 := hrb0.lt
  have HST0 := Lib.hid (upd_far (Upd.ofBelow hrb0.below []) hbb (by simp))
  clear h hs hsw hrb0 hub hbb
  refine calls_of_wp_marks Try.func10 rfl ?_
  simp only [Try.ntmps10, List.size_toArray, List.length_cons, List.length_nil, Nat.reduceAdd, Nat.reduceSub, Array.replicate_succ, Array.replicate_zero, List.push_toArray, List.append_toArray, List.nil_append, List.cons_append]
  go_wp2_with fail
  refine HA.out.mono ?_
  rintro e w1 ⟨rfl, hb1⟩
  clear hW0 hWb
  have RB1 := Lib.hid (RB0.out.call hb1)
  have H1 := Lib.hid (H0.out.below hb1)
  have HS1 := Lib.hid (HS0.out.below hb1)
  have HST1 := Lib.hid ((hb1.block _ (block_lt HST0.out)).trans HST0.out)
  have hc1 := RB1.out.c
  have hf1 := RB1.out.f
  rw [hszb] at hc1 hf1
  have hz1 := RB1.out.lt
  clear hb1 HA
  by_cases hx : 200 < l.length
  · go_wp2_with fail
    exact RB1.out.finE hszb HBB.out rfl Try.underlying4 rfl [] (by simp) (by simp)
  by_cases hy : 100 < ss.length
  · go_wp2_with fail
    exact RB1.out.finE hszb HBB.out rfl Try.underlying4 rfl [] (by simp) (by simp)
  have HN := Lib.hid (marks_new_calls 256 (by omega) w1)
  go_wp2_with fail
  refine HN.out.mono ?_
  rintro e w2 ⟨p, g, rfl, hb2, hs2, hp2, hg2⟩
  have hz2 := hb2.size
  have hpl := block_lt hs2.hp
  have hgl : g < w2.heap.size := by obtain ⟨_, _, hg, _⟩ := hs2.hg; exact block_lt hg
  have hpg := hs2.ne
  have RB2 := Lib.hid (RB1.out.call hb2)
  have H2 := Lib.hid (H1.out.upd (Upd.ofBelow hb2 []) (by simp) (M' := [p, g]) (by simp; omega))
  have HS2 := Lib.hid (HS1.out.upd (Upd.ofBelow hb2 []) (by simp) (M' := [p, g]) (by simp; omega))
  have HST2 := Lib.hid ((hb2.block _ (block_lt HST1.out)).trans HST1.out)
  have HIS2 := Lib.hid hs2
  clear hb2 hs2 HN hc1 hf1
  go_wp2_with fail
  have HRNG := Lib.hid (fun y (hy : y ∈ l) => (show 0 ≤ y ∧ y ≤ 255 by
    obtain ⟨j, hj, rfl⟩ := List.getElem_of_mem hy
    obtain ⟨_, _, _, _, _, _, _, _, _, hwf⟩ := ints_at H2.out (List.getElem?_eq_getElem hj)
    exact u8_range hwf))
  go_loopw [9, 8] (fun i u wr => ∃ k : Nat, k ≤ l.length ∧ i = .int .i64 k ∧ Hid (Row (Kd.int .i64) [] 3 w2.heap.size wr u (l.take k)) ∧ Hid (IsSet wr p g 256 (playOf 256 (l.take k))) ∧ Hid (Upd [p, g] w2 wr)) (fun i _ _ => l.length - (intOf i).toNat)
  case atStart => exact ⟨0, Nat.zero_le _, rfl, Lib.hid (Row.nil _ _ _ _ _), HIS2, Lib.hid (Upd.refl _ _)⟩
  case round =>
    obtain ⟨k, hk, rfl, hr, hs, hu⟩ := hrel
    by_cases hlt : k < l.length
    · obtain ⟨x, hxk⟩ : ∃ x, l[k]? = some x := ⟨_, List.getElem?_eq_getElem hlt⟩
      obtain ⟨b, o, c, hv, hbs, hbM, _, _, c0, hwf⟩ := ints_at (H2.out.upd hu.out (fun k hk => hk) (fun k hk => .inl hk) (M' := [p, g])) hxk
      simp at hv
      obtain ⟨rfl, rfl⟩ := hv
      have hi1 : (k : Int) < (l.length : Int) := by omega
      have hi0 : (0 : Int) ≤ (k : Int) := by omega
      have hsn := playOf_snoc 256 hxk
      have htk := take_snoc' hxk
      have hTl : (l.take k).length ≤ 200 := by simp; omega
      obtain ⟨T, hT⟩ : ∃ T, l.take k = T := ⟨_, rfl⟩
      rw [hT] at hr hs hsn htk hTl
      obtain ⟨au, cu, rfl, _, _⟩ := row_form hr.out
      have hu8 := u8_range hwf
      have hxw : (Lit.int .i64 x).wf = true := i64_wf (by omega) (by omega)
      have HADD := Lib.hid (marks_add_calls p g 256 (playOf 256 T) x wr hs.out)
      have HSN := Lib.hid hsn
      have HTK := Lib.hid htk
      have HR := Lib.hid hr.out
      clear hxk hwf hr hT hsn htk
      go_wp2_with fail
      refine HADD.out.mono ?_
      rintro e w6 ⟨rfl, hu6, hs6⟩
      obtain ⟨i0, hi, hy0, hy1, hy2⟩ := info_parts A.infoInt
      have hob := HR.out.ob_lt
      have hz6 := hu6.size
      have hzr := hu.out.size
      have hr6 : Row (Kd.int .i64) [] 3 w2.heap.size w6 (.slice au T.length cu) T := (HR.out.int_any (M' := [p, g])).upd hu6 (fun k hk => hk) (fun k hk h => by have := (hob k hk).1; simp at h; omega) (by simp)
      have hob6 := hr6.ob_lt
      obtain ⟨W7, hW7⟩ : ∃ W7, w6.alloc (.cells #[.int .i64 x] 3) = W7 := ⟨_, rfl⟩
      have hu7 : Upd [] w6 W7 := by rw [← hW7]; exact Upd.alloc [] w6 _
      have hone : W7.heap[w6.heap.size]? = some (.cells #[.int .i64 x] 3) := by rw [← hW7]; exact Go.heap_alloc_new w6 _
      obtain ⟨v8, W8, hrun, hr8, hu8', hob8⟩ := (hr6.upd hu7 (by simp) (by simp) (M' := []) (by simp)).appendAt (P := Try.prog) (t := 22) (ty := 22) (u := .slice (some ⟨w6.heap.size, 0, none⟩) 1 1) (l2 := [x]) Try.underlying22 hi hy0 hy1 hy2 rfl (by decide)
        (one_at hone (fun hm => by
          rw [List.append_nil] at hm
          have := (hob6 _ hm).2
          omega) hxw)
        (by simp [maxLen]; omega) (by simp; omega) (by have := hu7.size; omega)
      have hu28 : Upd [p, g] w2 W8 := ((hu.out.trans hu6).trans (hu7.mono (by simp))).trans' hu8' (fun k hk => .inr (hob6 k hk).1)
      have hs8 : IsSet W8 p g 256 (playOf 256 (l.take (k + 1))) := by
        rw [HSN.out]
        exact (hs6.upd hu7 (by simp) (by simp)).upd hu8' (fun h => by have := (hob6 _ h).1; omega) (fun h => by have := (hob6 _ h).1; omega)
      have HROW : Hid (Row (Kd.int .i64) [] 3 w2.heap.size W8 v8 (l.take (k + 1))) := Lib.hid (by rw [HTK.out]; exact hr8)
      have HU28 := Lib.hid hu28
      have HS8 := Lib.hid hs8
      have HRUN := Lib.hid hrun
      have hc6 : w6.cell? ⟨b, o + k, none⟩ = some (.int .u8 x) := (hu6.cell (a := ⟨b, o + k, none⟩) hbs hbM).trans c0
      clear hi hy0 hy1 hy2 hob hr6 hob6 hu7 hone hrun hr8 hu8' hob8 hu28 hs8 hs6 hu6
      go_wp2_with (at_builtin; refine append_step rfl _ _ _ rfl rfl rfl HRUN.out ?_)
      clear hW7
      go_roundw
      case rel => exact ⟨k + 1, by omega, by go_num, HROW, HS8, HU28⟩
      case measure => simp [intOf]; omega
    · have hkl : k = l.length := by omega
      subst hkl
      rw [List.take_length] at hr hs
      have hob := hr.out.ob_lt
      obtain ⟨a8, c8, rfl, hc81, hc82⟩ := row_form hr.out
      unfold maxLen at hc82
      have hzr := hu.out.size
      have HUN := Lib.hid (marks_unique_calls (.slice a8 l.length c8) l [] wr (hr.out.read (by simp)) (by omega))
      have HUR := Lib.hid hu.out
      have HSR := Lib.hid hs.out
      clear hr hs hu hob
      go_wp2_with fail
      refine HUN.out.mono ?_
      rintro e w10 ⟨v10, rfl, hb10, hr10⟩
      have hUl := uniq_len l
      obtain ⟨U, hU⟩ : ∃ U, uniq l = U := ⟨_, rfl⟩
      rw [hU] at hr10 hUl
      obtain ⟨a10, c10, rfl, hc101, hc102⟩ := row_form hr10
      unfold maxLen at hc102
      have hsu : setUpTo 256 (playOf 256 l) = U := by
        rw [← hU]
        refine sorted_ext _ _ (setUpTo_sorted _ _) (uniq_sorted l) (fun y => ?_)
        rw [setUpTo_mem, playOf_mem, uniq_mem]
        constructor
        · rintro ⟨_, h, _⟩
          exact h
        · intro h
          have := HRNG.out y h
          exact ⟨by omega, h, by omega⟩
      have hz10 := hb10.size
      obtain ⟨W11, hW11⟩ : ∃ W11, (w10.alloc (.cells #[.slice a10 U.length c10] 22)).alloc (.cells #[.int .i64 0] 3) = W11 := ⟨_, rfl⟩
      have hu11 : Upd [] w10 W11 := by rw [← hW11]; exact (Upd.alloc [] w10 _).trans (Upd.alloc [] _ _)
      have hv11 : W11.heap[w10.heap.size]? = some (.cells #[.slice a10 U.length c10] 22) := by rw [← hW11]; exact alloc2_fst w10 _ _
      have hk11 : W11.heap[w10.heap.size + 1]? = some (.cells #[.int .i64 0] 3) := by rw [← hW11]; exact alloc2_snd w10 _ _
      have hz11 : W11.heap.size = w10.heap.size + 2 := by rw [← hW11]; simp
      have hu2 : Upd [p, g] w2 W11 := (HUR.out.trans' (Upd.ofBelow hb10 []) (by simp)).trans' hu11 (by simp)
      have RB11 := Lib.hid (RB2.out.upd hu2 (by simp; omega))
      have HS11 := Lib.hid ((HS2.out.upd hu2 (fun k hk => hk) (M' := [p, g, w10.heap.size + 1]) (by simp; omega)).upd (Upd.refl [] W11) (by simp) (M' := [w10.heap.size + 1]) (by simp))
      have HST11 := Lib.hid (upd_far hu2 HST2.out (by simp; omega))
      have HIS11 := Lib.hid ((HSR.out.upd (Upd.ofBelow hb10 []) (by simp) (by simp)).upd hu11 (by simp) (by simp))
      have HU11 := Lib.hid ((hr10.read (M := []) (by simp)).upd hu11 (by simp) (M' := [w10.heap.size + 1]) (by simp))
      have HV11 := Lib.hid hv11
      have HK11 := Lib.hid hk11
      have HALL := marks_all_calls p g 256 (playOf 256 l) [w10.heap.size + 1] W11 HIS11.out (by simp; omega) (by simp; omega) (by simp; omega)
      rw [← hW11, hsu] at HALL
      have HALL' := Lib.hid HALL
      have HW11 := Lib.hid hW11
      have HUL := Lib.hid hUl
      clear hu11 hv11 hk11 hW11 HALL hu2 hb10 hr10 hU hsu hUl
      go_wp2_with fail
      refine HALL'.out.mono ?_
      rw [HW11.out]
      rintro e w12 ⟨bw, rfl, hb12, hit⟩
      have hz12 := hb12.size
      have RB12 := Lib.hid (RB11.out.call hb12)
      have HS12 := Lib.hid (HS11.out.below hb12)
      have HU12 := Lib.hid (HU11.out.below hb12)
      have HV12 := Lib.hid ((hb12.block _ (by omega)).trans HV11.out)
      have HK12 := Lib.hid ((hb12.block _ (by omega)).trans HK11.out)
      have HST12 := Lib.hid ((hb12.block _ (block_lt HST11.out)).trans HST11.out)
      have HIT := Lib.hid hit
      clear hb12 hit HALL'
      go_wp2_with fail
      refine wp_range (xs := U) (val := valInt) [w10.heap.size + 1] rfl (enters_it Try.func46 rfl rfl) (fun W hu hsz => ?_)
        (fun pre M W => M = [w10.heap.size + 1] ∧ W.heap[w10.heap.size + 1]? = some (.cells #[.int .i64 pre.length] 3) ∧ Upd [w10.heap.size + 1] w12 W)
        (fun c pre M W => c = .exit 2 ∧ (pre.length : Int) = stop ∧ M = [w10.heap.size + 1] ∧ W.heap[w10.heap.size + 1]? = some (.cells #[.int .i64 pre.length] 3) ∧ Upd [w10.heap.size + 1] w12 W) ?_ ?_ ?_ ?_ ?_ ?_ ?_ ?done ?stop
      · exact HIT.out W _ _ (hu.mono (by simp)) (by omega) (fun k hk => .inl hk)
      · rintro pre M W W' S hS ⟨rfl, a3, a5⟩ hu
        exact ⟨rfl, upd_far hu a3 (fun h => (hS _ h).2 (by simp)), a5.trans' hu (fun k hk => .inr (hS k hk).1)⟩
      · rintro c pre M W W' S hS ⟨rfl, e, rfl, a3, a5⟩ hu
        exact ⟨rfl, e, rfl, upd_far hu a3 (fun h => (hS _ h).2 (by simp)), a5.trans' hu (fun k hk => .inr (hS k hk).1)⟩
      · rintro M W W' x args hv hu
        exact hv
      · rintro W M x args hv
        rw [hv]
        rfl
      · exact ⟨rfl, HK12.out, Upd.refl _ _⟩
      · simp
        omega
      · rintro l0 pre x rest M W0' W args hxs ⟨rfl, a3, a5⟩ hv _ hl1 hl2 hl3 hM
        have hv : args = #[.int .i64 x] := hv
        subst hv
        have hpx : U[pre.length]? = some x := by rw [hxs]; simp
        have hpl : pre.length < U.length := (List.getElem?_eq_some_iff.1 hpx).1
        obtain ⟨bv, ov, cv', hvv, hbv, hbv2, _, _, d1, _⟩ := ints_at (HU12.out.upd a5 (fun k hk => hk) (M' := []) (by simp)) hpx
        simp at hvv
        obtain ⟨rfl, rfl⟩ := hvv
        have hc : W.cell? ⟨w10.heap.size + 1, 0, none⟩ = some (.int .i64 pre.length) := by rw [cell_of_block a3]; rfl
        have hf : W.frozen? ⟨w10.heap.size + 1, 0, none⟩ = false := frozen_of_block a3
        have hcv : W.cell? ⟨w10.heap.size, 0, none⟩ = some (.slice (some ⟨bv, ov, none⟩) U.length c10) := by rw [cell_of_block (upd_far a5 HV12.out (by simp))]; rfl
        have hcs : W.cell? ⟨w.heap.size, 0, none⟩ = some (.int .i64 stop) := by rw [cell_of_block (upd_far a5 HST12.out (by simp; omega))]; rfl
        have A3 := Lib.hid a3
        have A5 := Lib.hid a5
        have hlp : (pre ++ [x]).length = pre.length + 1 := by simp
        have HLP := Lib.hid hlp
        have hi1 : (pre.length : Int) < (U.length : Int) := by omega
        have hxx : (x != x) = false := by simp
        have hu3 : Upd [w10.heap.size + 1] W (W.setCell ⟨w10.heap.size + 1, 0, none⟩ (.int .i64 ((pre.length : Int) + 1))) := Upd.setCell (by simp) _
        have hcs3 : (W.setCell ⟨w10.heap.size + 1, 0, none⟩ (.int .i64 ((pre.length : Int) + 1))).cell? ⟨w.heap.size, 0, none⟩ = some (.int .i64 stop) :=
          (hu3.cell (a := ⟨w.heap.size, 0, none⟩) (cell_lt hcs) (by simp; omega)).trans hcs
        have h3 := heap_setCell_same W (w10.heap.size + 1) 0 _ _ (.int .i64 ((pre.length : Int) + 1)) a3
        have H3' : Hid ((W.setCell ⟨w10.heap.size + 1, 0, none⟩ (.int .i64 ((pre.length : Int) + 1))).heap[w10.heap.size + 1]? = some (.cells #[.int .i64 ((pre.length : Int) + 1)] 3)) := Lib.hid (by simpa using h3)
        have HU3 := Lib.hid hu3
        clear hxs a3 a5 hl3 hM hpx hlp hu3 h3 hv
        by_cases hst : (pre.length : Int) + 1 = stop
        · have hsb : ((pre.length : Int) + 1 == stop) = true := by simpa using hst
          have HST := Lib.hid hst
          clear hst
          gi_wp2
          refine ⟨trivial, ?_⟩
          gi_wp2
          refine ⟨HU3.out, _, (fun k hk => ⟨by simp at hk; subst hk; exact block_lt A3.out, .inl (by simpa using hk)⟩), HST.out, rfl, H3'.out, A5.out.trans HU3.out⟩
        · have hsb : ((pre.length : Int) + 1 == stop) = false := by simpa using hst
          clear hst
          gi_wp2
          refine ⟨trivial, ?_⟩
          gi_wp2
          refine ⟨HU3.out, _, (fun k hk => ⟨by simp at hk; subst hk; exact block_lt A3.out, .inl (by simpa using hk)⟩), rfl, H3'.out, A5.out.trans HU3.out⟩
      case' done =>
        rintro M W7 ⟨rfl, a3, a5⟩ hM hK
        simp only [Exit.inBlock, Exit.then]
        go_at_K
        obtain ⟨kk, hkk⟩ : ∃ kk, (U.length : Int) = kk := ⟨_, rfl⟩
        rw [hkk] at a3
        have hte : (kk != (U.length : Int)) = false := by rw [hkk]; simp
        clear hkk
      case' stop =>
        rintro c pre M W7 hpre ⟨rfl, hst, rfl, a3, a5⟩ hM hK
        obtain ⟨kk, hkk⟩ : ∃ kk, (pre.length : Int) = kk := ⟨_, rfl⟩
        rw [hkk] at a3 hst
        have hte : (kk != stop) = false := by rw [hst]; simp
        clear hkk hst hpre
        rcases Bool.eq_false_or_eq_true (kk != (U.length : Int)) with hq | hq
      all_goals
        have hz7 := a5.size
        have RB7 := Lib.hid (RB12.out.upd a5 (by simp; omega))
        have HS7 := Lib.hid (HS12.out.upd a5 (fun k hk => hk) (M' := []) (by simp))
        have hck : W7.cell? ⟨w10.heap.size + 1, 0, none⟩ = some (.int .i64 kk) := by rw [cell_of_block a3]; rfl
        have hcv : W7.cell? ⟨w10.heap.size, 0, none⟩ = some (.slice a10 U.length c10) := by rw [cell_of_block (upd_far a5 HV12.out (by simp))]; rfl
        have hcs : W7.cell? ⟨w.heap.size, 0, none⟩ = some (.int .i64 stop) := by rw [cell_of_block (upd_far a5 HST12.out (by simp; omega))]; rfl
        have HK7 := Lib.hid hK
        have hlt7 := block_lt hK
        clear a3 a5 hM hK
        have HUS := Lib.hid (marks_uniqueS_calls _ ss [] W7 HS7.out (by omega))
        go_wp2_with fail
        refine HUS.out.mono ?_
        rintro e w13 ⟨v13, rfl, hb13, hr13⟩
        have RB13 := Lib.hid (RB7.out.call hb13)
        have HS13 := Lib.hid (HS7.out.below hb13)
        have HK13 := Lib.hid ((hb13.block _ (block_lt HK7.out)).trans HK7.out)
        obtain ⟨q1, q2, q3⟩ := uniqS_props (bsOf ss)
        obtain ⟨V, hV⟩ : ∃ V, uniqS (bsOf ss) = V := ⟨_, rfl⟩
        rw [hV] at hr13 q1 q2 q3
        have q3' : (ofBs V).length ≤ ss.length := by simpa [ofBs, bsOf] using q3
        have q4 : ∀ s ∈ ss, Lib.containsS (ofBs V) s = true := fun s hs => by
          rw [Lib.containsS_iff]
          have := (q2 s.data.toList).2 (by unfold bsOf; exact List.mem_map_of_mem hs)
          exact List.mem_map.2 ⟨s.data.toList, this, by simp⟩
        have q5 : ∀ (j : Nat) (x y : ByteArray), (ofBs V)[j + 1]? = some x → (ofBs V)[j]? = some y → (Op.bytesLess x.toList y.toList || x.toList == y.toList) = false := fun j x y hx hy => str_rise q1 hx hy
        obtain ⟨us, hus⟩ : ∃ us, ofBs V = us := ⟨_, rfl⟩
        rw [hus] at hr13 q3' q4 q5
        obtain ⟨a13, c13, rfl, hc131, hc132⟩ := Kd.slice_form hr13
        unfold maxLen at hc132
        have HR13 := Lib.hid hr13
        have HQ4 := Lib.hid q4
        have HQ5 := Lib.hid q5
        clear q1 q2 q3 q4 q5 hV hus hb13 hr13 HUS hck hcv hcs
        go_wp2_with fail
        go_loopw [14] (fun i wr => ∃ j : Nat, i = .int .i64 ((j : Int) + 1) ∧ Hid (j + 1 ≤ us.length ∨ j = 0) ∧ Hid (Upd [] w13 wr)) (fun i _ => us.length - (intOf i).toNat)
        case atStart => exact ⟨0, rfl, Lib.hid (.inr rfl), Lib.hid (Upd.refl _ _)⟩
        case round =>
          obtain ⟨j, rfl, hj, hu⟩ := hrel
          by_cases hlt : j + 1 < us.length
          · obtain ⟨x, hxk⟩ : ∃ x, us[j + 1]? = some x := ⟨_, List.getElem?_eq_getElem hlt⟩
            obtain ⟨y, hyk⟩ : ∃ y, us[j]? = some y := ⟨_, List.getElem?_eq_getElem (by omega)⟩
            have hle := HQ5.out j x y hxk hyk
            have hat := HR13.out.upd hu.out (by simp) (M' := []) (by simp)
            obtain ⟨b, o, hao, d0⟩ := strs_cell hat hxk
            obtain ⟨b', o', hao', d1⟩ := strs_cell hat hyk
            subst hao
            simp at hao'
            obtain ⟨rfl, rfl⟩ := hao'
            have hi1 : (j : Int) + 1 < (us.length : Int) := by omega
            have hi0 : (0 : Int) ≤ (j : Int) := by omega
            clear hxk hyk hat
            go_wp2_with fail
            go_quiet (fail)
            go_wp2_with fail
            go_roundw
            case rel => exact ⟨j + 1, by go_num, Lib.hid (.inl (by omega)), Lib.hid (hu.out.trans (Upd.drewN [] _ _))⟩
            case measure => simp [intOf]; omega
          · rename World => wA
            have RBA := Lib.hid (RB13.out.upd hu.out (by simp))
            have HSA := Lib.hid (HS13.out.upd hu.out (by simp) (M' := []) (by simp))
            have HKA := Lib.hid (upd_far hu.out HK13.out (by simp))
            have HRA := Lib.hid (HR13.out.upd hu.out (by simp) (M' := []) (by simp))
            clear hj hu
            go_wp2_with fail
            go_loopw [15] (fun i wr => ∃ k : Nat, k ≤ ss.length ∧ i = .int .i64 k ∧ wr = wA) (fun i _ => ss.length - (intOf i).toNat)
            case atStart => exact ⟨0, Nat.zero_le _, rfl, rfl⟩
            case round =>
              obtain ⟨k, hk, rfl, rfl⟩ := hrel
              by_cases hlt : k < ss.length
              · obtain ⟨x, hxk⟩ : ∃ x, ss[k]? = some x := ⟨_, List.getElem?_eq_getElem hlt⟩
                obtain ⟨b, o, hao, d0⟩ := strs_cell HSA.out hxk
                subst hao
                have hi1 : (k : Int) < (ss.length : Int) := by omega
                have hi0 : (0 : Int) ≤ (k : Int) := by omega
                have hcon := contains_str_calls _ us x [] wr HRA.out
                rw [HQ4.out x (List.mem_of_getElem? hxk)] at hcon
                have HCON := Lib.hid hcon
                clear hxk hcon
                go_wp2_with fail
                refine HCON.out.mono ?_
                rintro e wX ⟨rfl, rfl⟩
                go_wp2_with fail
                go_roundw
                case rel => exact ⟨k + 1, by omega, by go_num, by first | rfl | trivial⟩
                case measure => simp [intOf]; omega
              · have hcA := RBA.out.c
                have hfA := RBA.out.f
                rw [hszb] at hcA hfA
                have hle : (us.length : Int) ≤ (ss.length : Int) := by omega
                have hk12 : w.heap.size + 1 < w12.heap.size := by have := RB12.out.lt; omega
                go_wp2_with fail
                exact RBA.out.finE hszb HBB.out rfl Try.underlying4 rfl [(_, _)] (by simp; exact ⟨hk12, HKA.out⟩) (by simp)

end Go.Proofs.Yteafbhpjjibdeaa
