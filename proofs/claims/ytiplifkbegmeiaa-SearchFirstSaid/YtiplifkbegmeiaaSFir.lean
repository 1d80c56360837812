/-
The law SearchFirst.
-/
import Derived.Test.YtiplifkbegmeiaaBuilt
import Derived.Test.YtiplifkbegmeiaaGaQ
import Derived.Stop.RegionWithIn
namespace Go.Proofs.Ytiplifkbegmeiaa
set_option linter.unusedVariables false
set_option linter.unusedSimpArgs false
open Go.RowKit

theorem leaves_ok {T : List (List Nd)} {n : Nat} {dim : Int} {v : List Int} (hv : Bd21 v) (h : ∀ t ∈ T, checkNd t n dim = 0) : ∀ x ∈ leavesS T v T.flatten.length (beginS T), SetOk n x := fun x hx => by
  have hx := (leaves_perm hv h).subset hx
  obtain ⟨l, hl, hxl⟩ := List.mem_flatten.1 hx
  obtain ⟨t, ht, rfl⟩ := List.mem_map.1 hl
  have hc := (lay_of_check (h t ht)).choose_spec.2.2.2.2
  exact (covers_ok hc).2 x hxl
where
  covers_ok {n : Nat} {xs : List (List Int)} (h : covers n xs = true) : SetOk n xs.flatten ∧ ∀ x ∈ xs, SetOk n x := by
    have h0 : SetOk n xs.flatten := by
      unfold covers at h
      rw [Int.toNat_natCast] at h
      split at h
      · rename_i S hS
        obtain ⟨e, a1, a2⟩ := (coversGo_spec n xs.flatten [] (by simp)).1 S hS
        rw [List.nil_append] at e a2
        exact ⟨a2, a1⟩
      · simp at h
    refine ⟨h0, fun x hx => ⟨(List.pairwise_flatten.1 h0.1).1 x hx, fun y hy => h0.2 y (List.mem_flatten.2 ⟨x, hx, hy⟩)⟩⟩

theorem leaves_some {T : List (List Nd)} {n : Nat} {dim : Int} {v : List Int} (hv : Bd21 v) (h : ∀ t ∈ T, checkNd t n dim = 0) (hT : 1 ≤ T.length) (hn : n ≠ 0) : ¬ ∀ x ∈ leavesS T v T.flatten.length (beginS T), x = [] := fun hall => by
  obtain ⟨t, ht⟩ : ∃ t, t ∈ T := List.exists_mem_of_length_pos (by omega)
  have hc := (lay_of_check (h t ht)).choose_spec.2.2.2.2
  have hx := covers_has hc 0 (by omega) (by omega)
  obtain ⟨l, hl, hxl⟩ := List.mem_flatten.1 hx
  have hl2 : l ∈ leavesS T v T.flatten.length (beginS T) := (leaves_perm hv h).symm.subset (List.mem_flatten.2 ⟨leavesOf t, List.mem_map.2 ⟨t, ht, rfl⟩, hl⟩)
  rw [hall l hl2] at hxl
  simp at hxl

theorem first_met {T : List (List Nd)} {n : Nat} {dim : Int} {v : List Int} (hv : Bd21 v) (h : ∀ t ∈ T, checkNd t n dim = 0) {pre : List (List Int)} {ids : List Int} {rest : List (List Int)} (hx : leavesS T v T.flatten.length (beginS T) = pre ++ ids :: rest) (hp : ∀ p ∈ pre, p = []) (hne : ids ≠ []) :
    setUpTo n (gatherS T v n 1 T.flatten.length (beginS T) []).2 = uniq ids := by
  obtain ⟨trs, h1, h2, _⟩ := begin_ok h
  have hok : SetOk n ids := leaves_ok hv h ids (by rw [hx]; simp)
  rw [gather_one hv T.flatten.length (beginS T) trs pre ids rest h1 h2.symm hx hp hne hok]
  exact setUpTo_uniq n ids hok.2

theorem begin_best (K : Nat) : ∀ k, k ≤ K → bestTo (beginTo K) k = 0
  | 0, _ => rfl
  | k + 1, h => by
    unfold bestTo
    split
    · rfl
    · rename_i hk
      rw [begin_best K k (by omega)]
      have e1 : (beginTo K).getD k tk00 = ⟨9223372036854775807, (k : Int), (k : Int), 0⟩ := by rw [List.getD_eq_getElem?_getD, beginTo_get K k (by omega)]; rfl
      have e2 : (beginTo K).getD 0 tk00 = ⟨9223372036854775807, ((0 : Nat) : Int), ((0 : Nat) : Int), 0⟩ := by rw [List.getD_eq_getElem?_getD, beginTo_get K 0 (by omega)]; rfl
      rw [e1, e2, if_neg]
      simp [ahead]

/-- Where the first tree is one node alone, the search takes it, and no more. -/
theorem first_one {T : List (List Nd)} {n : Nat} {dim : Int} {v : List Int} (hv : Bd21 v) (h : ∀ t ∈ T, checkNd t n dim = 0) (hn : n ≠ 0) {t : List Nd} (ht : T[0]? = some t) (hl : t.length = 1) :
    (gatherS T v n 1 T.flatten.length (beginS T) []).1.steps = 1 := by
  have htm : t ∈ T := List.mem_of_getElem? ht
  have hT : 0 < T.length := (List.getElem?_eq_some_iff.1 ht).1
  obtain ⟨tr, lay, hsz, hlv, hn0, hc⟩ := lay_of_check (h t htm)
  obtain ⟨g, hg⟩ : ∃ g, T.flatten.length = g + 1 := by
    have : 0 < T.flatten.length := by
      have := List.length_pos_of_mem (List.mem_flatten.2 ⟨t, htm, List.getElem_mem (show 0 < t.length by omega)⟩)
      exact this
    exact ⟨_, (Nat.succ_pred_eq_of_pos this).symm⟩
  have hb : bestIx (beginS T).tasks = 0 := by
    unfold bestIx
    simp only [beginS, beginTo_len]
    exact begin_best _ _ (Nat.le_refl _)
  have hg0 : (beginS T).tasks.getD 0 tk00 = ⟨9223372036854775807, ((0 : Nat) : Int), ((0 : Nat) : Int), 0⟩ := by
    rw [List.getD_eq_getElem?_getD]
    simp only [beginS]
    rw [beginTo_get T.length 0 hT]; rfl
  cases tr with
  | split p a b =>
    have := a.size_pos
    have := b.size_pos
    simp only [Tr.size] at hsz
    omega
  | leaf ids =>
    obtain ⟨x, hx, hxl, rfl⟩ := lay
    have hnode : nodeOf T ⟨9223372036854775807, ((0 : Nat) : Int), ((0 : Nat) : Int), 0⟩ = x := by
      unfold nodeOf
      simp [List.getD_eq_getElem?_getD, ht, hx]
    have hout : outS T (beginS T) = some x.ids := by
      unfold outS
      simp only [hb, hg0, hnode, hxl, if_true]
    have hids : SetOk n x.ids := by
      have := (leaves_ok.covers_ok hc).2 x.ids
      rw [← hlv] at this
      exact this (by simp [Tr.leaves])
    have hne : x.ids ≠ [] := fun e => by
      have := covers_has hc 0 (by omega) (by omega)
      rw [← hlv] at this
      simp [Tr.leaves, e] at this
    have hS : metOut T n (beginS T) [] = x.ids := by
      rw [metOut_eq, hout]
      exact gather_one.metAdd_fresh n x.ids [] (by simpa using hids.1) (fun y hy => hids.2 y hy)
    rw [hg]
    unfold gatherS
    rw [if_neg (by
      rintro (h | h)
      · simp at h
      · have : (beginS T).tasks.length = T.length := by simp [beginS, beginTo_len]
        rw [h] at this
        simp at this; omega), hS, gatherS_stop (.inl (by
      have : 0 < x.ids.length := List.length_pos_iff.2 hne
      omega))]
    exact (stepS_num T v (beginS T)).1
attribute [local go_sem] Oper.semAt_some

set_option maxHeartbeats 8000000 in
set_option maxRecDepth 100000 in
theorem searchFirst_calls (vL vT vv : Value) (F : Fo) (v : List Int) (w : World) (h : FoAt [] w vL vT F) (hs : F.small) (hv : (Kd.int .i32).slice.At [] w [vv] v) :
    Calls Try.prog 9 #[.agg #[.int .i64 F.dim, .int .i64 F.leaf, .int .i64 F.depth, vL, vT], vv] w fun e w' => e = .returned (.bool true) ∧ Below w.heap.size w w' := by
  obtain ⟨aL, cL, rfl, hlL, hcL⟩ := Kd.slice_form h.L
  obtain ⟨aT, cT, rfl, hlT, hcT⟩ := Kd.slice_form h.T
  obtain ⟨av, cv, rfl, hlv, hcv⟩ := Kd.slice_form hv
  unfold maxLen at hcL hcT hcv
  obtain ⟨Wa, hWa⟩ : ∃ W0, w.alloc (foObj (.slice aL F.L.length cL) (.slice aT F.T.length cT) F) = W0 := ⟨_, rfl⟩
  have hua : Upd [] w Wa := by rw [← hWa]; exact Upd.alloc [] w _
  have hxa : Wa.heap[w.heap.size]? = some (foObj (.slice aL F.L.length cL) (.slice aT F.T.length cT) F) := by rw [← hWa]; exact Go.heap_alloc_new w _
  unfold foObj at hWa
  obtain ⟨W0, hW0⟩ : ∃ W0, Wa.alloc (.cells #[.bool false] 4) = W0 := ⟨_, rfl⟩
  have hrb0 : RB 4 Wa W0 := by rw [← hW0]; exact RB.start _ Wa
  have RB0 := Lib.hid hrb0
  have hzw : w.heap.size < Wa.heap.size := block_lt hxa
  have hz0 := hrb0.lt
  have HBB : Hid (Below w.heap.size w Wa) := Lib.hid hua.below
  have HB0 : Hid (Below w.heap.size w W0) := Lib.hid (HBB.out.trans (hrb0.below.mono HBB.out.size))
  have HX0 := Lib.hid ((hrb0.below.block _ (by omega)).trans hxa)
  have HH := Lib.hid h
  have HHV := Lib.hid hv
  have HA := Lib.hid (awake21_calls W0)
  have HS := Lib.hid hs
  clear h hs hv hua hxa hrb0
  refine calls_of_wp_marks Try.func9 rfl ?_
  simp only [Try.ntmps9, List.size_toArray, List.length_cons, List.length_nil, Nat.reduceAdd, Nat.reduceSub, Array.replicate_succ, Array.replicate_zero, List.push_toArray, List.append_toArray, List.nil_append, List.cons_append]
  go_wp2_with fail
  refine HA.out.mono ?_
  rintro e w1 ⟨rfl, hb1⟩
  have hz1 := hb1.size
  have RB1 := Lib.hid (RB0.out.call hb1)
  have HB1 := Lib.hid (HB0.out.trans (hb1.mono HB0.out.size))
  have HX1 := Lib.hid ((hb1.block _ (block_lt HX0.out)).trans HX0.out)
  obtain ⟨d0, d1, d2, d3, d4⟩ := fo_cells HX1.out
  clear hb1 HX0 HA HB0 RB0 hW0 hWa
  by_cases hcb : canB F
  · have HBU := Lib.hid (built_yes_n [Wa.heap.size] _ _ F w1 (HH.out.below HB1.out) HS.out hcb (by simp; omega))
    have HCB := Lib.hid hcb
    clear hcb
    go_wp2_with fail
    refine HBU.out.mono ?_
    rintro e w2 ⟨p, rfl, hi2, hb2, hp2⟩
    have hz2 := hb2.size
    have RB2 := RB1.out.call hb2
    obtain ⟨W3, hW3⟩ : ∃ W3, w2.alloc (.cells #[.pointer none, .int .i64 0, .int .i64 0, .slice none 0 0] 30) = W3 := ⟨_, rfl⟩
    have hu3 : Upd [] w2 W3 := by rw [← hW3]; exact Upd.alloc [] w2 _
    have hy3 : W3.heap[w2.heap.size]? = some (.cells #[.pointer none, .int .i64 0, .int .i64 0, .slice none 0 0] 30) := by rw [← hW3]; exact Go.heap_alloc_new w2 _
    obtain ⟨z0, z1, z2, z3⟩ : W3.frozen? ⟨w2.heap.size, 0, none⟩ = false ∧ W3.frozen? ⟨w2.heap.size, 1, none⟩ = false ∧ W3.frozen? ⟨w2.heap.size, 2, none⟩ = false ∧ W3.frozen? ⟨w2.heap.size, 3, none⟩ = false := ⟨frozen_of_block hy3, frozen_of_block hy3, frozen_of_block hy3, frozen_of_block hy3⟩
    obtain ⟨y0, y1, y2, y3⟩ : W3.cell? ⟨w2.heap.size, 0, none⟩ = some (.pointer none) ∧ W3.cell? ⟨w2.heap.size, 1, none⟩ = some (.int .i64 0) ∧ W3.cell? ⟨w2.heap.size, 2, none⟩ = some (.int .i64 0) ∧ W3.cell? ⟨w2.heap.size, 3, none⟩ = some (.slice none 0 0) := by refine ⟨?_, ?_, ?_, ?_⟩ <;> (rw [cell_of_block hy3]; rfl)
    obtain ⟨W4, hW4⟩ : ∃ W4, (((W3.setCell ⟨w2.heap.size, 0, none⟩ (.pointer (some ⟨p, 0, none⟩))).setCell ⟨w2.heap.size, 1, none⟩ (.int .i64 F.leaf)).setCell ⟨w2.heap.size, 2, none⟩ (.int .i64 F.depth)).setCell ⟨w2.heap.size, 3, none⟩ (.slice aT F.T.length cT) = W4 := ⟨_, rfl⟩
    have hu4 : Upd [w2.heap.size] W3 W4 := by rw [← hW4]; exact upd_set4 _ _ _ _ _ _
    have hy4 : W4.heap[w2.heap.size]? = some (.cells #[.pointer (some ⟨p, 0, none⟩), .int .i64 F.leaf, .int .i64 F.depth, .slice aT F.T.length cT] 30) := by rw [← hW4]; exact heap_set4 hy3 rfl _ _ _ _
    have hb4 : Below w2.heap.size w2 W4 := hu3.below.trans (hu4.belowB hu3.size (by simp))
    have hz4 := hb4.size
    have hlt4 := block_lt hy4
    have RB4 := Lib.hid (RB2.call hb4)
    have hbb := hb2.trans (hb4.mono hz2)
    have HI4 := Lib.hid (hi2.below hb4)
    have HB4 := Lib.hid (HB1.out.trans (hbb.mono HB1.out.size))
    have HX4 := Lib.hid ((hbb.block _ (block_lt HX1.out)).trans HX1.out)
    clear d0 d1 d2 d3 d4
    obtain ⟨d0, d1, d2, d3, d4⟩ := fo_cells HX4.out
    obtain ⟨c0, c1, c2, c3⟩ := lay_cells hy4
    have HY4 := Lib.hid hy4
    have hc4 := RB4.out.c
    have hf4 := RB4.out.f
    have hpl : p < w2.heap.size := by obtain ⟨_, h1, _⟩ := hi2.out; exact block_lt h1
    clear hb2 hi2 hu3 hy3 hu4 hb4 hy4 HX1 HB1 HBU RB1 RB2 hbb
    by_cases hlen : 2000 < v.length
    · have hlen2 : (2000 : Int) < (v.length : Int) := by omega
      go_wp2_with fail
      exact RB4.out.finW HBB.out rfl Try.underlying4 rfl [] (by simp) (by simp)
    have hlen2 : ¬ (2000 : Int) < (v.length : Int) := by omega
    obtain ⟨f1, f2, f3, f4, f5, f6⟩ := few16_ok HCB.out.1
    have hdim := (dataCheck_ok HCB.out.2).1
    have hfl := flat_lenF HCB.out.2
    obtain ⟨c, hc⟩ : ∃ c, seaCheck F.L.length F.dim F.leaf F.depth F.T v = c := ⟨_, rfl⟩
    have HI4' := Lib.hid (HI4.out.upd (Upd.refl [] _) (by simp) (by simp) (N' := []) (by simp))
    by_cases hz : c = 0
    · subst hz
      obtain ⟨lz1, lz2⟩ := sea_zero hc
      obtain ⟨lz3, lzT, lzn⟩ := lay_zero lz1
      have HVB := Lib.hid (Bd21.vec lz2).1
      have HG := gather_ok p F.L.length F.dim F.leaf F.depth F.L.flatten _ _ F.T v 1 W4 HI4'.out hdim hfl (HH.out.T.below HB4.out) f6 (HHV.out.below HB4.out) hc (by omega) (by omega) (by omega) (by omega) (by omega)
      have hidf := ids_few HVB.out lz3 f5
      have hfm : ∀ pre ids rest, leavesS F.T v F.T.flatten.length (beginS F.T) = pre ++ ids :: rest → (∀ p ∈ pre, p = []) → ids ≠ [] → setUpTo F.L.length (gatherS F.T v F.L.length 1 F.T.flatten.length (beginS F.T) []).2 = uniq ids := fun pre ids rest hx hp hne => first_met HVB.out lz3 hx hp hne
      have hsome := leaves_some HVB.out lz3 lzT lzn
      obtain ⟨t0, ht0⟩ : ∃ t, F.T[0]? = some t := ⟨_, List.getElem?_eq_getElem (by omega)⟩
      have hfo : t0.length = 1 → (gatherS F.T v F.L.length 1 F.T.flatten.length (beginS F.T) []).1.steps = 1 := fun hl => first_one HVB.out lz3 lzn ht0 hl
      have hxl := leavesS_len F.T v F.T.flatten.length (beginS F.T)
      obtain ⟨xs, hxs⟩ : ∃ xs, leavesS F.T v F.T.flatten.length (beginS F.T) = xs := ⟨_, rfl⟩
      have hif : xs = if seaCheck F.L.length F.dim F.leaf F.depth F.T v = 0 then leavesS F.T v F.T.flatten.length (beginS F.T) else [] := by rw [hc, if_pos rfl, hxs]
      rw [hxs] at hidf hxl hfm hsome
      obtain ⟨FIN, hFIN⟩ : ∃ Z, gatherS F.T v F.L.length 1 F.T.flatten.length (beginS F.T) [] = Z := ⟨_, rfl⟩
      rw [hFIN] at HG hfm hfo
      obtain ⟨ST, hST⟩ : ∃ N : Int, (FIN.1.steps : Int) = N := ⟨_, rfl⟩
      obtain ⟨R, hR⟩ : ∃ l, setUpTo F.L.length FIN.2 = l := ⟨_, rfl⟩
      rw [hR, hST] at HG
      rw [hR] at hfm
      have HFO : Hid (t0.length = 1 → ST = 1) := Lib.hid (fun hl => by have := hfo hl; omega)
      have HFM := Lib.hid hfm
      have HSO := Lib.hid hsome
      have HT0 := Lib.hid ht0
      have HIDF := Lib.hid hidf
      have HG := Lib.hid HG
      have HLV : Hid (∀ (W : World), Below W4.heap.size W4 W → _) := Lib.hid (fun W hW => search_leaves_calls p F.L.length F.dim F.leaf F.depth F.L.flatten _ _ F.T v W [Wa.heap.size] (by have := hW.size; simp; omega)
          (by simp; omega) (HI4.out.below hW) hdim hfl
          (HH.out.T.upd (Upd.ofBelow (HB4.out.trans (hW.mono HB4.out.size)) []) (by simp) (by simp; omega)) f6
          (HHV.out.upd (Upd.ofBelow (HB4.out.trans (hW.mono HB4.out.size)) []) (by simp) (by simp; omega)) (by omega) (by omega) xs hif (fun x hx => by have := hidf x hx; omega))
      have hTl : 1 ≤ F.T.length := lzT
      clear f1 f2 f3 f4 f5 f6 hdim hfl hc lz1 lz2 lz3 lzT lzn hidf hif hxs hfm hsome hfo hFIN hST hR hxl ht0
      go_wp2_with fail
      refine HG.out.mono ?_
      rintro e w5 ⟨v5, rfl, hat5, hb5⟩
      obtain ⟨a5i, c5, rfl, _, hc5⟩ := slice_form' hat5
      unfold maxLen at hc5
      obtain ⟨W6, hW6⟩ : ∃ W6, (w5.alloc (.cells #[.slice a5i R.length c5] 33)).alloc (.cells #[.int .i64 ST] 3) = W6 := ⟨_, rfl⟩
      have hu6 : Upd [] w5 W6 := by rw [← hW6]; exact (Upd.alloc [] w5 _).trans (Upd.alloc [] _ _)
      have RB6 := Lib.hid ((RB4.out.call hb5).upd hu6 (by simp))
      have hb6 : Below W4.heap.size W4 W6 := hb5.trans (hu6.below.mono hb5.size)
      have hi6 : W6.heap[w5.heap.size]? = some (.cells #[.slice a5i R.length c5] 33) := by rw [← hW6]; exact alloc2_fst w5 _ _
      have hn6 : W6.heap[w5.heap.size + 1]? = some (.cells #[.int .i64 ST] 3) := by rw [← hW6]; exact alloc2_snd w5 _ _
      have HI6 := Lib.hid hi6
      have HN6 := Lib.hid hn6
      have HX6 := Lib.hid ((hb6.block _ (block_lt HX4.out)).trans HX4.out)
      have HAT6 := Lib.hid (hat5.upd hu6 (by simp) (fun k hk => .inl hk))
      have HB6 := Lib.hid hb6
      have hz5 := hb5.size
      have hz6 := hu6.size
      clear c0 c1 c2 c3
      obtain ⟨c0, c1, c2, c3⟩ := lay_cells ((hb6.block _ (block_lt HY4.out)).trans HY4.out)
      have HL6 := HLV.out W6 hb6
      rw [← hW6] at HL6 c0 c1 c2 c3
      have HL6 := Lib.hid HL6
      have HW6 := Lib.hid hW6
      clear hb5 hat5 hu6 hb6 hi6 hn6 hW3 hW4 z0 z1 z2 z3 y0 y1 y2 y3 hc4 hf4 d0 d1 d2 d3 d4 hW6 HLV
      go_wp2_with fail
      refine HL6.out.mono ?_
      rw [HW6.out]
      rintro e w7 ⟨b1, b2, rfl, hb7, hit⟩
      have hz7 := hb7.size
      have RB7 := Lib.hid (RB6.out.call hb7)
      have HB7 := Lib.hid (HB4.out.trans ((HB6.out.trans (hb7.mono HB6.out.size)).mono HB4.out.size))
      have HI7 := Lib.hid ((hb7.block _ (block_lt HI6.out)).trans HI6.out)
      have HN7 := Lib.hid ((hb7.block _ (block_lt HN6.out)).trans HN6.out)
      have HX7 := Lib.hid ((hb7.block _ (block_lt HX6.out)).trans HX6.out)
      have HAT7 := Lib.hid (HAT6.out.below hb7)
      have HIT := Lib.hid hit
      clear hb7 hit HL6 c0 c1 c2 c3
      go_wp2_with fail
      refine wp_range (xs := xs) (val := valInts) [Wa.heap.size] rfl (enters_it Try.func38 rfl rfl) (fun W hu hsz => ?_)
        (fun pre M W => M = [Wa.heap.size] ∧ (∀ p ∈ pre, p = []) ∧ Upd [] w7 W)
        (fun c pre M W => c = .ret ∧ M = [Wa.heap.size] ∧ W.heap[Wa.heap.size]? = some (.cells #[.bool true] 4) ∧ Below Wa.heap.size Wa W) ?_ ?_ ?_ ?_ ?_ ?_ ?_ ?_ ?_
      · exact HIT.out W _ _ (hu.mono (by simp)) (by omega) (fun k hk => .inl hk)
      · rintro pre M W W' S hS ⟨rfl, a1, a5⟩ hu
        exact ⟨rfl, a1, a5.trans' hu (fun k hk => .inr (hS k hk).1)⟩
      · rintro c pre M W W' S hS ⟨rfl, rfl, a3, a5⟩ hu
        exact ⟨rfl, rfl, upd_far hu a3 (fun h => (hS _ h).2 (by simp)), a5.trans (hu.belowB a5.size (fun k hk => by have := (hS k hk).1; omega))⟩
      · rintro M W W' x args ⟨v, rfl, hv⟩ hu
        exact ⟨v, rfl, hv.upd hu (by simp) (fun k hk => .inl hk)⟩
      · rintro W M x args ⟨v, rfl, hv⟩
        rfl
      · exact ⟨rfl, by simp, Upd.refl _ _⟩
      · simp
        omega
      · rintro l0 pre x rest M W0' W args hxs ⟨rfl, a1, a5⟩ ⟨vi, rfl, hvi⟩ _ hl1 hl2 hl3 hM
        obtain ⟨ai, ci, rfl, hci1, hci2⟩ := slice_form' hvi
        unfold maxLen at hci2
        have A5 := Lib.hid a5
        have A1 := Lib.hid a1
        have hlW : Wa.heap.size < W.heap.size := hM _ (by simp)
        by_cases hx0 : x = []
        · subst hx0
          clear hxs a1 a5 hvi hM hl3
          gi_wp2
          refine ⟨trivial, ?_⟩
          gi_wp2
          exact ⟨Upd.refl _ _, _, (fun k hk => ⟨by simp at hk; subst hk; exact hlW, .inl (by simpa using hk)⟩), rfl, (fun p hp => by rcases hp with hp | rfl; exact A1.out p hp; rfl), A5.out⟩
        · have hxl : 0 < x.length := List.length_pos_iff.2 hx0
          have HRU : Hid (R = uniq x) := Lib.hid (HFM.out pre x rest hxs a1 hx0)
          have hx5 := HIDF.out x (by rw [hxs]; simp)
          have hne : ((x.length : Int) == 0) = false := by simp; omega
          have RBW := Lib.hid (RB7.out.upd a5 (by simp))
          obtain ⟨d0, d1, d2, d3, d4⟩ := fo_cells (upd_far a5 HX7.out (by simp))
          have hi7 : W.cell? ⟨w5.heap.size, 0, none⟩ = some (.slice a5i R.length c5) := by rw [cell_of_block (upd_far a5 HI7.out (by simp))]; rfl
          have hf7 : W.frozen? ⟨Wa.heap.size, 0, none⟩ = false := RBW.out.f
          have hc7 := RBW.out.c
          have hn7 : W.cell? ⟨w5.heap.size + 1, 0, none⟩ = some (.int .i64 ST) := by rw [cell_of_block (upd_far a5 HN7.out (by simp))]; rfl
          obtain ⟨bT, oT, cpT, vt, hvT, _, _, _, _, e0, hxi⟩ := lists_at (HH.out.T.below (HB7.out.trans (a5.below.mono HB7.out.size))) HT0.out
          obtain ⟨ati, cti, rfl, _, hcti⟩ := Kd.slice_form hxi
          unfold maxLen at hcti
          simp at hvT
          obtain ⟨rfl, rfl⟩ := hvT
          simp only [Nat.zero_mul, Nat.mul_one, Nat.add_zero] at e0
          have HUN : Hid (∀ W', Upd [] W W' → Calls Try.prog 22 #[.slice ai x.length ci] W' fun e w' => ∃ v', e = .returned v' ∧ Below W'.heap.size W' w' ∧ Row (Kd.int .i64) [] 3 W'.heap.size w' v' (uniq x)) := Lib.hid (fun W' hW' => ref_unique_calls (.slice ai x.length ci) x [] W' ((hvi.upd hW' (by simp) (fun k hk => .inl hk)).sub (by simp)) (by omega))
          have HATW := Lib.hid (HAT7.out.upd a5 (by simp) (fun k hk => .inl hk))
          have HCELL : Hid (∀ W', Upd [] W W' → W'.cell? ⟨w5.heap.size, 0, none⟩ = some (.slice a5i R.length c5) ∧ RB 4 Wa W') := Lib.hid (fun W' hW' => ⟨by rw [cell_of_block (upd_far (a5.trans hW') HI7.out (by simp))]; rfl, RBW.out.upd hW' (by simp)⟩)
          clear hxs a1 a5 hvi hM hl3 hxi hx0
          by_cases ht1 : t0.length = 1
          · have hST := HFO.out ht1
            subst hST
            have htb : ((t0.length : Int) == 1) = true := by simp; omega
            have hsb : ((1 : Int) != 1) = false := by simp
            clear ht1
            gi_wp2
            gi_region_with (first
              | (refine ⟨trivial, rfl, (calls_round (HUN.out _ (Upd.drew [] W))).mono ?_⟩
                 rintro e w9 ⟨v9, rfl, hb9, hr9⟩
                 have HU9 : Hid (Upd [] W w9) := Lib.hid ((Upd.drew [] W).trans (Upd.ofBelow hb9 []))
                 have hcc9 := (HCELL.out _ HU9.out).1
                 have HSM9 := ref09_same_calls (.slice a5i R.length c5) v9 R (uniq x) [] w9 (HATW.out.upd HU9.out (by simp) (fun k hk => .inl hk)) (hr9.read (M := []) (by simp))
                 rw [show (R == uniq x) = true by rw [HRU.out]; simp] at HSM9
                 have HSM9 := Lib.hid HSM9
                 clear hb9 hr9)
              | (refine ⟨trivial, rfl, (calls_round HSM9.out).mono ?_⟩
                 rintro e w10 ⟨rfl, n10, hw10⟩
                 have HU10 : Hid (Upd [] W w10) := Lib.hid (by rw [hw10]; exact HU9.out.trans (Upd.drewN [] _ _))
                 have hc10 := (HCELL.out _ HU10.out).2.c
                 have hf10 := (HCELL.out _ HU10.out).2.f
                 clear hw10))
            all_goals
              gi_wp2
              have hset := heap_setCell_same w10 Wa.heap.size 0 _ _ (.bool true) (HCELL.out _ HU10.out).2.cell
              refine ⟨(HU10.out.mono (by simp)).trans (Upd.setCell (by simp) _), _, (fun k hk => ⟨?_, .inl (by simpa using hk)⟩), rfl, by simpa using hset, (HCELL.out _ HU10.out).2.below.setCell (Nat.le_refl _) _⟩
              have := HU10.out.size
              simp at hk
              omega
          · have htb : ((t0.length : Int) == 1) = false := by simp; omega
            clear ht1
            gi_wp2
            refine ⟨trivial, ?_⟩
            gi_wp2
            gi_region_with (first
              | (refine ⟨trivial, rfl, (calls_round (HUN.out _ (Upd.drew [] W))).mono ?_⟩
                 rintro e w9 ⟨v9, rfl, hb9, hr9⟩
                 have HU9 : Hid (Upd [] W w9) := Lib.hid ((Upd.drew [] W).trans (Upd.ofBelow hb9 []))
                 have hcc9 := (HCELL.out _ HU9.out).1
                 have HSM9 := ref09_same_calls (.slice a5i R.length c5) v9 R (uniq x) [] w9 (HATW.out.upd HU9.out (by simp) (fun k hk => .inl hk)) (hr9.read (M := []) (by simp))
                 rw [show (R == uniq x) = true by rw [HRU.out]; simp] at HSM9
                 have HSM9 := Lib.hid HSM9
                 clear hb9 hr9)
              | (refine ⟨trivial, rfl, (calls_round HSM9.out).mono ?_⟩
                 rintro e w10 ⟨rfl, n10, hw10⟩
                 have HU10 : Hid (Upd [] W w10) := Lib.hid (by rw [hw10]; exact HU9.out.trans (Upd.drewN [] _ _))
                 have hc10 := (HCELL.out _ HU10.out).2.c
                 have hf10 := (HCELL.out _ HU10.out).2.f
                 clear hw10))
            all_goals
              gi_wp2
              have hset := heap_setCell_same w10 Wa.heap.size 0 _ _ (.bool true) (HCELL.out _ HU10.out).2.cell
              refine ⟨(HU10.out.mono (by simp)).trans (Upd.setCell (by simp) _), _, (fun k hk => ⟨?_, .inl (by simpa using hk)⟩), rfl, by simpa using hset, (HCELL.out _ HU10.out).2.below.setCell (Nat.le_refl _) _⟩
              have := HU10.out.size
              simp at hk
              omega
      · rintro M W8 ⟨rfl, a1, a5⟩ hM hK
        exact absurd a1 HSO.out
      · rintro c pre M W8 hpre ⟨rfl, rfl, a3, a5⟩ hM hK
        have HK := Lib.hid hK
        clear hK hM
        go_wp2_with fail
        exact RB.finC a3 a5 HBB.out rfl Try.underlying4 rfl [(w7.heap.size, _)] (by simp; exact ⟨by omega, HK.out⟩) (by simp)
    · have HG := gather_bad p F.L.length F.dim F.leaf F.depth F.L.flatten _ _ F.T v 1 W4 HI4'.out hdim hfl (HH.out.T.below HB4.out) f6 (HHV.out.below HB4.out) (by rw [hc]; exact .inl hz)
      rw [hc, if_neg hz] at HG
      have HG := Lib.hid HG
      have hzb : (c != 0) = true := by simpa using hz
      clear f1 f2 f3 f4 f5 f6 hdim hfl hc hz
      go_wp2_with fail
      refine HG.out.mono ?_
      rintro e w5 ⟨rfl, hb5⟩
      obtain ⟨W6, hW6⟩ : ∃ W6, (w5.alloc (.cells #[.slice none 0 0] 33)).alloc (.cells #[.int .i64 0] 3) = W6 := ⟨_, rfl⟩
      have hu6 : Upd [] w5 W6 := by rw [← hW6]; exact (Upd.alloc [] w5 _).trans (Upd.alloc [] _ _)
      have RB6 := Lib.hid ((RB4.out.call hb5).upd hu6 (by simp))
      have hc6 := RB6.out.c
      have hf6 := RB6.out.f
      rw [← hW6] at hc6 hf6
      have HW6 := Lib.hid hW6
      clear hb5 hW3 hW4 hu6 hW6 c0 c1 c2 c3 d0 d1 d2 d3 d4
      go_wp2_with fail
      rw [HW6.out]
      exact RB6.out.finW HBB.out rfl Try.underlying4 rfl [] (by simp) (by simp)
  · have HBU := Lib.hid (built_no _ _ F w1 (HH.out.below HB1.out) HS.out hcb)
    clear hcb
    unfold noFo at HBU
    go_wp2_with fail
    refine HBU.out.mono ?_
    rintro e w2 ⟨rfl, hb2⟩
    have hz2 := hb2.size
    have RB2 := RB1.out.call hb2
    obtain ⟨W3, hW3⟩ : ∃ W3, w2.alloc (.cells #[.pointer none, .int .i64 0, .int .i64 0, .slice none 0 0] 30) = W3 := ⟨_, rfl⟩
    have hu3 : Upd [] w2 W3 := by rw [← hW3]; exact Upd.alloc [] w2 _
    have hy3 : W3.heap[w2.heap.size]? = some (.cells #[.pointer none, .int .i64 0, .int .i64 0, .slice none 0 0] 30) := by rw [← hW3]; exact Go.heap_alloc_new w2 _
    obtain ⟨z0, z1, z2, z3⟩ : W3.frozen? ⟨w2.heap.size, 0, none⟩ = false ∧ W3.frozen? ⟨w2.heap.size, 1, none⟩ = false ∧ W3.frozen? ⟨w2.heap.size, 2, none⟩ = false ∧ W3.frozen? ⟨w2.heap.size, 3, none⟩ = false := ⟨frozen_of_block hy3, frozen_of_block hy3, frozen_of_block hy3, frozen_of_block hy3⟩
    obtain ⟨y0, y1, y2, y3⟩ : W3.cell? ⟨w2.heap.size, 0, none⟩ = some (.pointer none) ∧ W3.cell? ⟨w2.heap.size, 1, none⟩ = some (.int .i64 0) ∧ W3.cell? ⟨w2.heap.size, 2, none⟩ = some (.int .i64 0) ∧ W3.cell? ⟨w2.heap.size, 3, none⟩ = some (.slice none 0 0) := by refine ⟨?_, ?_, ?_, ?_⟩ <;> (rw [cell_of_block hy3]; rfl)
    obtain ⟨W4, hW4⟩ : ∃ W4, (((W3.setCell ⟨w2.heap.size, 0, none⟩ (.pointer none)).setCell ⟨w2.heap.size, 1, none⟩ (.int .i64 0)).setCell ⟨w2.heap.size, 2, none⟩ (.int .i64 0)).setCell ⟨w2.heap.size, 3, none⟩ (.slice none 0 0) = W4 := ⟨_, rfl⟩
    have hu4 : Upd [w2.heap.size] W3 W4 := by rw [← hW4]; exact upd_set4 _ _ _ _ _ _
    have hb4 : Below w2.heap.size w2 W4 := hu3.below.trans (hu4.belowB hu3.size (by simp))
    have RB4 := Lib.hid (RB2.call hb4)
    have hc4 := RB4.out.c
    have hf4 := RB4.out.f
    clear hb2 hu3 hy3 hu4 hb4 RB2 HBU
    go_wp2_with fail
    exact RB4.out.finW HBB.out rfl Try.underlying4 rfl [] (by simp) (by simp)

theorem SearchFirst_walk (s : Array Value) (F : Fo) (vv : Value) (v : List Int) (w : World) (h : kFo.At [] w s.toList F) (hs : F.small) (hv : (Kd.int .i32).slice.At [] w [vv] v) :
    Calls Try.prog 9 #[.agg s, vv] w fun e w' => e = .returned (.bool true) ∧ Below w.heap.size w w' := by
  obtain ⟨vL, vT, rfl, hf⟩ := fo_arr h
  exact searchFirst_calls vL vT vv F v w hf hs hv

end Go.Proofs.Ytiplifkbegmeiaa
