/-
What is gathered, in plain words.
-/
import Derived.Test.YtiplifkbegmeiaaRSec
import Derived.Test.YtiplifkbegmeiaaSeaT
import Derived.Test.YtiplifkbegmeiaaCollect
namespace Go.Proofs.Ytiplifkbegmeiaa
set_option linter.unusedVariables false
set_option linter.unusedSimpArgs false
open Go.RowKit

theorem sea_zero {n : Nat} {dim leaf depth : Int} {T : List (List Nd)} {v : List Int} (h : seaCheck n dim leaf depth T v = 0) : layCheck n dim leaf depth T = 0 ∧ vecCheck v dim = 0 := by
  unfold seaCheck at h
  split at h
  · rename_i h1; exact absurd h h1
  · rename_i h1; exact ⟨by simpa using h1, h⟩
theorem lay_zero {n : Nat} {dim leaf depth : Int} {T : List (List Nd)} (h : layCheck n dim leaf depth T = 0) : (∀ t ∈ T, checkNd t n dim = 0) ∧ 1 ≤ T.length ∧ n ≠ 0 := by
  unfold layCheck at h
  split at h
  · simp at h
  · rename_i h0
    split at h
    · simp at h
    · split at h
      · simp at h
      · rename_i h1
        split at h
        · simp at h
        · rename_i h2
          refine ⟨fun t ht => ?_, by omega, h0⟩
          by_cases hc : checkNd t n dim = 0
          · exact hc
          · exact absurd (List.any_eq_true.2 ⟨t, ht, by unfold badL; simp [hc]⟩) h2

/-- A search under way, and what will come of it; g: nodes that are left. -/
structure GInv (T : List (List Nd)) (dim : Int) (v : List Int) (n : Nat) (limit : Int) (fin : St × List Int) (g : Nat) (s : St) (S : List Int) : Prop where
  ok : ∃ trs, StOk T dim s trs ∧ g = sizes trs
  steps : s.steps + g ≤ 1048576
  next : s.next ≤ 1048576 + 2 * s.steps
  out : gatherS T v n limit g s S = fin

theorem sizes_len (trs : List Tr) : trs.length ≤ sizes trs := by
  unfold sizes
  induction trs with
  | nil => simp
  | cons t l ih => have := t.size_pos; simp; omega
theorem GInv.len {T : List (List Nd)} {dim : Int} {v : List Int} {n : Nat} {limit : Int} {fin : St × List Int} {g : Nat} {s : St} {S : List Int} (h : GInv T dim v n limit fin g s S) : s.tasks.length ≤ g := by
  obtain ⟨trs, h1, h2⟩ := h.ok
  have := sizes_len trs
  have := h1.len
  omega
theorem gatherS_stop {T : List (List Nd)} {v : List Int} {n : Nat} {limit : Int} {s : St} {S : List Int} (h : limit ≤ (S.length : Int) ∨ s.tasks = []) : ∀ g, gatherS T v n limit g s S = (s, S)
  | 0 => rfl
  | g + 1 => by unfold gatherS; rw [if_pos h]
theorem GInv.stop {T : List (List Nd)} {dim : Int} {v : List Int} {n : Nat} {limit : Int} {fin : St × List Int} {g : Nat} {s : St} {S : List Int} (h : GInv T dim v n limit fin g s S) (hs : limit ≤ (S.length : Int) ∨ s.tasks = []) : fin = (s, S) := by
  rw [← h.out, gatherS_stop hs]
theorem stepS_num (T : List (List Nd)) (v : List Int) (s : St) : (stepS T v s).steps = s.steps + 1 ∧ (stepS T v s).next ≤ s.next + 2 := by
  unfold stepS
  simp only
  split
  · exact ⟨rfl, by simp⟩
  · exact ⟨rfl, by simp⟩
theorem GInv.step {T : List (List Nd)} {dim : Int} {v : List Int} {n : Nat} {limit : Int} {fin : St × List Int} {g : Nat} {s : St} {S : List Int} (h : GInv T dim v n limit fin g s S) (hv : Bd21 v) (hl : ¬ limit ≤ (S.length : Int)) (h0 : 0 < s.tasks.length) :
    ∃ g', g = g' + 1 ∧ GInv T dim v n limit fin g' (stepS T v s) (metOut T n s S) := by
  obtain ⟨trs, h1, h2⟩ := h.ok
  obtain ⟨trs', k1, k2, _⟩ := step_ok hv h1 h0
  obtain ⟨m1, m2⟩ := stepS_num T v s
  refine ⟨sizes trs', by omega, ⟨trs', k1, rfl⟩, ?_, ?_, ?_⟩
  · have := h.steps; omega
  · have := h.next; omega
  · have := h.out
    rw [show g = sizes trs' + 1 by omega] at this
    unfold gatherS at this
    rw [if_neg (by
      rintro (h | h)
      · exact hl h
      · rw [h] at h0; simp at h0)] at this
    exact this
theorem GInv.start {T : List (List Nd)} {n : Nat} {dim : Int} (v : List Int) (limit : Int) (h : ∀ t ∈ T, checkNd t n dim = 0) (hT : T.length ≤ 1048576) (hfl : T.flatten.length ≤ 1048576) :
    GInv T dim v n limit (gatherS T v n limit T.flatten.length (beginS T) []) T.flatten.length (beginS T) [] := by
  obtain ⟨trs, h1, h2, _⟩ := begin_ok h
  exact ⟨⟨trs, h1, h2.symm⟩, by simp only [beginS]; omega, by simp only [beginS]; omega, rfl⟩

theorem metAdd_snoc (n : Nat) (S : List Int) {ids : List Int} {k : Nat} {x : Int} (hx : ids[k]? = some x) : metAdd n S (ids.take (k + 1)) = if addsTo n (metAdd n S (ids.take k)) x then metAdd n S (ids.take k) ++ [x] else metAdd n S (ids.take k) := by
  rw [take_snoc' hx]
  unfold metAdd
  rw [List.foldl_append]
  rfl
theorem metOut_eq (T : List (List Nd)) (n : Nat) (s : St) (S : List Int) : metOut T n s S = metAdd n S ((outS T s).getD []) := by
  unfold metOut
  cases outS T s <;> rfl

/-- One step of the program's search, its three ways in one. -/
theorem walk_step_one (B q gh : Nat) (hv : Value) (p : Nat) (leaf depth dim : Int) (vT vv : Value) (T : List (List Nd)) (v : List Int) (n : Nat) (limit : Int) (fin : St × List Int) (g : Nat) (S : List Int) (s : St) (hl : List Tk) (M : List Nat) (w : World) (H : IsW w B q gh hv p leaf depth vT vv s hl)
    (hT : kNd.slice.slice.At M w [vT] T) (hvv : (Kd.int .i32).slice.At M w [vv] v) (hM1 : q ∈ M) (hM2 : gh ∈ M) (hM3 : ∀ k, k ∈ ob hv → k ∈ M) (hB : B ≤ w.heap.size) (ok : GInv T dim v n limit fin g s S) (hvb : Bd21 v) (h0 : 0 < s.tasks.length) :
    Calls Try.prog 30 #[.pointer (some ⟨q, 0, none⟩)] w fun e w' => ∃ ids vi b hv' hl', ids = (outS T s).getD [] ∧ e = .returned (.tuple #[vi, .bool b, .bool true]) ∧ (Kd.int .i64).slice.At M w' [vi] ids ∧
      IsW w' B q gh hv' p leaf depth vT vv (stepS T v s) hl' ∧ Upd (q :: gh :: ob hv) w w' ∧ (∀ k, k ∈ ob hv' → k ∈ ob hv ∨ w.heap.size ≤ k) := by
  obtain ⟨trs, k1, k2⟩ := ok.ok
  have k3 := ok.steps
  have k4 := ok.next
  have k5 := ok.len
  refine (walk_step_some B q gh hv p leaf depth dim vT vv T v s trs hl M w H hT hvv hM1 hM2 hM3 hB k1 hvb h0 (by omega) (by omega) (by omega)).mono ?_
  rintro e w' ⟨hv', hl', a1, a2, a3, ⟨ids, vi, b1, rfl, b3⟩ | ⟨b1, rfl⟩⟩
  · exact ⟨ids, vi, true, hv', hl', by rw [b1]; rfl, rfl, b3, a1, a2, a3⟩
  · exact ⟨[], _, false, hv', hl', by rw [b1]; rfl, rfl, Kd.slice_nil _ _ _ _ _ (by decide), a1, a2, a3⟩


set_option maxHeartbeats 2000000 in
set_option maxRecDepth 100000 in
/-- What may not be searched. -/
theorem gather_bad (p n : Nat) (dim leaf depth : Int) (flat : List Int) (vT vv : Value) (T : List (List Nd)) (v : List Int) (limit : Int) (w : World) (hi : IsItems w [] p dim flat) (hd : 1 ≤ dim) (hn : (flat.length : Int) = n * dim) (h : kNd.slice.slice.At [] w [vT] T) (hs : ∀ t ∈ T, TSmall t) (hv : (Kd.int .i32).slice.At [] w [vv] v)
    (hc : seaCheck n dim leaf depth T v ≠ 0 ∨ limit < 1 ∨ 16777216 < limit) :
    Calls Try.prog 12 #[.agg #[.pointer (some ⟨p, 0, none⟩), .int .i64 leaf, .int .i64 depth, vT], vv, .int .i64 limit] w fun e w' => e = .returned (.tuple #[.slice none 0 0, .int .i64 0, .int .i64 (if seaCheck n dim leaf depth T v = 0 then 1 else seaCheck n dim leaf depth T v)]) ∧ Below w.heap.size w w' := by
  obtain ⟨W0, hW0⟩ : ∃ W0, w.alloc (.cells #[.pointer (some ⟨p, 0, none⟩), .int .i64 leaf, .int .i64 depth, vT] 30) = W0 := ⟨_, rfl⟩
  have hu0 : Upd [] w W0 := by rw [← hW0]; exact Upd.alloc [] w _
  have hx0 : W0.heap[w.heap.size]? = some (.cells #[.pointer (some ⟨p, 0, none⟩), .int .i64 leaf, .int .i64 depth, vT] 30) := by rw [← hW0]; exact Go.heap_alloc_new w _
  obtain ⟨d0, d1, d2, d3⟩ := lay_cells hx0
  have HC := Lib.hid (search_check_calls p n dim leaf depth flat vT vv T v [] W0 (hi.below hu0.below) hd hn (h.below hu0.below) hs (hv.below hu0.below))
  obtain ⟨c, hcc⟩ : ∃ c, seaCheck n dim leaf depth T v = c := ⟨_, rfl⟩
  rw [hcc] at HC hc ⊢
  have HU0 := Lib.hid hu0
  obtain ⟨aT, cT, rfl, _, _⟩ := Kd.slice_form h
  obtain ⟨av, cv, rfl, _, _⟩ := Kd.slice_form hv
  clear hi h hs hv hu0 hx0 hcc hn
  by_cases hz : c = 0
  · subst hz
    have hc : limit < 1 ∨ 16777216 < limit := by simpa using hc
    rw [if_pos rfl]
    go_enter Try.func12, Try.ntmps12
    go_wp2_with fail
    refine HC.out.mono ?_
    rintro e w1 ⟨rfl, hb1⟩
    have HU1 := Lib.hid (HU0.out.trans (Upd.ofBelow hb1 []))
    clear hb1 HC hW0
    rcases Classical.em (limit < 1) with hl | hl
    · go_wp2_with fail
      refine bodyPost_ret (results_tmp3 rfl _ _ _) rfl ?_
      exact ⟨rfl, HU1.out.below⟩
    · have hl2 : 16777216 < limit := hc.resolve_left hl
      go_wp2_with fail
      refine bodyPost_ret (results_tmp3 rfl _ _ _) rfl ?_
      exact ⟨rfl, HU1.out.below⟩
  · rw [if_neg hz]
    have hb : (c != 0) = true := by simpa using hz
    clear hz hc
    go_enter Try.func12, Try.ntmps12
    go_wp2_with fail
    refine HC.out.mono ?_
    rintro e w1 ⟨rfl, hb1⟩
    have HU1 := Lib.hid (HU0.out.trans (Upd.ofBelow hb1 []))
    clear hb1 HC hW0
    go_wp2_with fail
    refine bodyPost_ret (results_tmp3 rfl _ _ _) rfl ?_
    exact ⟨rfl, HU1.out.below⟩

theorem set_wf (n : Nat) (S : List Int) (hn : n ≤ 1048576) : (∀ x ∈ setUpTo n S, (Lit.int .i64 x).wf = true) ∧ (setUpTo n S).length ≤ 1099511627776 := by
  refine ⟨fun x hx => ?_, ?_⟩
  · have := ((setUpTo_mem _ _ _).1 hx).1
    exact int64_wf (by omega) (by omega)
  · unfold setUpTo
    have := List.length_filter_le (fun x => decide (x ∈ S)) ((List.range n).map (fun i : Nat => (i : Int)))
    simp only [List.length_map, List.length_range] at this
    omega

set_option maxHeartbeats 8000000 in
set_option maxRecDepth 100000 in
theorem gather_ok (p n : Nat) (dim leaf depth : Int) (flat : List Int) (vT vv : Value) (T : List (List Nd)) (v : List Int) (limit : Int) (w : World) (hi : IsItems w [] p dim flat) (hd : 1 ≤ dim) (hn : (flat.length : Int) = n * dim) (h : kNd.slice.slice.At [] w [vT] T) (hs : ∀ t ∈ T, TSmall t) (hv : (Kd.int .i32).slice.At [] w [vv] v)
    (hc : seaCheck n dim leaf depth T v = 0) (hl1 : 1 ≤ limit) (hl2 : limit ≤ 16777216) (hT : T.length ≤ 1048576) (hfl : T.flatten.length ≤ 1048576) (hn2 : n ≤ 1048576) :
    Calls Try.prog 12 #[.agg #[.pointer (some ⟨p, 0, none⟩), .int .i64 leaf, .int .i64 depth, vT], vv, .int .i64 limit] w fun e w' => ∃ v', e = .returned (.tuple #[v', .int .i64 ((gatherS T v n limit T.flatten.length (beginS T) []).1.steps : Int), .int .i64 0]) ∧
      (Kd.int .i64).slice.At [] w' [v'] (setUpTo n (gatherS T v n limit T.flatten.length (beginS T) []).2) ∧ Below w.heap.size w w' := by
  obtain ⟨W0, hW0⟩ : ∃ W0, w.alloc (.cells #[.pointer (some ⟨p, 0, none⟩), .int .i64 leaf, .int .i64 depth, vT] 30) = W0 := ⟨_, rfl⟩
  have hu0 : Upd [] w W0 := by rw [← hW0]; exact Upd.alloc [] w _
  have hx0 : W0.heap[w.heap.size]? = some (.cells #[.pointer (some ⟨p, 0, none⟩), .int .i64 leaf, .int .i64 depth, vT] 30) := by rw [← hW0]; exact Go.heap_alloc_new w _
  obtain ⟨d0, d1, d2, d3⟩ := lay_cells hx0
  have HC := search_check_calls p n dim leaf depth flat vT vv T v [] W0 (hi.below hu0.below) hd hn (h.below hu0.below) hs (hv.below hu0.below)
  rw [hc] at HC
  have HC := Lib.hid HC
  obtain ⟨hz1, hz2⟩ := sea_zero hc
  obtain ⟨hz3, _, _⟩ := lay_zero hz1
  have HINV := Lib.hid (GInv.start v limit hz3 hT hfl)
  have HVB := Lib.hid (Bd21.vec hz2).1
  obtain ⟨FIN, hFIN⟩ : ∃ F, gatherS T v n limit T.flatten.length (beginS T) [] = F := ⟨_, rfl⟩
  rw [hFIN] at HINV ⊢
  obtain ⟨g0, hg0⟩ : ∃ g, T.flatten.length = g := ⟨_, rfl⟩
  rw [hg0] at HINV
  obtain ⟨aT, cT, rfl, _, _⟩ := Kd.slice_form h
  obtain ⟨av, cv, rfl, _, _⟩ := Kd.slice_form hv
  have HI := Lib.hid (hi.below hu0.below)
  have HT := Lib.hid (h.below hu0.below)
  have HV := Lib.hid (hv.below hu0.below)
  have HU0 := Lib.hid hu0
  have HX0 := Lib.hid hx0
  have HTL := Lib.hid hT
  have HNN := Lib.hid hn
  obtain ⟨NI, hNI⟩ : ∃ N : Int, (n : Int) = N := ⟨_, rfl⟩
  have HNI := Lib.hid hNI
  clear hi h hs hv hu0 hx0 hc hz1 hz2 hz3 hFIN hg0 hT hfl hn hNI
  go_enter Try.func12, Try.ntmps12
  go_wp2_with fail
  refine HC.out.mono ?_
  rintro e w1 ⟨rfl, hb1⟩
  clear hW0 d0 d1 d2 d3 HC
  have hx1 := (hb1.block _ (block_lt HX0.out)).trans HX0.out
  obtain ⟨d0, d1, d2, d3⟩ := lay_cells hx1
  have HX1 := Lib.hid hx1
  have HBW1 := Lib.hid ((HU0.out.trans (Upd.ofBelow hb1 [])).below)
  have HI1 := Lib.hid (HI.out.below hb1)
  have HT1 := Lib.hid (HT.out.below hb1)
  have HV1 := Lib.hid (HV.out.below hb1)
  have HBG := Lib.hid (begin_calls p leaf depth _ _ T v [] w1 HT1.out HV1.out HTL.out)
  clear hb1 hx1 HI HT HV HX0
  go_wp2_with fail
  refine HBG.out.mono ?_
  rintro e w2 ⟨q, gh, hv2, hl2', rfl, hw2, hb2⟩
  clear d0 d1 d2 d3 HBG
  have hx2 := (hb2.block _ (block_lt HX1.out)).trans HX1.out
  obtain ⟨d0, d1, d2, d3⟩ := lay_cells hx2
  have HW2 := Lib.hid hw2
  have HB2 := Lib.hid hb2
  have HLN := Lib.hid (len_calls w2 [] p dim flat n (HI1.out.below hb2) hd HNN.out)
  rw [HNI.out] at HLN
  clear hb2 hx2 hw2
  go_wp2_with fail
  refine HLN.out.mono ?_
  rintro e w3 ⟨rfl, m3, hw3⟩
  have HB3 : Hid (Upd [] w2 w3) := Lib.hid (by rw [hw3]; exact Upd.drewN [] _ _)
  have HMN := Lib.hid (marks_new_calls NI (by have := HNI.out; omega) w3)
  clear d0 d1 d2 d3 HLN hw3
  go_wp2_with fail
  refine HMN.out.mono ?_
  rintro e w4 ⟨sp, sg, rfl, hb4, hs4, hp4, hg4⟩
  have hnn : NI.toNat = n := by have := HNI.out; omega
  rw [hnn] at hs4
  have HU4 : Hid (Upd [] w2 w4) := Lib.hid (HB3.out.trans (Upd.ofBelow hb4 []))
  have hq2 := block_lt HW2.out.hd
  have hgh2 := block_lt HW2.out.heap.hd
  have hob2 := HW2.out.heap.row.ob_lt
  have hz3 := HB3.out.size
  have START : Hid (IsW w4 w1.heap.size q gh hv2 p leaf depth (.slice aT T.length cT) (.slice av v.length cv) (beginS T) hl2') := Lib.hid (HW2.out.upd HU4.out (by simp) (by simp) (by simp))
  have HS4 := Lib.hid hs4
  have HB4 : Hid (Below w1.heap.size w1 w4) := Lib.hid (HB2.out.trans (HU4.out.below.mono HB2.out.size))
  have HAP : Hid (∀ k, k ∈ q :: gh :: ob hv2 → k ≠ sp ∧ k ≠ sg) := Lib.hid (fun k hk => by
    rcases List.mem_cons.1 hk with rfl | hk
    · omega
    · rcases List.mem_cons.1 hk with rfl | hk
      · omega
      · have := (hob2 k hk).2; omega)
  have hspB : w1.heap.size ≤ sp := by have := HB2.out.size; omega
  have hsgB : w1.heap.size ≤ sg := by have := HB2.out.size; omega
  clear hb4 hs4 hp4 hg4 HMN hnn hq2 hgh2 hob2 hz3 HW2 HB3
  go_wp2_with fail
  go_loopg [] g0 (fun gk wr => ∃ (s : St) (S : List Int) (hv' : Value) (hl' : List Tk), Hid (GInv T dim v n limit FIN gk s S) ∧ Hid (IsW wr w1.heap.size q gh hv' p leaf depth (.slice aT T.length cT) (.slice av v.length cv) s hl') ∧ Hid (IsSet wr sp sg n S) ∧ Hid (Below w1.heap.size w1 wr) ∧ Hid (∀ k, k ∈ q :: gh :: ob hv' → k ≠ sp ∧ k ≠ sg))
  case atStart => exact ⟨_, _, _, _, HINV, START, HS4, HB4, HAP⟩
  case round =>
    obtain ⟨s, S, hv', hl', hinv, hw, hset, hb, hap⟩ := hrel
    have HLEN := Lib.hid (marks_len_calls sp sg n S wr hset.out)
    obtain ⟨SL, hSL⟩ : ∃ N : Int, (S.length : Int) = N := ⟨_, rfl⟩
    have HSL := Lib.hid hSL
    rw [hSL] at HLEN
    clear hSL
    have TAIL : Hid (∀ wt, Upd [] wr wt → (limit ≤ SL ∨ s.tasks = []) → FIN = (s, S) ∧ IsW wt w1.heap.size q gh hv' p leaf depth (.slice aT T.length cT) (.slice av v.length cv) s hl' ∧ IsSet wt sp sg n S ∧ Below w.heap.size w wt) := Lib.hid (fun wt hu hst =>
      ⟨hinv.out.stop (by rw [HSL.out]; exact hst), hw.out.upd hu (by simp) (by simp) (by simp), hset.out.upd hu (by simp) (by simp), (HBW1.out.trans (hb.out.mono HBW1.out.size)).trans (hu.below.mono (by have := HBW1.out.size; have := hb.out.size; omega))⟩)
    go_wp2_with fail
    refine HLEN.out.mono ?_
    rintro e w5 ⟨rfl, rfl⟩
    have hqw := hw.out.heap.row.ob_lt
    have hzb := hb.out.size
    have hzw := HBW1.out.size
    by_cases hlt : SL < limit
    · by_cases h0 : s.tasks = []
      · have HST := Lib.hid (walk_step_none w1.heap.size q gh hv' p leaf depth _ _ s hl' wr hw.out h0)
        go_wp2_with fail
        refine HST.out.mono ?_
        rintro e wt ⟨rfl, hbt⟩
        obtain ⟨hfin, hwt, hst, hbt2⟩ := TAIL.out wt (Upd.ofBelow hbt []) (.inr h0)
        have HALL : Hid (∀ W, Upd [] wt W → Calls Try.prog 33 #[.pointer (some ⟨sp, 0, none⟩)] W fun e w' => ∃ bx, e = .returned (.func (.func 56) #[] #[.pointer (some ⟨bx, 0, none⟩)]) ∧ Below W.heap.size W w' ∧
            ItFrom Try.prog w' [] 56 #[.pointer (some ⟨bx, 0, none⟩)] (setUpTo n S) valInt) := Lib.hid (fun W hW => marks_all_calls sp sg n S [] W (hst.upd hW (by simp) (by simp)) (by simp) (by simp) (by simp))
        have HAW := Lib.hid (set_wf n S hn2)
        have CBT : Hid (∀ W, Upd [] wt W → W.cell? ⟨q, 6, none⟩ = some (.int .i64 (s.steps : Int))) := Lib.hid (fun W hW => (w_cells (hwt.upd hW (by simp) (by simp) (by simp))).2.2.2.1)
        have ct6 := CBT.out wt (Upd.refl _ _)
        have HFIN := Lib.hid hfin
        have HBT := Lib.hid hbt2
        clear hbt hfin hwt hst hbt2 h0 hinv hw hset hb hap HST
        go_wp2_with fail
        go_region_held3 (fun w' => w'.cell? ⟨q, 6, none⟩ = some (.int .i64 (s.steps : Int)))
          (first | exact CBT.out _ HU7.out | exact CBT.out _ HU6.out | exact CBT.out _ (Upd.drewN [] wt 1) | go_keep)
          (first
            | (go_at_call 33
               refine (HALL.out _ (Upd.drewN [] wt _)).mono ?_
               rintro e w6 ⟨bx6, rfl, hb6, hit6⟩
               have HU6 : Hid (Upd [] wt w6) := Lib.hid ((Upd.drewN [] wt 1).trans (Upd.ofBelow hb6 []))
               have HC6 := Lib.hid (collect_int_calls 56 _ (setUpTo n S) w6 (enters_it Try.func56 rfl rfl) [] hit6 HAW.out.1 HAW.out.2)
               clear hb6 hit6)
            | (go_at_call 32
               refine HC6.out.mono ?_
               rintro e w7 ⟨v7, rfl, hb7, hr7⟩
               have HU7 : Hid (Upd [] wt w7) := Lib.hid (HU6.out.trans (Upd.ofBelow hb7 []))
               have HR7 := Lib.hid (hr7.read (M := []) (by simp))
               clear hb7 hr7))
        go_wp2_with fail
        refine bodyPost_ret (results_tmp3 rfl _ _ _) rfl ?_
        have hfin := HFIN.out
        subst hfin
        exact ⟨v7, rfl, HR7.out, HBT.out.trans (HU7.out.below.mono HBT.out.size)⟩
      · have h0l : 0 < s.tasks.length := by
          cases hts : s.tasks with
          | nil => exact absurd hts h0
          | cons a b => simp
        have hnew : ∀ k, k ∈ (q :: gh :: ob hv' ++ [sp, sg]) → w1.heap.size ≤ k := fun k hk => by
          simp only [List.cons_append, List.mem_cons, List.mem_append, List.not_mem_nil, or_false] at hk
          have h1 := hw.out.le
          have h2 := hw.out.heap.le
          rcases hk with rfl | rfl | hk | rfl | rfl
          · exact h1
          · exact h2
          · exact (hqw k hk).1
          · exact hspB
          · exact hsgB
        have HSO := Lib.hid (walk_step_one w1.heap.size q gh hv' p leaf depth dim _ _ T v n limit FIN gk S s hl' (q :: gh :: ob hv' ++ [sp, sg]) wr hw.out
          (HT1.out.upd (Upd.ofBelow hb.out []) (by simp) (fun k hk => .inr (hnew k hk))) (HV1.out.upd (Upd.ofBelow hb.out []) (by simp) (fun k hk => .inr (hnew k hk))) (by simp) (by simp) (fun k hk => by simp [hk]) hzb hinv.out HVB.out h0l)
        have hspl := block_lt hset.out.hp
        have hsgl : sg < wr.heap.size := by obtain ⟨_, _, hg, _⟩ := hset.out.hg; exact block_lt hg
        obtain ⟨g', hgk, hinv'⟩ := hinv.out.step HVB.out (by rw [HSL.out]; omega) h0l
        have HGK := Lib.hid hgk
        have HINV' := Lib.hid hinv'
        have HNEW := Lib.hid hnew
        clear hnew hgk hinv' h0l h0
        go_wp2_with fail
        refine HSO.out.mono ?_
        rintro e w6 ⟨ids, vi, bl, hv6, hl6, hids, rfl, hat6, hw6, hu6, hob6⟩
        have HAT6 := Lib.hid hat6
        have HW6 := Lib.hid hw6
        have HIDS := Lib.hid hids
        have HU6 := Lib.hid hu6
        have HOB6 := Lib.hid hob6
        have HSET6 : Hid (IsSet w6 sp sg n S) := Lib.hid (hset.out.upd hu6 (fun hk => (hap.out _ hk).1 rfl) (fun hk => (hap.out _ hk).2 rfl))
        have HB6 : Hid (Below w1.heap.size w1 w6) := Lib.hid (hb.out.trans (hu6.belowB hzb (fun k hk => HNEW.out k (by simp only [List.cons_append, List.mem_cons, List.mem_append] at hk ⊢; rcases hk with hk | hk | hk <;> simp [hk]))))
        have HAP6 : Hid (∀ k, k ∈ q :: gh :: ob hv6 → k ≠ sp ∧ k ≠ sg) := Lib.hid (fun k hk => by
          rcases List.mem_cons.1 hk with rfl | hk
          · exact hap.out _ (by simp)
          · rcases List.mem_cons.1 hk with rfl | hk
            · exact hap.out _ (by simp)
            · rcases hob6 k hk with hk | hk
              · exact hap.out _ (by simp [hk])
              · omega)
        obtain ⟨ai, ci, rfl, _, hci⟩ := slice_form' hat6
        unfold maxLen at hci
        clear hat6 hw6 hids hu6 hob6 hinv hw hset hb hap HSO TAIL
        go_wp2_with fail
        go_loopw [50] (fun i wr' => ∃ k : Nat, k ≤ ids.length ∧ i = .int .i64 k ∧ Hid (IsSet wr' sp sg n (metAdd n S (ids.take k))) ∧ Hid (Upd [sp, sg] w6 wr')) (fun i _ => ids.length - (intOf i).toNat)
        case atStart => exact ⟨0, Nat.zero_le _, rfl, HSET6, Lib.hid (Upd.refl _ _)⟩
        case round =>
          obtain ⟨k, hk, rfl, hs, hu⟩ := hrel
          by_cases hlt2 : k < ids.length
          · obtain ⟨x, hxk⟩ : ∃ x, ids[k]? = some x := ⟨_, List.getElem?_eq_getElem hlt2⟩
            obtain ⟨b, o, c, hvv, _, _, _, _, c0, _⟩ := ints_at (HAT6.out.upd hu.out (by simp) (fun k hk => .inl hk)) hxk
            simp at hvv
            obtain ⟨rfl, rfl⟩ := hvv
            have hi1 : (k : Int) < (ids.length : Int) := by omega
            have hi0 : (0 : Int) ≤ (k : Int) := by omega
            have HADD := Lib.hid (marks_add_calls sp sg n (metAdd n S (ids.take k)) x _ hs.out)
            have HSN := Lib.hid (metAdd_snoc n S hxk)
            clear hxk
            go_wp2_with fail
            refine HADD.out.mono ?_
            rintro e w7 ⟨rfl, hu7, hs7⟩
            have HU7 := Lib.hid (hu.out.trans hu7)
            have HS7 : Hid (IsSet w7 sp sg n (metAdd n S (ids.take (k + 1)))) := Lib.hid (by rw [HSN.out]; exact hs7)
            clear hu7 hs7
            go_wp2_with fail
            go_roundw
            case rel => exact ⟨k + 1, by omega, by go_num, HS7, HU7⟩
            case measure => simp [intOf]; omega
          · have hkl : k = ids.length := by omega
            subst hkl
            rw [List.take_length] at hs
            go_wp2_with fail
            go_roundg g'
            case measure => have := HGK.out; omega
            case rel =>
              refine ⟨stepS T v s, metOut T n s S, hv6, hl6, HINV', Lib.hid (HW6.out.upd hu.out ?_ ?_ ?_), Lib.hid (by rw [metOut_eq, ← HIDS.out]; exact hs.out), Lib.hid (HB6.out.trans (hu.out.belowB HB6.out.size (by simp; omega))), HAP6⟩
              · have := HAP6.out q (by simp); simp; omega
              · have := HAP6.out gh (by simp); simp; omega
              · intro k hk; have := HAP6.out k (by simp [hk]); simp; omega
    · obtain ⟨hfin, hwt, hst, hbt2⟩ := TAIL.out wr (Upd.refl _ _) (.inl (by omega))
      have HALL : Hid (∀ W, Upd [] wr W → Calls Try.prog 33 #[.pointer (some ⟨sp, 0, none⟩)] W fun e w' => ∃ bx, e = .returned (.func (.func 56) #[] #[.pointer (some ⟨bx, 0, none⟩)]) ∧ Below W.heap.size W w' ∧
          ItFrom Try.prog w' [] 56 #[.pointer (some ⟨bx, 0, none⟩)] (setUpTo n S) valInt) := Lib.hid (fun W hW => marks_all_calls sp sg n S [] W (hst.upd hW (by simp) (by simp)) (by simp) (by simp) (by simp))
      have HAW := Lib.hid (set_wf n S hn2)
      have CBT : Hid (∀ W, Upd [] wr W → W.cell? ⟨q, 6, none⟩ = some (.int .i64 (s.steps : Int))) := Lib.hid (fun W hW => (w_cells (hwt.upd hW (by simp) (by simp) (by simp))).2.2.2.1)
      have ct6 := CBT.out wr (Upd.refl _ _)
      have HFIN := Lib.hid hfin
      have HBT := Lib.hid hbt2
      clear hfin hwt hst hbt2 hinv hw hset hb hap
      rename World => wt
      go_wp2_with fail
      go_region_held3 (fun w' => w'.cell? ⟨q, 6, none⟩ = some (.int .i64 (s.steps : Int)))
        (first | exact CBT.out _ HU7.out | exact CBT.out _ HU6.out | exact CBT.out _ (Upd.drewN [] wt 1) | go_keep)
        (first
          | (go_at_call 33
             refine (HALL.out _ (Upd.drewN [] wt _)).mono ?_
             rintro e w6 ⟨bx6, rfl, hb6, hit6⟩
             have HU6 : Hid (Upd [] wt w6) := Lib.hid ((Upd.drewN [] wt 1).trans (Upd.ofBelow hb6 []))
             have HC6 := Lib.hid (collect_int_calls 56 _ (setUpTo n S) w6 (enters_it Try.func56 rfl rfl) [] hit6 HAW.out.1 HAW.out.2)
             clear hb6 hit6)
          | (go_at_call 32
             refine HC6.out.mono ?_
             rintro e w7 ⟨v7, rfl, hb7, hr7⟩
             have HU7 : Hid (Upd [] wt w7) := Lib.hid (HU6.out.trans (Upd.ofBelow hb7 []))
             have HR7 := Lib.hid (hr7.read (M := []) (by simp))
             clear hb7 hr7))
      go_wp2_with fail
      refine bodyPost_ret (results_tmp3 rfl _ _ _) rfl ?_
      have hfin := HFIN.out
      subst hfin
      exact ⟨v7, rfl, HR7.out, HBT.out.trans (HU7.out.below.mono HBT.out.size)⟩

end Go.Proofs.Ytiplifkbegmeiaa
