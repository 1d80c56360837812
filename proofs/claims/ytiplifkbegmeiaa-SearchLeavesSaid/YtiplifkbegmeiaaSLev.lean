/-
The law SearchLeaves.
-/
import Derived.Test.YtiplifkbegmeiaaBuilt
import Derived.Test.YtiplifkbegmeiaaGaQ
namespace Go.Proofs.Ytiplifkbegmeiaa
set_option linter.unusedVariables false
set_option linter.unusedSimpArgs false
open Go.RowKit

theorem leavesS_len (T : List (List Nd)) (v : List Int) : ∀ (g : Nat) (s : St), (leavesS T v g s).length ≤ g
  | 0, s => by simp [leavesS]
  | g + 1, s => by
    have ih := leavesS_len T v g (stepS T v s)
    unfold leavesS
    split
    · simp
    · split
      · simp; omega
      · omega

/-- A law's end: its cell of the result holds b already. -/
theorem RB.finC {t : TypeId} {w0 w wk : World} {b : Bool} (hc : wk.heap[w.heap.size]? = some (.cells #[.bool b] t)) (hb : Below w.heap.size w wk) (h0 : Below w0.heap.size w0 w) {P : Program} {fn : Func} {tmps : Array Value} {p : Tmp} (hr : fn.results = #[.cell p t]) (hu : P.underlying t = some .bool) (hp : tmps.getD p undef = .pointer (some ⟨w.heap.size, 0, none⟩))
    (Ds : List (Nat × Array Value)) (hK : ∀ D ∈ Ds, w.heap.size < D.1 ∧ wk.heap[D.1]? = some (.deferred (some []))) (hn : (Ds.map (·.1)).Nodup) :
    LeavesInM Fence.wide 0 P fn tmps (fun e w' => e = .returned (.bool b) ∧ Below w0.heap.size w0 w') (Ds.map fun D => { target := .collected D.1, args := D.2 }) .returning wk := by
  refine end_m Ds _ (fun D hD => (hK D hD).2) hn (fun W hu2 hz => ?_)
  have hc : W.cell? ⟨w.heap.size, 0, none⟩ = some (.bool b) := by
    rw [cell_of_block (upd_far hu2 hc (fun hm => by
      obtain ⟨D, hD, e⟩ := List.mem_map.1 hm
      have := (hK D hD).1; omega))]; rfl
  refine ⟨_, results_cellb hr hu _ _ hp hc, rfl, ?_⟩
  have hb : Below w.heap.size w W := hb.trans (hu2.belowB hb.size (fun k hk => by
    obtain ⟨D, hD, rfl⟩ := List.mem_map.1 hk
    have := (hK D hD).1; omega))
  exact h0.trans (hb.mono h0.size)

theorem Upd.setCellAt {w : World} {b i : Nat} {v : Value} : Upd [b] w (w.setCell ⟨b, i, none⟩ v) := Upd.setCell (by simp) _

/-- A row of tasks doesn't stand where a bool does. -/
theorem tks_off {N : List Nat} {w : World} {v : Value} {l : List Tk} (h : tkE.kd.slice.At N w [v] l) {C : Nat} {b0 : Bool} {t : TypeId} (hC : w.heap[C]? = some (.cells #[.bool b0] t)) : tkE.kd.slice.At (C :: N) w [v] l := by
  obtain ⟨ao, cap, h1, h2, h3, h4⟩ := h.out
  refine ⟨⟨ao, cap, h1, h2, h3, fun i x hx => ?_⟩⟩
  obtain ⟨b, o, cp, e1, e2, e3, _, _, e4, e5, _⟩ := tks_at h hx
  obtain ⟨b', o', ha, hb, hlt, cs', hr, hc⟩ := h4 i x hx
  subst ha
  simp at h1
  rw [h1] at e1
  simp at e1
  obtain ⟨⟨rfl, rfl⟩, rfl⟩ := e1
  refine ⟨b', o', rfl, ⟨hb.1, fun hm => ?_⟩, hlt, cs', hr, hc⟩
  rcases List.mem_cons.1 hm with rfl | hm
  · rw [cell_of_block hC] at e5
    match hj : o' + i * 4, e5 with
    | 0, e5 => simp at e5
    | j + 1, e5 => simp at e5
  · exact hb.2 hm

theorem ids_few {T : List (List Nd)} {n dim : Int} {v : List Int} (hv : Bd21 v) (h : ∀ t ∈ T, checkNd t n dim = 0) (hf : ∀ t ∈ T, few t = true) : ∀ x ∈ leavesS T v T.flatten.length (beginS T), x.length ≤ 5000 := fun x hx => by
  have hx := (leaves_perm hv h).subset hx
  obtain ⟨l, hl, hxl⟩ := List.mem_flatten.1 hx
  obtain ⟨t, ht, rfl⟩ := List.mem_map.1 hl
  obtain ⟨nd, hnd, rfl⟩ := List.mem_map.1 hxl
  obtain ⟨_, _, f3⟩ := few_go t 0 0 (hf t ht)
  exact f3 nd (List.mem_filter.1 hnd).1

/-- What a party may not rely on: its own fixed blocks, and whatever came since B and isn't its own. -/
def OkN (B : Nat) (N M : List Nat) (W : World) (N' : List Nat) : Prop := ∀ k, k ∈ N' → k < W.heap.size ∧ (k ∈ N ∨ (B ≤ k ∧ k ∉ M))
theorem rw_stable {B : Nat} {N M S : List Nat} {W W' : World} {q : Nat} {F : Fo} {vL vT vv : Value} {s : St} (h : ∀ N', OkN B N M W N' → IsRW W N' q F vL vT vv s) (hu : Upd S W W') (hS : ∀ k, k ∈ S → B ≤ k ∧ k ∉ M) (hq : q ∈ M) (hB : B ≤ W.heap.size) :
    ∀ N', OkN B N M W' N' → IsRW W' N' q F vL vT vv s := fun N' hN' => by
  have h1 := h ((N' ++ S).filter (fun k => decide (k < W.heap.size))) (fun k hk => by
    obtain ⟨hk, hlt⟩ := List.mem_filter.1 hk
    refine ⟨by simpa using hlt, ?_⟩
    rcases List.mem_append.1 hk with hk | hk
    · exact (hN' k hk).2
    · exact .inr (hS k hk))
  refine h1.upd (S := S.filter (fun k => decide (k < W.heap.size))) (hu.mono (fun k hk hlt => List.mem_filter.2 ⟨hk, by simpa using hlt⟩)) (fun k hk => ?_) (fun hm => (hS q (List.mem_filter.1 hm).1).2 hq) (fun k hk => ?_)
  · obtain ⟨hk, hlt⟩ := List.mem_filter.1 hk
    exact List.mem_filter.2 ⟨List.mem_append_right _ hk, hlt⟩
  · by_cases hlt : k < W.heap.size
    · exact .inl (List.mem_filter.2 ⟨List.mem_append_left _ hk, by simpa using hlt⟩)
    · exact .inr (by omega)
theorem rw_next {B : Nat} {N M nb : List Nat} {W W' : World} {q : Nat} {F : Fo} {vL vT vv : Value} {s : St} (hnb : ∀ k, k < W.heap.size → (k ∈ N ∨ (B ≤ k ∧ k ∉ M)) → k ∈ nb) (hN : ∀ k, k ∈ N → k < W.heap.size) (h : IsRW W' nb q F vL vT vv s) :
    ∀ N', OkN B N (M ++ List.range' W.heap.size (W'.heap.size - W.heap.size)) W' N' → IsRW W' N' q F vL vT vv s := fun N' hN' => by
  refine h.upd (Upd.refl [] _) (by simp) (by simp) (fun k hk => .inl ?_)
  obtain ⟨h1, h2⟩ := hN' k hk
  by_cases hlt : k < W.heap.size
  · refine hnb k hlt ?_
    rcases h2 with h2 | h2
    · exact .inl h2
    · exact .inr ⟨h2.1, fun hm => h2.2 (List.mem_append_left _ hm)⟩
  · rcases h2 with h2 | h2
    · exact absurd (hN k h2) hlt
    · exact absurd (List.mem_append_right _ (List.mem_range'_1.2 ⟨by omega, by omega⟩)) h2.2
theorem grown_mem {M : List Nat} {W W' : World} (hM : ∀ k, k ∈ M → k < W.heap.size) (hz : W.heap.size ≤ W'.heap.size) : ∀ k, k ∈ M ++ List.range' W.heap.size (W'.heap.size - W.heap.size) → k < W'.heap.size ∧ (k ∈ M ∨ W.heap.size ≤ k) := fun k hk => by
  rcases List.mem_append.1 hk with hk | hk
  · exact ⟨by have := hM k hk; omega, .inl hk⟩
  · have := List.mem_range'_1.1 hk
    exact ⟨by omega, .inr this.1⟩
theorem rw_steps {w : World} {N : List Nat} {q : Nat} {F : Fo} {vL vT vv : Value} {s : St} (h : IsRW w N q F vL vT vv s) : w.cell? ⟨q, 7, none⟩ = some (.int .i64 (s.steps : Int)) := by
  obtain ⟨lv, h1, _⟩ := h.out
  rw [cell_of_block h1]; rfl

attribute [local go_sem] Oper.semAt_some

set_option maxHeartbeats 8000000 in
set_option maxRecDepth 100000 in
theorem searchLeaves_calls (vL vT vv : Value) (F : Fo) (v : List Int) (stop : Int) (w : World) (h : FoAt [] w vL vT F) (hs : F.small) (hv : (Kd.int .i32).slice.At [] w [vv] v) :
    Calls Try.prog 7 #[.agg #[.int .i64 F.dim, .int .i64 F.leaf, .int .i64 F.depth, vL, vT], vv, .int .i64 stop] w fun e w' => e = .returned (.bool true) ∧ Below w.heap.size w w' := by
  obtain ⟨aL, cL, rfl, hlL, hcL⟩ := Kd.slice_form h.L
  obtain ⟨aT, cT, rfl, hlT, hcT⟩ := Kd.slice_form h.T
  obtain ⟨av, cv, rfl, hlv, hcv⟩ := Kd.slice_form hv
  unfold maxLen at hcL hcT hcv
  obtain ⟨Wa, hWa⟩ : ∃ W0, w.alloc (foObj (.slice aL F.L.length cL) (.slice aT F.T.length cT) F) = W0 := ⟨_, rfl⟩
  have hua : Upd [] w Wa := by rw [← hWa]; exact Upd.alloc [] w _
  have hxa : Wa.heap[w.heap.size]? = some (foObj (.slice aL F.L.length cL) (.slice aT F.T.length cT) F) := by rw [← hWa]; exact Go.heap_alloc_new w _
  unfold foObj at hWa
  obtain ⟨Wb, hWb⟩ : ∃ Wb, Wa.alloc (.cells #[.int .i64 stop] 3) = Wb := ⟨_, rfl⟩
  have hub : Upd [] Wa Wb := by rw [← hWb]; exact Upd.alloc [] Wa _
  have hsb : Wb.heap[Wa.heap.size]? = some (.cells #[.int .i64 stop] 3) := by rw [← hWb]; exact Go.heap_alloc_new Wa _
  obtain ⟨W0, hW0⟩ : ∃ W0, Wb.alloc (.cells #[.bool false] 4) = W0 := ⟨_, rfl⟩
  have hrb0 : RB 4 Wb W0 := by rw [← hW0]; exact RB.start _ Wb
  have RB0 := Lib.hid hrb0
  have hzw : w.heap.size < Wa.heap.size := block_lt hxa
  have hza : Wa.heap.size < Wb.heap.size := block_lt hsb
  have hz0 := hrb0.lt
  have HBB : Hid (Below w.heap.size w Wb) := Lib.hid (hua.trans hub).below
  have HB0 : Hid (Below w.heap.size w W0) := Lib.hid (HBB.out.trans (hrb0.below.mono HBB.out.size))
  have HX0 := Lib.hid ((hrb0.below.block _ (by omega)).trans (upd_far hub hxa (by simp)))
  have HST0 := Lib.hid ((hrb0.below.block _ hza).trans hsb)
  have HH := Lib.hid h
  have HHV := Lib.hid hv
  have HA := Lib.hid (awake21_calls W0)
  have HS := Lib.hid hs
  clear h hs hv hua hub hxa hsb hrb0
  refine calls_of_wp_marks Try.func7 rfl ?_
  simp only [Try.ntmps7, List.size_toArray, List.length_cons, List.length_nil, Nat.reduceAdd, Nat.reduceSub, Array.replicate_succ, Array.replicate_zero, List.push_toArray, List.append_toArray, List.nil_append, List.cons_append]
  go_wp2_with fail
  refine HA.out.mono ?_
  rintro e w1 ⟨rfl, hb1⟩
  have hz1 := hb1.size
  have RB1 := Lib.hid (RB0.out.call hb1)
  have HB1 := Lib.hid (HB0.out.trans (hb1.mono HB0.out.size))
  have HX1 := Lib.hid ((hb1.block _ (block_lt HX0.out)).trans HX0.out)
  have HST1 := Lib.hid ((hb1.block _ (block_lt HST0.out)).trans HST0.out)
  obtain ⟨d0, d1, d2, d3, d4⟩ := fo_cells HX1.out
  clear hb1 HX0 HST0 HA HB0 RB0 hW0 hWa hWb
  by_cases hcb : canB F
  · have HBU := Lib.hid (built_yes_n [Wb.heap.size] _ _ F w1 (HH.out.below HB1.out) HS.out hcb (by simp; omega))
    have HCB := Lib.hid hcb
    clear hcb
    go_wp2_with fail
    refine HBU.out.mono ?_
    rintro e w2 ⟨p, rfl, hi2, hb2, hp2⟩
    have hz2 := hb2.size
    have RB2 := RB1.out.call hb2
    obtain ⟨W3, hW3⟩ : ∃ W3, w2.alloc (.cells #[.pointer none, .int .i64 0, .int .i64 0, .slice none 0 0] 30) = W3 := ⟨_, rfl⟩
    have hu3 : Upd [] w2 W3 := by rw [← hW3]; exact Upd.alloc [] w2 _
    have hy3 : W3.heap[w2.heap.size]? = some (.cells #[.pointer none, .int .i64 0, .int .i64 0, .slice none 0 0] 30) := by rw [← hW3]; exact Go.heap_alloc_new w2 _
    obtain ⟨z0, z1, z2, z3⟩ : W3.frozen? ⟨w2.heap.size, 0, none⟩ = false ∧ W3.frozen? ⟨w2.heap.size, 1, none⟩ = false ∧ W3.frozen? ⟨w2.heap.size, 2, none⟩ = false ∧ W3.frozen? ⟨w2.heap.size, 3, none⟩ = false := ⟨frozen_of_block hy3, frozen_of_block hy3, frozen_of_block hy3, frozen_of_block hy3⟩
    obtain ⟨y0, y1, y2, y3⟩ : W3.cell? ⟨w2.heap.size, 0, none⟩ = some (.pointer none) ∧ W3.cell? ⟨w2.heap.size, 1, none⟩ = some (.int .i64 0) ∧ W3.cell? ⟨w2.heap.size, 2, none⟩ = some (.int .i64 0) ∧ W3.cell? ⟨w2.heap.size, 3, none⟩ = some (.slice none 0 0) := by refine ⟨?_, ?_, ?_, ?_⟩ <;> (rw [cell_of_block hy3]; rfl)
    obtain ⟨W4, hW4⟩ : ∃ W4, (((W3.setCell ⟨w2.heap.size, 0, none⟩ (.pointer (some ⟨p, 0, none⟩))).setCell ⟨w2.heap.size, 1, none⟩ (.int .i64 F.leaf)).setCell ⟨w2.heap.size, 2, none⟩ (.int .i64 F.depth)).setCell ⟨w2.heap.size, 3, none⟩ (.slice aT F.T.length cT) = W4 := ⟨_, rfl⟩
    have hu4 : Upd [w2.heap.size] W3 W4 := by rw [← hW4]; exact upd_set4 _ _ _ _ _ _
    have hy4 : W4.heap[w2.heap.size]? = some (.cells #[.pointer (some ⟨p, 0, none⟩), .int .i64 F.leaf, .int .i64 F.depth, .slice aT F.T.length cT] 30) := by rw [← hW4]; exact heap_set4 hy3 rfl _ _ _ _
    have hb4 : Below w2.heap.size w2 W4 := hu3.below.trans (hu4.belowB hu3.size (by simp))
    have hz4 := hb4.size
    have hlt4 := block_lt hy4
    have RB4 := Lib.hid (RB2.call hb4)
    have hbb := hb2.trans (hb4.mono hz2)
    have HI4 := Lib.hid (hi2.below hb4)
    have HB4 := Lib.hid (HB1.out.trans (hbb.mono HB1.out.size))
    have HX4 := Lib.hid ((hbb.block _ (block_lt HX1.out)).trans HX1.out)
    have HST4 := Lib.hid ((hbb.block _ (block_lt HST1.out)).trans HST1.out)
    clear d0 d1 d2 d3 d4
    obtain ⟨d0, d1, d2, d3, d4⟩ := fo_cells HX4.out
    obtain ⟨c0, c1, c2, c3⟩ := lay_cells hy4
    have HY4 := Lib.hid hy4
    have hc4 := RB4.out.c
    have hf4 := RB4.out.f
    have hpl : p < w2.heap.size := by obtain ⟨_, h1, _⟩ := hi2.out; exact block_lt h1
    clear hb2 hi2 hu3 hy3 hu4 hb4 hy4 HX1 HST1 HB1 HBU RB1 RB2 hbb
    by_cases hlen : 2000 < v.length
    · have hlen2 : (2000 : Int) < (v.length : Int) := by omega
      go_wp2_with fail
      exact RB4.out.finW HBB.out rfl Try.underlying4 rfl [] (by simp) (by simp)
    have hlen2 : ¬ (2000 : Int) < (v.length : Int) := by omega
    obtain ⟨f1, f2, f3, f4, f5, f6⟩ := few16_ok HCB.out.1
    have hdim := (dataCheck_ok HCB.out.2).1
    have hfl := flat_lenF HCB.out.2
    obtain ⟨c, hc⟩ : ∃ c, seaCheck F.L.length F.dim F.leaf F.depth F.T v = c := ⟨_, rfl⟩
    have HRC := ref21_check_calls _ _ _ F v [] W4 (HH.out.below HB4.out) f6 (HHV.out.below HB4.out)
    rw [hc] at HRC
    have HRC := Lib.hid HRC
    by_cases hz : c = 0
    · subst hz
      obtain ⟨lz1, lz2⟩ := sea_zero hc
      obtain ⟨lz3, _, _⟩ := lay_zero lz1
      have HVB := Lib.hid (Bd21.vec lz2).1
      have hinv := LInv.start v lz3 (by omega) (by omega)
      have hidf := ids_few HVB.out lz3 f5
      have hxl := leavesS_len F.T v F.T.flatten.length (beginS F.T)
      obtain ⟨xs, hxs⟩ : ∃ xs, leavesS F.T v F.T.flatten.length (beginS F.T) = xs := ⟨_, rfl⟩
      have hif : xs = if seaCheck F.L.length F.dim F.leaf F.depth F.T v = 0 then leavesS F.T v F.T.flatten.length (beginS F.T) else [] := by rw [hc, if_pos rfl, hxs]
      rw [hxs] at hinv hidf hxl
      have hxl : xs.length ≤ 600 := by omega
      have HINV := Lib.hid hinv
      have HLV : Hid (∀ (N : List Nat) (W : World), Below W4.heap.size W4 W → (∀ k, k ∈ N → k < W.heap.size ∧ (k = Wb.heap.size ∨ W4.heap.size ≤ k)) → _) := Lib.hid (fun N W hW hN => search_leaves_calls p F.L.length F.dim F.leaf F.depth F.L.flatten _ _ F.T v W N (fun k hk => (hN k hk).1)
          (fun hm => by rcases (hN p hm).2 with h | h <;> omega) (HI4.out.upd (Upd.ofBelow hW []) (by simp) (by simp) (fun k hk => by rcases (hN k hk).2 with h | h <;> simp [h])) hdim hfl
          (HH.out.T.upd (Upd.ofBelow (HB4.out.trans (hW.mono HB4.out.size)) []) (by simp) (fun k hk => by rcases (hN k hk).2 with h | h <;> exact .inr (by omega))) f6
          (HHV.out.upd (Upd.ofBelow (HB4.out.trans (hW.mono HB4.out.size)) []) (by simp) (fun k hk => by rcases (hN k hk).2 with h | h <;> exact .inr (by omega))) (by omega) (by omega) xs hif (fun x hx => by have := hidf x hx; omega))
      have HBE : Hid (∀ (W : World), Below W4.heap.size W4 W → _) := Lib.hid (fun W hW => ref_begin_calls _ _ _ F v [] W (HH.out.below (HB4.out.trans (hW.mono HB4.out.size))) (HHV.out.below (HB4.out.trans (hW.mono HB4.out.size))) (by omega))
      clear f1 f2 f3 f4 f5 f6 hdim hfl hc lz1 lz2 lz3 hinv hidf hif hxs
      go_wp2_with fail
      refine HRC.out.mono ?_
      rintro e w5 ⟨rfl, hb5⟩
      have hz5 := hb5.size
      have RB5 := Lib.hid (RB4.out.call hb5)
      have HX5 := Lib.hid ((hb5.block _ (block_lt HX4.out)).trans HX4.out)
      have HB5 := Lib.hid hb5
      have HY5 := Lib.hid ((hb5.block _ (block_lt HY4.out)).trans HY4.out)
      have HST5 := Lib.hid ((hb5.block _ (block_lt HST4.out)).trans HST4.out)
      have HBE5 := Lib.hid (HBE.out w5 hb5)
      clear hb5 HBE d0 d1 d2 d3 d4 c0 c1 c2 c3 hc4 hf4 hW3 hW4 z0 z1 z2 z3 y0 y1 y2 y3
      obtain ⟨d0, d1, d2, d3, d4⟩ := fo_cells HX5.out
      go_wp2_with fail
      refine HBE5.out.mono ?_
      rintro e w6 ⟨q, rfl, hw6, hq6, hb6⟩
      have hz6 := hb6.size
      have hql := block_lt hw6.out.choose_spec.1
      have RB6 := RB5.out.call hb6
      have HB6 := Lib.hid (HB5.out.trans (hb6.mono HB5.out.size))
      have hy6 := (hb6.block _ (block_lt HY5.out)).trans HY5.out
      have hst6 := (hb6.block _ (block_lt HST5.out)).trans HST5.out
      obtain ⟨W7, hW7⟩ : ∃ W7, (w6.alloc (.cells #[.pointer (some ⟨q, 0, none⟩)] 49)).alloc (.cells #[.int .i64 0] 3) = W7 := ⟨_, rfl⟩
      have hu7 : Upd [] w6 W7 := by rw [← hW7]; exact (Upd.alloc [] w6 _).trans (Upd.alloc [] _ _)
      have hqc7 : W7.heap[w6.heap.size]? = some (.cells #[.pointer (some ⟨q, 0, none⟩)] 49) := by rw [← hW7]; exact alloc2_fst w6 _ _
      have hnc7 : W7.heap[w6.heap.size + 1]? = some (.cells #[.int .i64 0] 3) := by rw [← hW7]; exact alloc2_snd w6 _ _
      have hz7 : W7.heap.size = w6.heap.size + 2 := by rw [← hW7]; simp
      have RB7 := Lib.hid (RB6.upd hu7 (by simp))
      have HW7' : Hid (IsRW W7 [Wb.heap.size, q, w6.heap.size + 1] q F (.slice aL F.L.length cL) (.slice aT F.T.length cT) (.slice av v.length cv) (beginS F.T)) := Lib.hid (by
        obtain ⟨lv, e1, e2⟩ := hw6.out
        exact ⟨lv, (hu7.block _ (block_lt e1) (by simp)).trans e1, (tks_off e2 RB6.cell).upd hu7 (by simp) (fun k hk => by simp at hk ⊢; omega)⟩)
      have HQC7 := Lib.hid hqc7
      have HNC7 := Lib.hid hnc7
      have HY7 := upd_far hu7 hy6 (by simp)
      have HST7 := Lib.hid (upd_far hu7 hst6 (by simp))
      have HB7 := Lib.hid (HB6.out.trans (hu7.below.mono HB6.out.size))
      have HL7 := HLV.out [Wb.heap.size, q, w6.heap.size + 1] W7 HB7.out (fun k hk => by simp at hk; omega)
      obtain ⟨c0, c1, c2, c3⟩ := lay_cells HY7
      rw [← hW7] at HL7 c0 c1 c2 c3
      have HL7 := Lib.hid HL7
      have HW7 := Lib.hid hW7
      clear hb6 hw6 hy6 hst6 hu7 hqc7 hnc7 HLV d0 d1 d2 d3 d4 hW7 HY7 RB6
      go_wp2_with fail
      refine HL7.out.mono ?_
      rw [HW7.out]
      rintro e w8 ⟨b1, b2, rfl, hb8, hit⟩
      have hz8 := hb8.size
      have RB8 := Lib.hid (RB7.out.call hb8)
      have HB8 := Lib.hid (HB7.out.trans (hb8.mono HB7.out.size))
      have HW8 := Lib.hid (HW7'.out.upd (Upd.ofBelow hb8 []) (by simp) (by simp) (fun k hk => .inl hk))
      have HQC8 := Lib.hid ((hb8.block _ (block_lt HQC7.out)).trans HQC7.out)
      have HNC8 := Lib.hid ((hb8.block _ (block_lt HNC7.out)).trans HNC7.out)
      have HST8 := Lib.hid ((hb8.block _ (block_lt HST7.out)).trans HST7.out)
      have HIT := Lib.hid hit
      have HT8 := Lib.hid (HH.out.T.upd (Upd.ofBelow (HB4.out.trans (HB8.out.mono HB4.out.size)) []) (by simp) (M' := [Wb.heap.size, q, w6.heap.size + 1]) (fun k hk => .inr (by simp at hk; omega)))
      have HV8 := Lib.hid (HHV.out.upd (Upd.ofBelow (HB4.out.trans (HB8.out.mono HB4.out.size)) []) (by simp) (M' := [Wb.heap.size, q, w6.heap.size + 1]) (fun k hk => .inr (by simp at hk; omega)))
      obtain ⟨N, hN⟩ : ∃ N, [Wb.heap.size, q, w6.heap.size + 1] = N := ⟨_, rfl⟩
      have hmN : ∀ k, k ∈ N ↔ k = Wb.heap.size ∨ k = q ∨ k = w6.heap.size + 1 := by rw [← hN]; simp
      rw [hN] at HT8 HV8 HW8 HIT
      have HMN := Lib.hid hmN
      clear hb8 hit HL7 c0 c1 c2 c3 hN hmN
      go_wp2_with fail
      refine wp_range (xs := xs) (val := valInts) N rfl (enters_it Try.func38 rfl rfl) (fun W hu hsz => ?_)
        (fun pre M W => Hid (∀ k, k ∈ N → k ∈ M) ∧ ∃ (g : Nat) (s : St) (rest : List (List Int)), Hid (xs = pre ++ rest) ∧ Hid (LInv F.T F.dim v g s rest) ∧ Hid (∀ N', OkN w8.heap.size N M W N' → IsRW W N' q F (.slice aL F.L.length cL) (.slice aT F.T.length cT) (.slice av v.length cv) s) ∧ Hid (W.heap[w6.heap.size + 1]? = some (.cells #[.int .i64 pre.length] 3)) ∧ Hid (Upd [q, w6.heap.size + 1] w8 W))
        (fun c pre M W => c = .ret ∧ Hid (∀ k, k ∈ N → k ∈ M) ∧ Hid (W.heap[Wb.heap.size]? = some (.cells #[.bool true] 4)) ∧ Hid (Below Wb.heap.size Wb W)) ?_ ?_ ?_ ?_ ?_ ?_ ?_ ?_ ?_
      · exact HIT.out W _ _ (hu.mono (by simp)) (by omega) (fun k hk => .inl hk)
      · rintro pre M W W' S hS ⟨a0, g, s, rest, a1, a2, a3, a4, a5⟩ hu
        refine ⟨a0, g, s, rest, a1, a2, Lib.hid (rw_stable a3.out hu hS (a0.out _ ((HMN.out _).2 (by simp))) a5.out.size), Lib.hid (upd_far hu a4.out (fun h => (hS _ h).2 (a0.out _ ((HMN.out _).2 (by simp))))), Lib.hid (a5.out.trans' hu (fun k hk => .inr (hS k hk).1))⟩
      · rintro c pre M W W' S hS ⟨rfl, a0, a3, a5⟩ hu
        exact ⟨rfl, a0, Lib.hid (upd_far hu a3.out (fun h => (hS _ h).2 (a0.out _ ((HMN.out _).2 (by simp))))), Lib.hid (a5.out.trans (hu.belowB a5.out.size (fun k hk => by have := (hS k hk).1; omega)))⟩
      · rintro M W W' x args ⟨v, rfl, hv⟩ hu
        exact ⟨v, rfl, hv.upd hu (by simp) (fun k hk => .inl hk)⟩
      · rintro W M x args ⟨v, rfl, hv⟩
        rfl
      · refine ⟨Lib.hid (fun k hk => hk), _, _, xs, Lib.hid (by simp), HINV, Lib.hid (fun N' hN' => HW8.out.upd (Upd.refl [] _) (by simp) (by simp) (fun k hk => ?_)), HNC8, Lib.hid (Upd.refl _ _)⟩
        rcases (hN' k hk).2 with h | h
        · exact .inl h
        · exact .inr h.1
      · intro k hk
        rw [HMN.out] at hk
        omega
      · rintro l0 pre x rest M W0' W args hxs ⟨a0, g, s, rest', a1, a2, a3, a4, a5⟩ ⟨vi, rfl, hvi⟩ _ hl1 hl2 hl3 hM
        have hrr : rest' = x :: rest := by have := a1.out; rw [hxs] at this; exact (List.append_cancel_left this).symm
        subst hrr
        obtain ⟨nb, hnb⟩ : ∃ nb, N ++ (List.range' w8.heap.size (W.heap.size - w8.heap.size)).filter (fun k => decide (k ∉ M)) = nb := ⟨_, rfl⟩
        have hz58 := a5.out.size
        have hNlt : ∀ k, k ∈ N → k < W.heap.size := fun k hk => hM k (a0.out k hk)
        have hnbi : ∀ k, k ∈ nb → k < W.heap.size ∧ (k ∈ N ∨ (w8.heap.size ≤ k ∧ k ∉ M)) := fun k hk => by
          rw [← hnb] at hk
          rcases List.mem_append.1 hk with hk | hk
          · exact ⟨hNlt k hk, .inl hk⟩
          · obtain ⟨h1, h2⟩ := List.mem_filter.1 hk
            have := List.mem_range'_1.1 h1
            exact ⟨by omega, .inr ⟨this.1, by simpa using h2⟩⟩
        have hnbo : ∀ k, k < W.heap.size → (k ∈ N ∨ (w8.heap.size ≤ k ∧ k ∉ M)) → k ∈ nb := fun k hlt hk => by
          rw [← hnb]
          rcases hk with hk | hk
          · exact List.mem_append_left _ hk
          · exact List.mem_append_right _ (List.mem_filter.2 ⟨List.mem_range'_1.2 ⟨hk.1, by omega⟩, by simpa using hk.2⟩)
        have hqN : q ∈ N := (HMN.out _).2 (by simp)
        have hqnb : q ∈ nb := hnbo q (hNlt q hqN) (.inl hqN)
        have HNBI := Lib.hid hnbi
        have HNBO := Lib.hid hnbo
        have HNLT := Lib.hid hNlt
        have HM := Lib.hid hM
        have HXS := Lib.hid hxs
        have HVI := Lib.hid hvi
        have HRW := Lib.hid (a3.out nb hnbi)
        have HTW := Lib.hid (HT8.out.upd a5.out (fun k hk => (HMN.out k).2 (by simp at hk; omega)) (M' := nb) (fun k hk => by rcases (hnbi k hk).2 with h | h; exact .inl h; exact .inr h.1))
        have HVW := Lib.hid (HV8.out.upd a5.out (fun k hk => (HMN.out k).2 (by simp at hk; omega)) (M' := nb) (fun k hk => by rcases (hnbi k hk).2 with h | h; exact .inl h; exact .inr h.1))
        have HQCW := Lib.hid (upd_far a5.out HQC8.out (by simp; omega))
        have HSTW := Lib.hid (upd_far a5.out HST8.out (by simp; omega))
        have RBW := Lib.hid (RB8.out.upd a5.out (by simp; omega))
        have HSQ : Hid (w6.heap.size ∉ [q] ∧ Wa.heap.size ∉ [q] ∧ w6.heap.size + 1 ∉ [q]) := Lib.hid (by simp; omega)
        have HPL : Hid (pre.length < 600) := Lib.hid (by rw [hxs] at hxl; simp at hxl; omega)
        obtain ⟨ai, ci, rfl, hci1, hci2⟩ := slice_form' hvi
        unfold maxLen at hci2
        clear hxs hvi hM hnb hnbi hnbo hNlt hl3 a1 a3
        gi_wp2
        refine ⟨trivial, ?_⟩
        gi_wp2
        gi_loopw [12, 13] (fun want leaf wr => ∃ (g : Nat) (s : St) (b : Bool), leaf = .bool b ∧ Hid (LInv F.T F.dim v g s (if b then rest else x :: rest)) ∧ Hid (IsRW wr nb q F (.slice aL F.L.length cL) (.slice aT F.T.length cT) (.slice av v.length cv) s) ∧ Hid (Upd [q] W wr) ∧ Hid (b = true → (Kd.int .i64).slice.At nb wr [want] x)) (fun _ _ wr => 1048577 - (intOf ((wr.cell? ⟨q, 7, none⟩).getD undef)).toNat)
        case atStart => exact ⟨g, s, false, rfl, a2, HRW, Lib.hid (Upd.refl _ _), Lib.hid (by simp)⟩
        case round =>
          obtain ⟨gk, sk, b, rfl, hinv, hrw, hu, hwant⟩ := hrel
          have hqc : wr.cell? ⟨w6.heap.size, 0, none⟩ = some (.pointer (some ⟨q, 0, none⟩)) := by rw [cell_of_block (upd_far hu.out HQCW.out HSQ.out.1)]; rfl
          cases b with
          | false =>
            have hinv : Hid (LInv F.T F.dim v gk sk (x :: rest)) := hinv
            have hne := hinv.out.some
            have h0l : 0 < sk.tasks.length := by
              cases hts : sk.tasks with
              | nil => exact absurd hts hne
              | cons a b => simp
            obtain ⟨trs, k1, k2⟩ := hinv.out.ok
            have k3 := hinv.out.steps
            have k4 := hinv.out.next
            have k5 : sk.tasks.length ≤ gk := by have := sizes_len trs; have := k1.len; omega
            obtain ⟨g', xs', hg, hinv', hcase⟩ := hinv.out.step HVB.out hne
            have hzr := hu.out.size
            have HST := Lib.hid (ref_step_some nb q F F.dim _ _ _ v sk trs wr hrw.out (HTW.out.upd hu.out (fun k hk => by simp at hk; subst hk; exact hqnb) (fun k hk => .inl hk)) (HVW.out.upd hu.out (fun k hk => by simp at hk; subst hk; exact hqnb) (fun k hk => .inl hk)) hqnb (fun k hk => by have := (HNBI.out k hk).1; omega) k1 HVB.out h0l (by omega) (by omega) (by omega))
            have HCW := Lib.hid (rw_steps hrw.out)
            have HINV' := Lib.hid hinv'
            have HCASE := Lib.hid hcase
            have HSS := Lib.hid (stepS_num F.T v sk).1
            have hgs : sk.steps + gk ≤ 1048576 := k3
            clear hne h0l k1 k2 k3 k4 k5 hinv hinv' hcase hrw hwant
            gi_wp2
            refine ⟨trivial, rfl, (calls_round HST.out).mono ?_⟩
            rintro e w9 ⟨hrw9, hu9, hout⟩
            have HRW9 := Lib.hid hrw9
            have HU9 := Lib.hid (hu.out.trans hu9)
            have HCW9 := Lib.hid (rw_steps hrw9)
            rcases hout with ⟨ids, vw, ho, rfl, hat9⟩ | ⟨ho, rfl⟩
            · have hxx : ids = x ∧ xs' = rest := by
                rcases HCASE.out with ⟨i2, h1, h2⟩ | ⟨h1, h2⟩
                · rw [ho] at h1; cases h1; cases h2; exact ⟨rfl, rfl⟩
                · rw [ho] at h1; cases h1
              obtain ⟨rfl, rfl⟩ := hxx
              have HAT9 := Lib.hid hat9
              obtain ⟨aw, cw, rfl, _, _⟩ := slice_form' hat9
              clear hrw9 hu9 ho hat9 HCASE hqc HST
              gi_wp2
              go_roundw
              case rel => exact ⟨g', stepS F.T v sk, true, rfl, HINV', HRW9, HU9, Lib.hid (fun _ => HAT9.out)⟩
              case measure =>
                rw [HCW9.out, HCW.out, HSS.out]
                simp [intOf]
                omega
            · have hxx : xs' = x :: rest := by
                rcases HCASE.out with ⟨i2, h1, h2⟩ | ⟨h1, h2⟩
                · rw [ho] at h1; cases h1
                · exact h2.symm
              subst hxx
              clear hrw9 hu9 ho HCASE hqc HST
              gi_wp2
              go_roundw
              case rel => exact ⟨g', stepS F.T v sk, false, rfl, HINV', HRW9, HU9, Lib.hid (by simp)⟩
              case measure =>
                rw [HCW9.out, HCW.out, HSS.out]
                simp [intOf]
                omega
          | true =>
            have hinv : Hid (LInv F.T F.dim v gk sk rest) := hinv
            have hw1 := hwant.out rfl
            obtain ⟨aw, cw, rfl, _, _⟩ := slice_form' hw1
            have HSM := ref09_same_calls _ _ x x N wr (HVI.out.upd hu.out (fun k hk => by simp at hk; subst hk; exact List.mem_cons_of_mem _ (a0.out _ hqN)) (M' := N) (fun k hk => .inl (List.mem_cons_of_mem _ (a0.out _ hk)))) (hw1.sub (fun k hk => .inl (HNBO.out k (HNLT.out k hk) (.inl hk))))
            rw [show (x == x) = true by simp] at HSM
            have HSM := Lib.hid HSM
            clear hw1 hwant
            gi_wp2
            refine ⟨trivial, rfl, (calls_round HSM.out).mono ?_⟩
            rintro e w9 ⟨rfl, n9, hw9⟩
            have hu9 : Upd [q] W w9 := by rw [hw9]; exact hu.out.trans (Upd.drewN _ _ _)
            have hrw9 : IsRW w9 nb q F (.slice aL F.L.length cL) (.slice aT F.T.length cT) (.slice av v.length cv) sk := by rw [hw9]; exact hrw.out.upd (Upd.drewN [] _ _) (by simp) (by simp) (fun k hk => .inl hk)
            have hn9 := upd_far hu9 a4.out HSQ.out.2.2
            have hc : w9.cell? ⟨w6.heap.size + 1, 0, none⟩ = some (.int .i64 pre.length) := by rw [cell_of_block hn9]; rfl
            have hf : w9.frozen? ⟨w6.heap.size + 1, 0, none⟩ = false := frozen_of_block hn9
            obtain ⟨WA, hWA⟩ : ∃ WA, w9.setCell ⟨w6.heap.size + 1, 0, none⟩ (.int .i64 ((pre.length : Int) + 1)) = WA := ⟨_, rfl⟩
            have huA : Upd [w6.heap.size + 1] w9 WA := by rw [← hWA]; exact Upd.setCellAt
            have hnA : WA.heap[w6.heap.size + 1]? = some (.cells #[.int .i64 ((pre.length : Int) + 1)] 3) := by rw [← hWA]; simpa using heap_setCell_same w9 (w6.heap.size + 1) 0 _ _ (.int .i64 ((pre.length : Int) + 1)) hn9
            have hz9 := hu9.size
            have hcA : WA.cell? ⟨w6.heap.size + 1, 0, none⟩ = some (.int .i64 ((pre.length : Int) + 1)) := by rw [cell_of_block hnA]; rfl
            have hsA : WA.cell? ⟨Wa.heap.size, 0, none⟩ = some (.int .i64 stop) := by rw [cell_of_block (upd_far huA (upd_far hu9 HSTW.out HSQ.out.2.1) (by simp; omega))]; rfl
            have hbA := upd_far huA (upd_far hu9 RBW.out.cell (by simp; omega)) (by simp; omega)
            have hrA : WA.cell? ⟨Wb.heap.size, 0, none⟩ = some (.bool false) := by rw [cell_of_block hbA]; rfl
            have hrf : WA.frozen? ⟨Wb.heap.size, 0, none⟩ = false := frozen_of_block hbA
            have HNA := Lib.hid hnA
            have HUA : Hid (Upd [q, w6.heap.size + 1] W WA) := Lib.hid ((hu9.mono (by simp)).trans (huA.mono (by simp)))
            have HBA := Lib.hid hbA
            have HRW9 : Hid (IsRW WA nb q F (.slice aL F.L.length cL) (.slice aT F.T.length cT) (.slice av v.length cv) sk) := Lib.hid (hrw9.upd huA (fun k hk => by
              simp at hk; subst hk
              have hnN := (HMN.out (w6.heap.size + 1)).2 (by simp)
              exact HNBO.out _ (HNLT.out _ hnN) (.inl hnN)) (by simp; omega) (fun k hk => .inl hk))
            have hp600 := HPL.out
            have HBAB : Hid (Below Wb.heap.size Wb WA) := Lib.hid (RBW.out.below.trans (HUA.out.belowB RBW.out.below.size (by simp; omega)))
            clear hw9 hu9 hrw9 hn9 huA hnA hbA hrw hqc hu
            by_cases hst : (pre.length : Int) + 1 = stop
            · have hsb : ((pre.length : Int) + 1 == stop) = true := by simpa using hst
              clear hst
              gi_wp2
              have hset := heap_setCell_same WA Wb.heap.size 0 _ _ (.bool true) HBA.out
              refine ⟨((HUA.out.mono ?_).trans (Upd.setCell (?_ : _ ∈ M) _)), M, (fun k hk => ⟨?_, .inl hk⟩), a0, Lib.hid (by simpa using hset), Lib.hid (HBAB.out.setCell (Nat.le_refl _) _)⟩
              · exact fun k hk _ => a0.out _ ((HMN.out _).2 (by simp at hk; omega))
              · exact a0.out _ ((HMN.out _).2 (by simp))
              · have := HUA.out.size
                have := HM.out k hk
                simp; omega
            · have hsb : ((pre.length : Int) + 1 == stop) = false := by simpa using hst
              clear hst
              gi_wp2
              refine ⟨(HUA.out.mono ?_), _, grown_mem HM.out HUA.out.size, Lib.hid (fun k hk => List.mem_append_left _ (a0.out k hk)), gk, sk, rest, Lib.hid HXS.out, hinv, Lib.hid (rw_next HNBO.out HNLT.out HRW9.out), Lib.hid (a5.out.trans HUA.out)⟩
              exact fun k hk _ => a0.out _ ((HMN.out _).2 (by simp at hk; omega))
      · rintro M W7' ⟨a0, g, s, rest', a1, a2, a3, a4, a5⟩ hM hK
        have hrr : rest' = [] := by have := a1.out; simpa using this
        subst hrr
        have HRW := Lib.hid (a3.out N (fun k hk => ⟨by have := (HMN.out k).1 hk; have := a5.out.size; omega, .inl hk⟩))
        have RB9 := Lib.hid (RB8.out.upd a5.out (by simp; omega))
        have HTW := Lib.hid (HT8.out.upd a5.out (fun k hk => (HMN.out k).2 (by simp at hk; omega)) (M' := N) (fun k hk => .inl hk))
        have HVW := Lib.hid (HV8.out.upd a5.out (fun k hk => (HMN.out k).2 (by simp at hk; omega)) (M' := N) (fun k hk => .inl hk))
        have HQCW := Lib.hid (upd_far a5.out HQC8.out (by simp; omega))
        have hz9 := a5.out.size
        have hqN : q ∈ N := (HMN.out _).2 (by simp)
        simp only [Exit.inBlock, Exit.then]
        go_at_K
        have HK := Lib.hid hK
        clear hK a0 a1 a3 a4 a5 hM
        obtain ⟨wA, hwA⟩ : ∃ W, W = W7' := ⟨_, rfl⟩
        subst hwA
        go_wp2_with fail
        go_loopw [] (fun wr => ∃ (g : Nat) (s : St), Hid (LInv F.T F.dim v g s []) ∧ Hid (IsRW wr N q F (.slice aL F.L.length cL) (.slice aT F.T.length cT) (.slice av v.length cv) s) ∧ Hid (Upd [q] wA wr)) (fun wr => 1048577 - (intOf ((wr.cell? ⟨q, 7, none⟩).getD undef)).toNat)
        case atStart => exact ⟨g, s, a2, HRW, Lib.hid (Upd.refl _ _)⟩
        case round =>
          obtain ⟨gk, sk, hinv, hrw, hu⟩ := hrel
          have hqc : wr.cell? ⟨w6.heap.size, 0, none⟩ = some (.pointer (some ⟨q, 0, none⟩)) := by rw [cell_of_block (upd_far hu.out HQCW.out (by simp; omega))]; rfl
          have RBr := Lib.hid (RB9.out.upd hu.out (by simp; omega))
          have HKr := Lib.hid (upd_far hu.out HK.out (by simp; omega))
          by_cases h0 : sk.tasks = []
          · have HST := Lib.hid (ref_step_none N q F _ _ _ sk wr hrw.out h0)
            have hrA := RBr.out.c
            have hrf := RBr.out.f
            clear h0 hinv hrw hu
            go_wp2_with fail
            refine HST.out.mono ?_
            rintro e w9 ⟨rfl, rfl⟩
            go_wp2_with fail
            exact RBr.out.finW HBB.out rfl Try.underlying4 rfl [(w8.heap.size, _)] (by simp; exact ⟨by omega, HKr.out⟩) (by simp)
          · have h0l : 0 < sk.tasks.length := by
              cases hts : sk.tasks with
              | nil => exact absurd hts h0
              | cons a b => simp
            obtain ⟨trs, k1, k2⟩ := hinv.out.ok
            have k3 := hinv.out.steps
            have k4 := hinv.out.next
            have k5 : sk.tasks.length ≤ gk := by have := sizes_len trs; have := k1.len; omega
            obtain ⟨g', xs', hg, hinv', hcase⟩ := hinv.out.step HVB.out h0
            have hzr := hu.out.size
            have HST := Lib.hid (ref_step_some N q F F.dim _ _ _ v sk trs wr hrw.out (HTW.out.upd hu.out (fun k hk => by simp at hk; subst hk; exact hqN) (fun k hk => .inl hk)) (HVW.out.upd hu.out (fun k hk => by simp at hk; subst hk; exact hqN) (fun k hk => .inl hk)) hqN (fun k hk => by have := (HMN.out k).1 hk; omega) k1 HVB.out h0l (by omega) (by omega) (by omega))
            have HCW := Lib.hid (rw_steps hrw.out)
            have HINV' := Lib.hid hinv'
            have HCASE := Lib.hid hcase
            have HSS := Lib.hid (stepS_num F.T v sk).1
            have hgs : sk.steps + gk ≤ 1048576 := k3
            clear h0 h0l k1 k2 k3 k4 k5 hinv hinv' hcase hrw
            go_wp2_with fail
            refine HST.out.mono ?_
            rintro e w9 ⟨hrw9, hu9, hout⟩
            have HRW9 := Lib.hid hrw9
            have HU9 := Lib.hid (hu.out.trans hu9)
            have HCW9 := Lib.hid (rw_steps hrw9)
            rcases hout with ⟨ids, vw, ho, rfl, hat9⟩ | ⟨ho, rfl⟩
            · exfalso
              rcases HCASE.out with ⟨i2, h1, h2⟩ | ⟨h1, h2⟩
              · cases h2
              · rw [ho] at h1; cases h1
            · have hxx : xs' = [] := by
                rcases HCASE.out with ⟨i2, h1, h2⟩ | ⟨h1, h2⟩
                · cases h2
                · exact h2.symm
              subst hxx
              clear hrw9 hu9 ho HCASE hqc HST
              go_wp2_with fail
              go_roundw
              case rel => exact ⟨g', stepS F.T v sk, HINV', HRW9, HU9⟩
              case measure =>
                rw [HCW9.out, HCW.out, HSS.out]
                simp [intOf]
                omega
      · rintro c pre M W7 hpre ⟨rfl, a0, a3, a5⟩ hM hK
        have HK := Lib.hid hK
        clear hK hM
        go_wp2_with fail
        exact RB.finC a3.out a5.out HBB.out rfl Try.underlying4 rfl [(w8.heap.size, _)] (by simp; exact ⟨by omega, HK.out⟩) (by simp)
    · have HLV : Hid (∀ W, Below W4.heap.size W4 W → _) := Lib.hid (fun W hW => search_leaves_calls p F.L.length F.dim F.leaf F.depth F.L.flatten _ _ F.T v W [Wb.heap.size] (by have := hW.size; simp; omega) (by simp; omega) (HI4.out.below hW) hdim hfl
          (HH.out.T.upd (Upd.ofBelow (HB4.out.trans (hW.mono HB4.out.size)) []) (by simp) (by simp; omega)) f6 (HHV.out.upd (Upd.ofBelow (HB4.out.trans (hW.mono HB4.out.size)) []) (by simp) (by simp; omega)) (by omega) (by omega) [] (by rw [hc, if_neg hz]) (by simp))
      have hzb : (c != 0) = true := by simpa using hz
      clear f1 f2 f3 f4 f5 f6 hdim hfl hc hz
      go_wp2_with fail
      refine HRC.out.mono ?_
      rintro e w5 ⟨rfl, hb5⟩
      have hz5 := hb5.size
      have RB5 := Lib.hid (RB4.out.call hb5)
      have HL5 := Lib.hid (HLV.out w5 hb5)
      clear c0 c1 c2 c3
      obtain ⟨c0, c1, c2, c3⟩ := lay_cells ((hb5.block _ (block_lt HY4.out)).trans HY4.out)
      clear hb5 HLV d0 d1 d2 d3 d4 hc4 hf4 hW3 hW4 z0 z1 z2 z3 y0 y1 y2 y3
      go_wp2_with fail
      refine HL5.out.mono ?_
      rintro e w6 ⟨b1, b2, rfl, hb6, hit⟩
      have hz6 := hb6.size
      have RB6 := Lib.hid (RB5.out.call hb6)
      have HIT := Lib.hid hit
      clear hb6 hit HL5 c0 c1 c2 c3
      go_wp2_with fail
      refine wp_range (xs := ([] : List (List Int))) (val := valInts) [Wb.heap.size] rfl (enters_it Try.func38 rfl rfl) (fun W hu hsz => ?_)
        (fun pre M W => M = [Wb.heap.size] ∧ Upd [] w6 W)
        (fun c pre M W => False) ?_ ?_ ?_ ?_ ?_ ?_ ?_ ?_ ?_
      · exact HIT.out W _ _ (hu.mono (by simp)) (by omega) (fun k hk => .inl hk)
      · rintro pre M W W' S hS ⟨rfl, a5⟩ hu
        exact ⟨rfl, a5.trans' hu (fun k hk => .inr (hS k hk).1)⟩
      · rintro c pre M W W' S hS h _
        exact h.elim
      · rintro M W W' x args ⟨v, rfl, hv⟩ hu
        exact ⟨v, rfl, hv.upd hu (by simp) (fun k hk => .inl hk)⟩
      · rintro W M x args ⟨v, rfl, hv⟩
        rfl
      · exact ⟨rfl, Upd.refl _ _⟩
      · simp
        omega
      · rintro l0 pre y rest M W0' W args hxs
        simp at hxs
      · rintro M W7 ⟨rfl, a5⟩ hM hK
        have RB7 := Lib.hid (RB6.out.upd a5 (by simp))
        have hc7 := RB7.out.c
        have hf7 := RB7.out.f
        simp only [Exit.inBlock, Exit.then]
        go_at_K
        have HK := Lib.hid hK
        clear hK a5 hM
        go_wp2_with fail
        exact RB7.out.finW HBB.out rfl Try.underlying4 rfl [(w6.heap.size, _)] (by simp; exact ⟨by omega, HK.out⟩) (by simp)
      · rintro c pre M W hpre h
        exact h.elim
  · have HBU := Lib.hid (built_no _ _ F w1 (HH.out.below HB1.out) HS.out hcb)
    clear hcb
    unfold noFo at HBU
    go_wp2_with fail
    refine HBU.out.mono ?_
    rintro e w2 ⟨rfl, hb2⟩
    have hz2 := hb2.size
    have RB2 := RB1.out.call hb2
    obtain ⟨W3, hW3⟩ : ∃ W3, w2.alloc (.cells #[.pointer none, .int .i64 0, .int .i64 0, .slice none 0 0] 30) = W3 := ⟨_, rfl⟩
    have hu3 : Upd [] w2 W3 := by rw [← hW3]; exact Upd.alloc [] w2 _
    have hy3 : W3.heap[w2.heap.size]? = some (.cells #[.pointer none, .int .i64 0, .int .i64 0, .slice none 0 0] 30) := by rw [← hW3]; exact Go.heap_alloc_new w2 _
    obtain ⟨z0, z1, z2, z3⟩ : W3.frozen? ⟨w2.heap.size, 0, none⟩ = false ∧ W3.frozen? ⟨w2.heap.size, 1, none⟩ = false ∧ W3.frozen? ⟨w2.heap.size, 2, none⟩ = false ∧ W3.frozen? ⟨w2.heap.size, 3, none⟩ = false := ⟨frozen_of_block hy3, frozen_of_block hy3, frozen_of_block hy3, frozen_of_block hy3⟩
    obtain ⟨y0, y1, y2, y3⟩ : W3.cell? ⟨w2.heap.size, 0, none⟩ = some (.pointer none) ∧ W3.cell? ⟨w2.heap.size, 1, none⟩ = some (.int .i64 0) ∧ W3.cell? ⟨w2.heap.size, 2, none⟩ = some (.int .i64 0) ∧ W3.cell? ⟨w2.heap.size, 3, none⟩ = some (.slice none 0 0) := by refine ⟨?_, ?_, ?_, ?_⟩ <;> (rw [cell_of_block hy3]; rfl)
    obtain ⟨W4, hW4⟩ : ∃ W4, (((W3.setCell ⟨w2.heap.size, 0, none⟩ (.pointer none)).setCell ⟨w2.heap.size, 1, none⟩ (.int .i64 0)).setCell ⟨w2.heap.size, 2, none⟩ (.int .i64 0)).setCell ⟨w2.heap.size, 3, none⟩ (.slice none 0 0) = W4 := ⟨_, rfl⟩
    have hu4 : Upd [w2.heap.size] W3 W4 := by rw [← hW4]; exact upd_set4 _ _ _ _ _ _
    have hb4 : Below w2.heap.size w2 W4 := hu3.below.trans (hu4.belowB hu3.size (by simp))
    have RB4 := Lib.hid (RB2.call hb4)
    have hc4 := RB4.out.c
    have hf4 := RB4.out.f
    clear hb2 hu3 hy3 hu4 hb4 RB2 HBU
    go_wp2_with fail
    exact RB4.out.finW HBB.out rfl Try.underlying4 rfl [] (by simp) (by simp)

theorem SearchLeaves_walk (s : Array Value) (F : Fo) (vv : Value) (v : List Int) (stop : Int) (w : World) (h : kFo.At [] w s.toList F) (hs : F.small) (hv : (Kd.int .i32).slice.At [] w [vv] v) (hl : (Lit.int .i64 stop).wf = true) :
    Calls Try.prog 7 #[.agg s, vv, .int .i64 stop] w fun e w' => e = .returned (.bool true) ∧ Below w.heap.size w w' := by
  obtain ⟨vL, vT, rfl, hf⟩ := fo_arr h
  exact searchLeaves_calls vL vT vv F v stop w hf hs hv

end Go.Proofs.Ytiplifkbegmeiaa
