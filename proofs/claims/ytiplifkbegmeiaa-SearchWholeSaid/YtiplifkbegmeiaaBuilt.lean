/-
The laws of the search: built.
-/
import Derived.Test.YtiplifkbegmeiaaRGat
import Derived.Test.YtiplifkbegmeiaaOpenFo
namespace Go.Proofs.Ytiplifkbegmeiaa
set_option linter.unusedVariables false
set_option linter.unusedSimpArgs false
open Go.RowKit

def noFo : Value := .agg #[.pointer none, .int .i64 0, .int .i64 0, .slice none 0 0]
/-- What may be built. -/
def canB (F : Fo) : Prop := few16 F = true ∧ dataCheck F.dim F.L = 0

theorem flat_lenF {dim : Int} {L : List (List Int)} (h : dataCheck dim L = 0) : (L.flatten.length : Int) = (L.length : Int) * dim :=
  flat_dim L (fun x hx => (Bd21.vec ((dataCheck_ok h).2.2 x hx)).2.1)

set_option maxHeartbeats 4000000 in
set_option maxRecDepth 100000 in
theorem built_no (vL vT : Value) (F : Fo) (w : World) (h : FoAt [] w vL vT F) (hs : F.small) (hno : ¬ canB F) :
    Calls Try.prog 11 #[.agg #[.int .i64 F.dim, .int .i64 F.leaf, .int .i64 F.depth, vL, vT]] w fun e w' => e = .returned (.tuple #[noFo, .bool false]) ∧ Below w.heap.size w w' := by
  obtain ⟨aL, cL, rfl, hlL, hcL⟩ := Kd.slice_form h.L
  obtain ⟨aT, cT, rfl, hlT, hcT⟩ := Kd.slice_form h.T
  unfold maxLen at hcL hcT
  obtain ⟨W0, hW0⟩ : ∃ W0, w.alloc (foObj (.slice aL F.L.length cL) (.slice aT F.T.length cT) F) = W0 := ⟨_, rfl⟩
  have hu0 : Upd [] w W0 := by rw [← hW0]; exact Upd.alloc [] w _
  have hx0 : W0.heap[w.heap.size]? = some (foObj (.slice aL F.L.length cL) (.slice aT F.T.length cT) F) := by rw [← hW0]; exact Go.heap_alloc_new w _
  have hz0 : w.heap.size ≤ W0.heap.size := hu0.size
  obtain ⟨W1, hW1⟩ : ∃ W1, W0.alloc (.cells #[.pointer none, .int .i64 0, .int .i64 0, .slice none 0 0] 30) = W1 := ⟨_, rfl⟩
  have hu1 : Upd [] W0 W1 := by rw [← hW1]; exact Upd.alloc [] W0 _
  have hy1 : W1.heap[W0.heap.size]? = some (.cells #[.pointer none, .int .i64 0, .int .i64 0, .slice none 0 0] 30) := by rw [← hW1]; exact Go.heap_alloc_new W0 _
  have hx1 := upd_far hu1 hx0 (by simp)
  unfold foObj at hW0
  obtain ⟨d0, d1, d2, d3, d4⟩ := fo_cells hx1
  have H1 := Lib.hid (h.below (hu0.trans hu1).below)
  have HB1 := Lib.hid ((hu0.trans hu1).below)
  have HX1 := Lib.hid hx1
  have HY1 := Lib.hid hy1
  have HF := Lib.hid (few16_calls _ _ F [] W1 H1.out hs)
  obtain ⟨f16, hf16⟩ : ∃ r, few16 F = r := ⟨_, rfl⟩
  rw [hf16] at HF
  have HNO : Hid (f16 = true → dataCheck F.dim F.L ≠ 0) := Lib.hid (fun hf hd => hno ⟨hf16.trans hf, hd⟩)
  clear h hs hu0 hx0 hu1 hy1 hx1 hno hf16
  go_enter Try.func11, Try.ntmps11
  go_wp2_with fail
  refine HF.out.mono ?_
  rintro e w2 ⟨rfl, hb2⟩
  have hy2 := (hb2.block _ (block_lt HY1.out)).trans HY1.out
  have hx2 := (hb2.block _ (block_lt HX1.out)).trans HX1.out
  obtain ⟨z0, z1, z2, z3⟩ : w2.frozen? ⟨W0.heap.size, 0, none⟩ = false ∧ w2.frozen? ⟨W0.heap.size, 1, none⟩ = false ∧ w2.frozen? ⟨W0.heap.size, 2, none⟩ = false ∧ w2.frozen? ⟨W0.heap.size, 3, none⟩ = false := ⟨frozen_of_block hy2, frozen_of_block hy2, frozen_of_block hy2, frozen_of_block hy2⟩
  obtain ⟨y0, y1, y2, y3⟩ : w2.cell? ⟨W0.heap.size, 0, none⟩ = some (.pointer none) ∧ w2.cell? ⟨W0.heap.size, 1, none⟩ = some (.int .i64 0) ∧ w2.cell? ⟨W0.heap.size, 2, none⟩ = some (.int .i64 0) ∧ w2.cell? ⟨W0.heap.size, 3, none⟩ = some (.slice none 0 0) := by refine ⟨?_, ?_, ?_, ?_⟩ <;> (rw [cell_of_block hy2]; rfl)
  clear hW0 hW1 d0 d1 d2 d3 d4 HF
  obtain ⟨d0, d1, d2, d3, d4⟩ := fo_cells hx2
  have HY2 := Lib.hid hy2
  have HB2 := Lib.hid (HB1.out.trans (hb2.mono HB1.out.size))
  have H2 := Lib.hid (H1.out.below hb2)
  clear hb2 hy2 hx2
  cases f16 with
  | false =>
    go_wp2_with fail
    refine bodyPost_ret (v := .tuple #[noFo, .bool false]) (results_aggtmp rfl Try.isAgg30 Try.sizeOf30 _ _ rfl (heap_set4 HY2.out rfl _ _ _ _) rfl rfl) rfl ⟨rfl, ?_⟩
    exact HB2.out.trans (Upd.belowB (S := [W0.heap.size]) (upd_set4 _ _ _ _ _ _) HB2.out.size (by simp; omega))
  | true =>
    have HC := ref10_check_calls F.dim _ F.L [] w2 H2.out.L
    obtain ⟨dc, hdc⟩ : ∃ r, dataCheck F.dim F.L = r := ⟨_, rfl⟩
    rw [hdc] at HC
    have hnz : dc ≠ 0 := by rw [← hdc]; exact HNO.out rfl
    have hnb : (dc != 0) = true := by simpa using hnz
    have HC := Lib.hid HC
    clear hdc hnz
    go_wp2_with fail
    refine HC.out.mono ?_
    rintro e w3 ⟨rfl, rfl⟩
    go_wp2_with fail
    refine bodyPost_ret (v := .tuple #[noFo, .bool false]) (results_aggtmp rfl Try.isAgg30 Try.sizeOf30 _ _ rfl (heap_set4 HY2.out rfl _ _ _ _) rfl rfl) rfl ⟨rfl, ?_⟩
    exact HB2.out.trans (Upd.belowB (S := [W0.heap.size]) (upd_set4 _ _ _ _ _ _) HB2.out.size (by simp; omega))

set_option maxHeartbeats 4000000 in
set_option maxRecDepth 100000 in
theorem built_yes_n (N : List Nat) (vL vT : Value) (F : Fo) (w : World) (h : FoAt [] w vL vT F) (hs : F.small) (hyes : canB F) (hN : ∀ k, k ∈ N → k < w.heap.size) :
    Calls Try.prog 11 #[.agg #[.int .i64 F.dim, .int .i64 F.leaf, .int .i64 F.depth, vL, vT]] w fun e w' => ∃ p, e = .returned (.tuple #[.agg #[.pointer (some ⟨p, 0, none⟩), .int .i64 F.leaf, .int .i64 F.depth, vT], .bool true]) ∧ IsItems w' N p F.dim F.L.flatten ∧ Below w.heap.size w w' ∧ w.heap.size ≤ p := by
  have HNL := Lib.hid hN
  obtain ⟨aL, cL, rfl, hlL, hcL⟩ := Kd.slice_form h.L
  obtain ⟨aT, cT, rfl, hlT, hcT⟩ := Kd.slice_form h.T
  unfold maxLen at hcL hcT
  obtain ⟨hf16, hdc⟩ := hyes
  have hfl := few16_ok hf16
  obtain ⟨W0, hW0⟩ : ∃ W0, w.alloc (foObj (.slice aL F.L.length cL) (.slice aT F.T.length cT) F) = W0 := ⟨_, rfl⟩
  have hu0 : Upd [] w W0 := by rw [← hW0]; exact Upd.alloc [] w _
  have hx0 : W0.heap[w.heap.size]? = some (foObj (.slice aL F.L.length cL) (.slice aT F.T.length cT) F) := by rw [← hW0]; exact Go.heap_alloc_new w _
  have hz0 : w.heap.size ≤ W0.heap.size := hu0.size
  obtain ⟨W1, hW1⟩ : ∃ W1, W0.alloc (.cells #[.pointer none, .int .i64 0, .int .i64 0, .slice none 0 0] 30) = W1 := ⟨_, rfl⟩
  have hu1 : Upd [] W0 W1 := by rw [← hW1]; exact Upd.alloc [] W0 _
  have hy1 : W1.heap[W0.heap.size]? = some (.cells #[.pointer none, .int .i64 0, .int .i64 0, .slice none 0 0] 30) := by rw [← hW1]; exact Go.heap_alloc_new W0 _
  have hx1 := upd_far hu1 hx0 (by simp)
  unfold foObj at hW0
  obtain ⟨d0, d1, d2, d3, d4⟩ := fo_cells hx1
  have H1 := Lib.hid (h.below (hu0.trans hu1).below)
  have HB1 := Lib.hid ((hu0.trans hu1).below)
  have HX1 := Lib.hid hx1
  have HY1 := Lib.hid hy1
  have HF := few16_calls _ _ F [] W1 H1.out hs
  rw [hf16] at HF
  have HF := Lib.hid HF
  have HDC := Lib.hid hdc
  have HL301 := Lib.hid hfl.1
  clear h hs hu0 hx0 hu1 hy1 hx1 hf16 hdc hfl hN
  go_enter Try.func11, Try.ntmps11
  go_wp2_with fail
  refine HF.out.mono ?_
  rintro e w2 ⟨rfl, hb2⟩
  have hy2 := (hb2.block _ (block_lt HY1.out)).trans HY1.out
  have hx2 := (hb2.block _ (block_lt HX1.out)).trans HX1.out
  clear hW0 hW1 d0 d1 d2 d3 d4 HF
  obtain ⟨d0, d1, d2, d3, d4⟩ := fo_cells hx2
  have HY2 := Lib.hid hy2
  have HX2 := Lib.hid hx2
  have HB2 := Lib.hid (HB1.out.trans (hb2.mono HB1.out.size))
  have H2 := Lib.hid (H1.out.below hb2)
  have HC := ref10_check_calls F.dim _ F.L [] w2 H2.out.L
  rw [HDC.out] at HC
  have HC := Lib.hid HC
  have HO := Lib.hid (of_calls_ok F.dim _ F.L [] w2 H2.out.L HDC.out (by have := HL301.out; omega))
  clear hb2 hy2 hx2
  go_wp2_with fail
  refine HC.out.mono ?_
  rintro e w3 ⟨rfl, rfl⟩
  go_wp2_with fail
  refine HO.out.mono ?_
  rintro e w3 ⟨p, rfl, hp3, ⟨v3, hown3⟩, hb3⟩
  have hy3 := (hb3.block _ (block_lt HY2.out)).trans HY2.out
  have hx3 := (hb3.block _ (block_lt HX2.out)).trans HX2.out
  obtain ⟨z0, z1, z2, z3⟩ : w3.frozen? ⟨W0.heap.size, 0, none⟩ = false ∧ w3.frozen? ⟨W0.heap.size, 1, none⟩ = false ∧ w3.frozen? ⟨W0.heap.size, 2, none⟩ = false ∧ w3.frozen? ⟨W0.heap.size, 3, none⟩ = false := ⟨frozen_of_block hy3, frozen_of_block hy3, frozen_of_block hy3, frozen_of_block hy3⟩
  obtain ⟨y0, y1, y2, y3⟩ : w3.cell? ⟨W0.heap.size, 0, none⟩ = some (.pointer none) ∧ w3.cell? ⟨W0.heap.size, 1, none⟩ = some (.int .i64 0) ∧ w3.cell? ⟨W0.heap.size, 2, none⟩ = some (.int .i64 0) ∧ w3.cell? ⟨W0.heap.size, 3, none⟩ = some (.slice none 0 0) := by refine ⟨?_, ?_, ?_, ?_⟩ <;> (rw [cell_of_block hy3]; rfl)
  clear d0 d1 d2 d3 d4 HO HC
  obtain ⟨d0, d1, d2, d3, d4⟩ := fo_cells hx3
  have HY3 := Lib.hid hy3
  have HB3 := Lib.hid (HB2.out.trans (hb3.mono HB2.out.size))
  have HI3 := Lib.hid (hown3.is (W0.heap.size :: N) (fun k hk => by
    have hyl := block_lt HY2.out
    have hzz := HB2.out.size
    rcases List.mem_cons.1 hk with rfl | hk
    · exact hyl
    · have := HNL.out k hk; omega))
  have HPL := Lib.hid (show w.heap.size ≤ p by have := HB2.out.size; omega)
  have hyl := block_lt HY2.out
  have HNE := Lib.hid (show p ∉ [W0.heap.size] by simp; omega)
  clear hb3 hy3 hx3 hown3
  go_wp2_with fail
  refine bodyPost_ret (v := .tuple #[.agg #[.pointer (some ⟨p, 0, none⟩), .int .i64 F.leaf, .int .i64 F.depth, .slice aT F.T.length cT], .bool true]) (results_aggtmp rfl Try.isAgg30 Try.sizeOf30 _ _ rfl (heap_set4 HY3.out rfl _ _ _ _) rfl rfl) rfl ⟨p, rfl, HI3.out.upd (upd_set4 _ _ _ _ _ _) (fun k hk => by simp at hk; simp [hk]) HNE.out (fun k hk => .inl (by simp [hk])), ?_, HPL.out⟩
  exact HB3.out.trans (Upd.belowB (S := [W0.heap.size]) (upd_set4 _ _ _ _ _ _) HB3.out.size (by simp; omega))

theorem built_yes (vL vT : Value) (F : Fo) (w : World) (h : FoAt [] w vL vT F) (hs : F.small) (hyes : canB F) :
    Calls Try.prog 11 #[.agg #[.int .i64 F.dim, .int .i64 F.leaf, .int .i64 F.depth, vL, vT]] w fun e w' => ∃ p, e = .returned (.tuple #[.agg #[.pointer (some ⟨p, 0, none⟩), .int .i64 F.leaf, .int .i64 F.depth, vT], .bool true]) ∧ IsItems w' [] p F.dim F.L.flatten ∧ Below w.heap.size w w' :=
  (built_yes_n [] vL vT F w h hs hyes (by simp)).mono fun e w' ⟨p, h1, h2, h3, _⟩ => ⟨p, h1, h2, h3⟩

theorem slice_blk {α : Type} {K : Kd α} {N : List Nat} {w : World} {b : Nat} {t : TypeId} {cs : List Value} {l : List α} (h : w.heap[b]? = some (.cells cs.toArray t)) (hb : b ∉ N) (hsz : K.sz = 1) (hl : cs.length = l.length) (hm : l.length ≤ maxLen)
    (he : ∀ (i : Nat) (x : α), l[i]? = some x → ∃ v, cs[i]? = some v ∧ K.At N w [v] x) : K.slice.At N w [.slice (some ⟨b, 0, none⟩) l.length l.length] l := by
  refine ⟨⟨some ⟨b, 0, none⟩, l.length, rfl, Nat.le_refl _, hm, fun i x hi => ?_⟩⟩
  obtain ⟨v, hv, hat⟩ := he i x hi
  refine ⟨b, 0, rfl, ⟨block_lt h, hb⟩, block_lt h, [v], hat.out, fun j u hj => ?_⟩
  cases j with
  | zero =>
    simp at hj
    subst hj
    rw [cell_of_block h, hsz]
    simpa using hv
  | succ j => simp at hj
theorem ints_blk {k : IntKind} {N : List Nat} {w : World} {b : Nat} {t : TypeId} {l : List Int} (h : w.heap[b]? = some (.cells (l.map (Value.int k)).toArray t)) (hb : b ∉ N) (hm : l.length ≤ maxLen) (hw : ∀ x ∈ l, (Lit.int k x).wf = true) : (Kd.int k).slice.At N w [.slice (some ⟨b, 0, none⟩) l.length l.length] l :=
  slice_blk h hb rfl (by simp) hm (fun i x hi => ⟨.int k x, by rw [List.getElem?_map, hi]; rfl, ⟨⟨rfl, hw x (List.mem_of_getElem? hi)⟩⟩⟩)

def nd21 : Nd := ⟨true, [1, 0], ⟨[], 0⟩, 0, 0⟩
theorem nd21_at {w : World} {a b : Nat} (ha : w.heap[a]? = some (.cells #[.int .i64 1, .int .i64 0] 3)) (hb : w.heap[b]? = some (.cells #[.bool true, .slice (some ⟨a, 0, none⟩) 2 2, .slice none 0 0, .int .i64 0, .int .i64 0, .int .i64 0] 58)) :
    kNd.slice.At [] w [.slice (some ⟨b, 0, none⟩) 1 1] [nd21] := by
  have hn : NdAt [] w (.slice (some ⟨a, 0, none⟩) 2 2) (.slice none 0 0) nd21 := ⟨ints_blk (l := [1, 0]) ha (by simp) (by decide) (by decide), Kd.slice_nil _ _ _ none 0 (by simp [maxLen]), by decide, by decide, by decide⟩
  refine ⟨⟨some ⟨b, 0, none⟩, 1, rfl, Nat.le_refl _, by simp [maxLen], fun i y hy => ?_⟩⟩
  cases i with
  | zero =>
    simp at hy; subst hy
    refine ⟨b, 0, rfl, ⟨block_lt hb, by simp⟩, block_lt hb, _, hn.shut.out, fun j v hv => ?_⟩
    rw [cell_of_block hb]
    simpa [nd21, kNd] using hv
  | succ i => simp at hy

theorem gather21 : (gatherS [[nd21]] [5] 2 1 1 (beginS [[nd21]]) []).1.steps = 1 ∧ setUpTo 2 (gatherS [[nd21]] [5] 2 1 1 (beginS [[nd21]]) []).2 = [0, 1] := by decide +kernel
theorem sea21 : seaCheck 2 1 2 0 [[nd21]] [5] = 0 := by decide +kernel

set_option maxHeartbeats 4000000 in
set_option maxRecDepth 100000 in
theorem awake21_calls (w : World) : Calls Try.prog 10 #[] w fun e w' => e = .returned (.bool true) ∧ Below w.heap.size w w' := by
  obtain ⟨W1, hW1⟩ : ∃ W1, w.alloc (.cells #[.int .i32 0] 21) = W1 := ⟨_, rfl⟩
  obtain ⟨W2, hW2⟩ : ∃ W2, W1.alloc (.cells #[.int .i32 9] 21) = W2 := ⟨_, rfl⟩
  obtain ⟨W3, hW3⟩ : ∃ W3, W2.alloc (.cells #[.slice (some ⟨w.heap.size, 0, none⟩) 1 1, .slice (some ⟨W1.heap.size, 0, none⟩) 1 1] 26) = W3 := ⟨_, rfl⟩
  have hu1 : Upd [] w W1 := by rw [← hW1]; exact Upd.alloc [] w _
  have hu2 : Upd [] W1 W2 := by rw [← hW2]; exact Upd.alloc [] W1 _
  have hu3 : Upd [] W2 W3 := by rw [← hW3]; exact Upd.alloc [] W2 _
  have ha := upd_far (hu2.trans hu3) (show W1.heap[w.heap.size]? = some (.cells #[.int .i32 0] 21) by rw [← hW1]; exact Go.heap_alloc_new w _) (by simp)
  have hb := upd_far hu3 (show W2.heap[W1.heap.size]? = some (.cells #[.int .i32 9] 21) by rw [← hW2]; exact Go.heap_alloc_new W1 _) (by simp)
  have hc : W3.heap[W2.heap.size]? = some (.cells #[.slice (some ⟨w.heap.size, 0, none⟩) 1 1, .slice (some ⟨W1.heap.size, 0, none⟩) 1 1] 26) := by rw [← hW3]; exact Go.heap_alloc_new W2 _
  have HL := Lib.hid (slice_blk (K := (Kd.int .i32).slice) (N := []) (l := [[0], [9]]) (cs := [.slice (some ⟨w.heap.size, 0, none⟩) 1 1, .slice (some ⟨W1.heap.size, 0, none⟩) 1 1]) hc (by simp) rfl rfl (by decide) (fun i x hi => by
    match i, hi with
    | 0, hi => simp at hi; subst hi; exact ⟨_, rfl, ints_blk (l := [0]) ha (by simp) (by decide) (by decide)⟩
    | 1, hi => simp at hi; subst hi; exact ⟨_, rfl, ints_blk (l := [9]) hb (by simp) (by decide) (by decide)⟩
    | i + 2, hi => simp at hi))
  have HB3 := Lib.hid ((hu1.trans (hu2.trans hu3)).below)
  have HO := Lib.hid (of_calls_ok 1 _ [[0], [9]] [] W3 HL.out (by decide +kernel) (by decide))
  clear ha hb hc hu1 hu2 hu3 HL
  go_enter Try.func10, Try.ntmps10
  go_wp2_with fail
  refine HO.out.mono ?_
  rintro e w4 ⟨p, rfl, hp4, ⟨v4, hown4⟩, hb4⟩
  have HI4 := Lib.hid (hown4.is [] (by simp))
  have HB4 := Lib.hid (HB3.out.trans (hb4.mono HB3.out.size))
  obtain ⟨W5, hW5⟩ : ∃ W5, w4.alloc (.cells #[.int .i64 1, .int .i64 0] 3) = W5 := ⟨_, rfl⟩
  obtain ⟨W6, hW6⟩ : ∃ W6, W5.alloc (.cells #[.bool true, .slice (some ⟨w4.heap.size, 0, none⟩) 2 2, .slice none 0 0, .int .i64 0, .int .i64 0, .int .i64 0] 58) = W6 := ⟨_, rfl⟩
  obtain ⟨W7, hW7⟩ : ∃ W7, W6.alloc (.cells #[.slice (some ⟨W5.heap.size, 0, none⟩) 1 1] 43) = W7 := ⟨_, rfl⟩
  obtain ⟨W8, hW8⟩ : ∃ W8, W7.alloc (.cells #[.int .i32 5] 21) = W8 := ⟨_, rfl⟩
  have hu5 : Upd [] w4 W5 := by rw [← hW5]; exact Upd.alloc [] w4 _
  have hu6 : Upd [] W5 W6 := by rw [← hW6]; exact Upd.alloc [] W5 _
  have hu7 : Upd [] W6 W7 := by rw [← hW7]; exact Upd.alloc [] W6 _
  have hu8 : Upd [] W7 W8 := by rw [← hW8]; exact Upd.alloc [] W7 _
  have hd := upd_far (hu6.trans (hu7.trans hu8)) (show W5.heap[w4.heap.size]? = some (.cells #[.int .i64 1, .int .i64 0] 3) by rw [← hW5]; exact Go.heap_alloc_new w4 _) (by simp)
  have he := upd_far (hu7.trans hu8) (show W6.heap[W5.heap.size]? = some (.cells #[.bool true, .slice (some ⟨w4.heap.size, 0, none⟩) 2 2, .slice none 0 0, .int .i64 0, .int .i64 0, .int .i64 0] 58) by rw [← hW6]; exact Go.heap_alloc_new W5 _) (by simp)
  have hf := upd_far hu8 (show W7.heap[W6.heap.size]? = some (.cells #[.slice (some ⟨W5.heap.size, 0, none⟩) 1 1] 43) by rw [← hW7]; exact Go.heap_alloc_new W6 _) (by simp)
  have hg : W8.heap[W7.heap.size]? = some (.cells #[.int .i32 5] 21) := by rw [← hW8]; exact Go.heap_alloc_new W7 _
  have HT8 := Lib.hid (slice_blk (K := kNd.slice) (N := []) (l := [[nd21]]) (cs := [.slice (some ⟨W5.heap.size, 0, none⟩) 1 1]) hf (by simp) rfl rfl (by decide) (fun i x hi => by
    match i, hi with
    | 0, hi => simp at hi; subst hi; exact ⟨_, rfl, nd21_at hd he⟩
    | i + 1, hi => simp at hi))
  have HV8 := Lib.hid (ints_blk (k := .i32) (N := []) (l := [5]) hg (by simp) (by decide) (by decide))
  have hu48 := hu5.trans (hu6.trans (hu7.trans hu8))
  have HI8 := Lib.hid (HI4.out.below hu48.below)
  have HB8 := Lib.hid (HB4.out.trans (hu48.below.mono HB4.out.size))
  have HGA := gather_ok p 2 1 2 0 _ _ _ [[nd21]] [5] 1 W8 HI8.out (by decide) (by decide) HT8.out (fun t ht => by
    simp at ht; subst ht
    exact ⟨by decide, by decide, by simp [nd21]⟩) HV8.out sea21 (by decide) (by decide) (by decide) (by decide) (by decide)
  rw [show [[nd21]].flatten.length = 1 from rfl, gather21.1, gather21.2] at HGA
  have HGA := Lib.hid HGA
  clear hown4 hb4 hu5 hu6 hu7 hu8 hd he hf hg hu48 hW1 hW2 hW3 HT8 HV8 HI8 HI4 HO
  go_wp2_with fail
  refine HGA.out.mono ?_
  rintro e w9 ⟨v9, rfl, hat9, hb9⟩
  obtain ⟨W10, hW10⟩ : ∃ W10, w9.alloc (.cells #[.int .i64 0, .int .i64 1] 3) = W10 := ⟨_, rfl⟩
  have hu10 : Upd [] w9 W10 := by rw [← hW10]; exact Upd.alloc [] w9 _
  have hh : W10.heap[w9.heap.size]? = some (.cells #[.int .i64 0, .int .i64 1] 3) := by rw [← hW10]; exact Go.heap_alloc_new w9 _
  have HS := ref09_same_calls v9 _ [0, 1] [0, 1] [] W10 (hat9.below hu10.below) (ints_blk (k := .i64) (N := []) (l := [0, 1]) hh (by simp) (by decide) (by decide))
  rw [beq_self_eq_true] at HS
  have HS := Lib.hid HS
  have HB10 := Lib.hid ((HB8.out.trans (hb9.mono HB8.out.size)).trans (hu10.below.mono (by have := HB8.out.size; have := hb9.size; omega)))
  obtain ⟨a9, c9, rfl, _, _⟩ := slice_form' hat9
  clear hat9 hb9 hu10 hh hW5 hW6 hW7 hW8 HGA
  go_wp2_with fail
  refine HS.out.mono ?_
  rintro e w11 ⟨rfl, n11, rfl⟩
  go_wp2_with fail
  go_ret
  exact ⟨rfl, HB10.out.trans (bdN _ _ _)⟩

end Go.Proofs.Ytiplifkbegmeiaa
