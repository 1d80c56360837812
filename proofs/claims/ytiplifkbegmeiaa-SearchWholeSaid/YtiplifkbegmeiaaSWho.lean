/-
The law SearchWhole.
-/
import Derived.Test.YtiplifkbegmeiaaBuilt
import Derived.Test.YtiplifkbegmeiaaGaQ
import Derived.Sort.QuietIn
import Derived.RegionIn
namespace Go.Proofs.Ytiplifkbegmeiaa
set_option linter.unusedVariables false
set_option linter.unusedSimpArgs false
open Go.RowKit

theorem uponIn_round {l n : Nat} {P : Program} {o : Oper} {a : Act} {K : Act → World → Prop} {Q : Exit → Act → World → Prop} {r : Result Next} (h : o.uponIn Fence.wide n P a K Q r) : o.uponIn (Fence.wide.inRound l) n P a K Q r := by
  cases r with
  | ok x w' => cases x <;> exact h
  | _ => exact h
theorem wpIn_op_round {l n : Nat} {P : Program} {o : Oper} {a : Act} {w : World} {K : Act → World → Prop} {Q : Exit → Act → World → Prop} (hd : ∀ c, o.op ≠ .defer c) (h : o.wpIn Fence.wide n P a w K Q) : o.wpIn (Fence.wide.inRound l) n P a w K Q := by
  refine ⟨h.1, ?_⟩
  have h2 := h.2
  rw [Oper.semAt_eq _ _ _ hd] at h2 ⊢
  exact uponIn_round h2
theorem wpAnyIn_round {l n : Nat} {P : Program} {md : Region.Mode} {ops : Array Oper} {Q : Exit → Act → World → Prop} (hd : ∀ (i : Nat) o, ops[i]? = some o → ∀ c, o.op ≠ .defer c) :
    ∀ (fuel : Nat) (listed : Array Bool) (a : Act) (w : World), wpAnyIn Fence.wide n P md ops Q fuel listed a w → wpAnyIn (Fence.wide.inRound l) n P md ops Q fuel listed a w
  | 0, _, _, _, h => h
  | fuel + 1, listed, a, w, h => by
    refine ⟨h.1, fun i hi => ?_⟩
    have h2 := h.2 i hi
    unfold wpOpIn at h2 ⊢
    cases ho : ops[i]? with
    | none => rw [ho] at h2; exact wpAnyIn_round hd fuel _ _ _ h2
    | some o =>
      rw [ho] at h2
      simp only at h2 ⊢
      split
      · rename_i hw
        rw [if_pos hw] at h2
        exact wpIn_op_round (hd i o ho) (Oper.wpIn_mono (fun a w => wpAnyIn_round hd fuel _ a w) h2)
      · rename_i hw
        rw [if_neg hw] at h2
        exact ⟨h2.1, wpAnyIn_round hd fuel _ _ _ h2.2⟩
def noDefer (ops : List Oper) : Bool := ops.all (fun o => match o.op with | .defer _ => false | _ => true)
theorem noDefer_ok {ops : List Oper} (h : noDefer ops = true) : ∀ (i : Nat) o, ops.toArray[i]? = some o → ∀ c, o.op ≠ .defer c := fun i o ho c e => by
  have := List.all_eq_true.1 h o (List.mem_of_getElem? (by simpa using ho))
  rw [e] at this
  simp at this
theorem wpIn_region_round {l n id : Nat} {P : Program} {Q : Exit → Act → World → Prop} {a : Act} {w : World} {ops : List Oper} (hm : P.follows .mixedOrders = true) (hd : noDefer ops = true)
    (h : wpAnyIn Fence.wide n P .any ops.toArray Q ops.toArray.size (Array.replicate ops.toArray.size false) a w.drew) : (Code.region id ops.toArray true).wpIn (Fence.wide.inRound l) n P Q a w :=
  wpIn_region_any hm (wpAnyIn_round (noDefer_ok hd) _ _ _ _ h)
theorem wpIn_quiet_round {l n id : Nat} {P : Program} {Q : Exit → Act → World → Prop} {a : Act} {w : World} {ops : List Oper} (hm : P.follows .mixedOrders = true) (hB : Region.lexB .any ops.toArray = true) (hd : noDefer ops = true)
    (h : wpQuietIn Fence.wide n P ops.toArray (fun w' => ∃ m, w' = w.drewN m) (fun a' => ∀ w', (∃ m, w' = w.drewN m) → Q .normal a' w') ops a) : (Code.region id ops.toArray true).wpIn (Fence.wide.inRound l) n P Q a w := by
  simp only [Region.lexB, Bool.and_eq_true] at hB
  refine wpIn_region_any hm (wpAnyIn_round (noDefer_ok hd) _ _ _ _ (wpAnyIn_of_quiet (Q := fun a' => ∀ w', (∃ m, w' = w.drewN m) → Q .normal a' w') rfl (fun _ w' hw' h => h w' hw') _ _ _ _ ⟨1, rfl⟩ ?_))
  have := wpAnyQIn_lex (F := Fence.wide) (n := n) (C := fun w' => ∃ m, w' = w.drewN m) (md := .any) hB.1 ops 0 (Array.replicate ops.toArray.size false) a (by simp) (by simpa using hB.2) h
  simpa using this

theorem covers_one {n : Nat} {xs : List (List Int)} (h : covers n xs = true) (x : Int) (h0 : 0 ≤ x) (h1 : x < (n : Int)) : xs.flatten.count x = 1 := by
  have hm := covers_has h x h0 h1
  have hn : xs.flatten.Nodup := by
    unfold covers at h
    rw [Int.toNat_natCast] at h
    split at h
    · rename_i S hS
      exact ((coversGo_spec n xs.flatten [] (by simp)).1 S hS).2.2 |> fun a2 => by simpa using a2
    · simp at h
  exact hn.count.trans (if_pos hm)
theorem whole_count {n : Nat} {dim : Int} : ∀ T : List (List Nd), (∀ t ∈ T, checkNd t n dim = 0) → ∀ x : Int, 0 ≤ x → x < (n : Int) → ((T.map leavesOf).flatten).flatten.count x = T.length
  | [], _, x, _, _ => by simp
  | t :: T, h, x, h0, h1 => by
    have hc := (lay_of_check (h t (by simp))).choose_spec.2.2.2.2
    have ih := whole_count T (fun t ht => h t (by simp [ht])) x h0 h1
    simp only [List.map_cons, List.flatten_cons, List.flatten_append, List.count_append, List.length_cons]
    rw [covers_one hc x h0 h1, ih]
    omega
theorem whole_all {T : List (List Nd)} {n : Nat} {dim : Int} {v : List Int} (hv : Bd21 v) (h : ∀ t ∈ T, checkNd t n dim = 0) : (∀ x : Int, 0 ≤ x → x < (n : Int) → (leavesS T v T.flatten.length (beginS T)).flatten.count x = T.length) ∧
    (∀ l ∈ leavesS T v T.flatten.length (beginS T), ∀ x ∈ l, 0 ≤ x ∧ x < (n : Int)) ∧ (leavesS T v T.flatten.length (beginS T)).length = ((T.map leavesOf).flatten).length := by
  have hp := leaves_perm hv h
  refine ⟨fun x h0 h1 => ?_, fun l hl x hx => ?_, hp.length_eq⟩
  · rw [hp.flatten.count_eq]
    exact whole_count T h x h0 h1
  · obtain ⟨l', hl', hxl⟩ := List.mem_flatten.1 (hp.subset hl)
    obtain ⟨t, ht, rfl⟩ := List.mem_map.1 hl'
    have hc := (lay_of_check (h t ht)).choose_spec.2.2.2.2
    unfold covers at hc
    rw [Int.toNat_natCast] at hc
    split at hc
    · rename_i S hS
      obtain ⟨e, a1, a2⟩ := (coversGo_spec n (leavesOf t).flatten [] (by simp)).1 S hS
      exact a1 x (List.mem_flatten.2 ⟨l, hxl, hx⟩)
    · simp at hc

/-- How often each of n is met, as memory has it. -/
def cntV (n : Nat) (l : List Int) : Array Value := ((List.range n).map (fun i : Nat => Value.int .i64 (l.count (i : Int) : Int))).toArray
theorem cntV_get {n : Nat} (l : List Int) {i : Nat} (h : i < n) : (cntV n l)[i]? = some (.int .i64 (l.count (i : Int) : Int)) := by
  simp [cntV, h]
theorem cntV_set {n : Nat} (l : List Int) {i : Nat} (h : i < n) : (cntV n l).setIfInBounds i (.int .i64 ((l.count (i : Int) : Int) + 1)) = cntV n (l ++ [(i : Int)]) := by
  apply Array.ext_getElem?
  intro j
  rw [Array.getElem?_setIfInBounds]
  by_cases hij : i = j
  · subst hij
    have hs : i < (cntV n l).size := by simp [cntV, h]
    rw [cntV_get (l ++ [(i : Int)]) h]
    simp [hs, List.count_append]
  · simp only [hij, if_false]
    by_cases hj : j < n
    · rw [cntV_get _ hj, cntV_get _ hj, List.count_append]
      have : List.count (j : Int) [(i : Int)] = 0 := by
        rw [List.count_eq_zero]; simp; omega
      rw [this]; simp
    · simp [cntV, hj]
theorem cntV_nil (n : Nat) : cntV n [] = (List.replicate n (Value.int .i64 0)).toArray := by
  unfold cntV
  congr 1
  apply List.ext_getElem
  · simp
  · intro i h1 h2; simp

theorem made_int (m : Nat) (hm : m ≤ 1099511627776) (w : World) :
    (Instr.makeSlice 33 (.int .i64 (m : Int)) (.int .i64 (m : Int))).run Try.prog w = .ok (.slice (some ⟨w.heap.size, 0, none⟩) m m) (w.alloc (.cells (cntV m []) 3)) := by
  obtain ⟨i0, hi, hz0, hz1, hz2⟩ := info_parts A.infoInt
  have h := run_make (P := Try.prog) w 33 3 i0 _ Try.underlying33 hi hz0 .i64 .i64 m m (by omega) (by omega) (by rw [hz2]; omega) (by omega)
  rw [h, hz1, Nat.mul_one]
  simp only [Int.toNat_natCast, Value.cells]
  rw [madeCells_zero, cntV_nil]

def wantOf (T : List (List Nd)) : Int := (((T.map leavesOf).flatten).length : Int)
theorem wantOf_snoc {T : List (List Nd)} {k : Nat} {t : List Nd} (h : T[k]? = some t) : wantOf (T.take (k + 1)) = wantOf (T.take k) + (leavesOf t).length := by
  unfold wantOf
  rw [take_snoc' h]
  simp
theorem leavesOf_le (t : List Nd) : (leavesOf t).length ≤ t.length := by unfold leavesOf; rw [List.length_map]; exact List.length_filter_le _ _
theorem wantOf_le : ∀ (T : List (List Nd)), 0 ≤ wantOf T ∧ wantOf T ≤ (T.flatten.length : Int)
  | [] => by simp [wantOf]
  | t :: T => by
    have ih := wantOf_le T
    have := leavesOf_le t
    unfold wantOf at ih ⊢
    simp only [List.map_cons, List.flatten_cons, List.length_append]
    omega

attribute [local go_sem] Oper.semAt_some

set_option maxHeartbeats 4000000 in
set_option maxRecDepth 100000 in
theorem searchWhole_calls (vL vT vv : Value) (F : Fo) (v : List Int) (w : World) (h : FoAt [] w vL vT F) (hs : F.small) (hv : (Kd.int .i32).slice.At [] w [vv] v) :
    Calls Try.prog 8 #[.agg #[.int .i64 F.dim, .int .i64 F.leaf, .int .i64 F.depth, vL, vT], vv] w fun e w' => e = .returned (.bool true) ∧ Below w.heap.size w w' := by
  obtain ⟨aL, cL, rfl, hlL, hcL⟩ := Kd.slice_form h.L
  obtain ⟨aT, cT, rfl, hlT, hcT⟩ := Kd.slice_form h.T
  obtain ⟨av, cv, rfl, hlv, hcv⟩ := Kd.slice_form hv
  unfold maxLen at hcL hcT hcv
  obtain ⟨Wa, hWa⟩ : ∃ W0, w.alloc (foObj (.slice aL F.L.length cL) (.slice aT F.T.length cT) F) = W0 := ⟨_, rfl⟩
  have hua : Upd [] w Wa := by rw [← hWa]; exact Upd.alloc [] w _
  have hxa : Wa.heap[w.heap.size]? = some (foObj (.slice aL F.L.length cL) (.slice aT F.T.length cT) F) := by rw [← hWa]; exact Go.heap_alloc_new w _
  unfold foObj at hWa
  obtain ⟨W0, hW0⟩ : ∃ W0, Wa.alloc (.cells #[.bool false] 4) = W0 := ⟨_, rfl⟩
  have hrb0 : RB 4 Wa W0 := by rw [← hW0]; exact RB.start _ Wa
  have RB0 := Lib.hid hrb0
  have hzw : w.heap.size < Wa.heap.size := block_lt hxa
  have hz0 := hrb0.lt
  have HBB : Hid (Below w.heap.size w Wa) := Lib.hid hua.below
  have HB0 : Hid (Below w.heap.size w W0) := Lib.hid (HBB.out.trans (hrb0.below.mono HBB.out.size))
  have HX0 := Lib.hid ((hrb0.below.block _ (by omega)).trans hxa)
  have HH := Lib.hid h
  have HHV := Lib.hid hv
  have HA := Lib.hid (awake21_calls W0)
  have HS := Lib.hid hs
  clear h hs hv hua hxa hrb0
  refine calls_of_wp_marks Try.func8 rfl ?_
  simp only [Try.ntmps8, List.size_toArray, List.length_cons, List.length_nil, Nat.reduceAdd, Nat.reduceSub, Array.replicate_succ, Array.replicate_zero, List.push_toArray, List.append_toArray, List.nil_append, List.cons_append]
  go_wp2_with fail
  refine HA.out.mono ?_
  rintro e w1 ⟨rfl, hb1⟩
  have hz1 := hb1.size
  have RB1 := Lib.hid (RB0.out.call hb1)
  have HB1 := Lib.hid (HB0.out.trans (hb1.mono HB0.out.size))
  have HX1 := Lib.hid ((hb1.block _ (block_lt HX0.out)).trans HX0.out)
  obtain ⟨d0, d1, d2, d3, d4⟩ := fo_cells HX1.out
  clear hb1 HX0 HA HB0 RB0 hW0 hWa
  by_cases hcb : canB F
  · have HBU := Lib.hid (built_yes_n [Wa.heap.size] _ _ F w1 (HH.out.below HB1.out) HS.out hcb (by simp; omega))
    have HCB := Lib.hid hcb
    clear hcb
    go_wp2_with fail
    refine HBU.out.mono ?_
    rintro e w2 ⟨p, rfl, hi2, hb2, hp2⟩
    have hz2 := hb2.size
    have RB2 := RB1.out.call hb2
    obtain ⟨W3, hW3⟩ : ∃ W3, w2.alloc (.cells #[.pointer none, .int .i64 0, .int .i64 0, .slice none 0 0] 30) = W3 := ⟨_, rfl⟩
    have hu3 : Upd [] w2 W3 := by rw [← hW3]; exact Upd.alloc [] w2 _
    have hy3 : W3.heap[w2.heap.size]? = some (.cells #[.pointer none, .int .i64 0, .int .i64 0, .slice none 0 0] 30) := by rw [← hW3]; exact Go.heap_alloc_new w2 _
    obtain ⟨z0, z1, z2, z3⟩ : W3.frozen? ⟨w2.heap.size, 0, none⟩ = false ∧ W3.frozen? ⟨w2.heap.size, 1, none⟩ = false ∧ W3.frozen? ⟨w2.heap.size, 2, none⟩ = false ∧ W3.frozen? ⟨w2.heap.size, 3, none⟩ = false := ⟨frozen_of_block hy3, frozen_of_block hy3, frozen_of_block hy3, frozen_of_block hy3⟩
    obtain ⟨y0, y1, y2, y3⟩ : W3.cell? ⟨w2.heap.size, 0, none⟩ = some (.pointer none) ∧ W3.cell? ⟨w2.heap.size, 1, none⟩ = some (.int .i64 0) ∧ W3.cell? ⟨w2.heap.size, 2, none⟩ = some (.int .i64 0) ∧ W3.cell? ⟨w2.heap.size, 3, none⟩ = some (.slice none 0 0) := by refine ⟨?_, ?_, ?_, ?_⟩ <;> (rw [cell_of_block hy3]; rfl)
    obtain ⟨W4, hW4⟩ : ∃ W4, (((W3.setCell ⟨w2.heap.size, 0, none⟩ (.pointer (some ⟨p, 0, none⟩))).setCell ⟨w2.heap.size, 1, none⟩ (.int .i64 F.leaf)).setCell ⟨w2.heap.size, 2, none⟩ (.int .i64 F.depth)).setCell ⟨w2.heap.size, 3, none⟩ (.slice aT F.T.length cT) = W4 := ⟨_, rfl⟩
    have hu4 : Upd [w2.heap.size] W3 W4 := by rw [← hW4]; exact upd_set4 _ _ _ _ _ _
    have hy4 : W4.heap[w2.heap.size]? = some (.cells #[.pointer (some ⟨p, 0, none⟩), .int .i64 F.leaf, .int .i64 F.depth, .slice aT F.T.length cT] 30) := by rw [← hW4]; exact heap_set4 hy3 rfl _ _ _ _
    have hb4 : Below w2.heap.size w2 W4 := hu3.below.trans (hu4.belowB hu3.size (by simp))
    have hz4 := hb4.size
    have hlt4 := block_lt hy4
    have RB4 := Lib.hid (RB2.call hb4)
    have hbb := hb2.trans (hb4.mono hz2)
    have HI4 := Lib.hid (hi2.below hb4)
    have HB4 := Lib.hid (HB1.out.trans (hbb.mono HB1.out.size))
    have HX4 := Lib.hid ((hbb.block _ (block_lt HX1.out)).trans HX1.out)
    clear d0 d1 d2 d3 d4
    obtain ⟨d0, d1, d2, d3, d4⟩ := fo_cells HX4.out
    obtain ⟨c0, c1, c2, c3⟩ := lay_cells hy4
    have HY4 := Lib.hid hy4
    have hc4 := RB4.out.c
    have hf4 := RB4.out.f
    have hpl : p < w2.heap.size := by obtain ⟨_, h1, _⟩ := hi2.out; exact block_lt h1
    clear hb2 hi2 hu3 hy3 hu4 hb4 hy4 HX1 HB1 HBU RB1 RB2 hbb
    obtain ⟨f1, f2, f3, f4, f5, f6⟩ := few16_ok HCB.out.1
    have hdim := (dataCheck_ok HCB.out.2).1
    have hfl := flat_lenF HCB.out.2
    have HI4' := Lib.hid (HI4.out.upd (Upd.refl [] _) (by simp) (by simp) (N' := []) (by simp))
    obtain ⟨lc, hlc⟩ : ∃ c, layCheck F.L.length F.dim F.leaf F.depth F.T = c := ⟨_, rfl⟩
    obtain ⟨vc, hvc⟩ : ∃ c, vecCheck v F.dim = c := ⟨_, rfl⟩
    have HLC := layout_check_calls p F.L.length F.dim F.leaf F.depth F.L.flatten _ F.T [] W4 HI4'.out hdim hfl (HH.out.T.below HB4.out) f6
    rw [hlc] at HLC
    have HLC := Lib.hid HLC
    have HVC : Hid (∀ W, Below W4.heap.size W4 W → Calls Try.prog 21 #[.slice av v.length cv, .int .i64 F.dim] W fun e w' => e = .returned (.int .i64 vc) ∧ W = w') := Lib.hid (fun W hW => by
      rw [← hvc]; exact ref03_check_calls _ v F.dim [] W (HHV.out.below (HB4.out.trans (hW.mono HB4.out.size))))
    by_cases hl0 : lc = 0
    · subst hl0
      by_cases hv0 : vc = 0
      · subst hv0
        obtain ⟨lz3, lzT, lzn⟩ := lay_zero hlc
        have hc : seaCheck F.L.length F.dim F.leaf F.depth F.T v = 0 := by
          unfold seaCheck
          rw [hlc, if_neg (by simp), hvc]
        have HVB := Lib.hid (Bd21.vec hvc).1
        have hidf := ids_few HVB.out lz3 f5
        obtain ⟨hcnt, hrng, hnum⟩ := whole_all HVB.out lz3
        have hxl := leavesS_len F.T v F.T.flatten.length (beginS F.T)
        obtain ⟨xs, hxs⟩ : ∃ xs, leavesS F.T v F.T.flatten.length (beginS F.T) = xs := ⟨_, rfl⟩
        have hif : xs = if seaCheck F.L.length F.dim F.leaf F.depth F.T v = 0 then leavesS F.T v F.T.flatten.length (beginS F.T) else [] := by rw [hc, if_pos rfl, hxs]
        rw [hxs] at hidf hxl hcnt hrng hnum
        have hxl : xs.length ≤ 600 := by omega
        have HCNT := Lib.hid hcnt
        have HRNG := Lib.hid hrng
        have HNUM : Hid ((xs.length : Int) = wantOf F.T) := Lib.hid (by unfold wantOf; omega)
        have HIDF := Lib.hid hidf
        have HLV : Hid (∀ (N : List Nat) (W : World), Below W4.heap.size W4 W → (∀ k, k ∈ N → k < W.heap.size ∧ (k = Wa.heap.size ∨ W4.heap.size ≤ k)) → _) := Lib.hid (fun N W hW hN => search_leaves_calls p F.L.length F.dim F.leaf F.depth F.L.flatten _ _ F.T v W N (fun k hk => (hN k hk).1)
            (fun hm => by rcases (hN p hm).2 with h | h <;> omega) (HI4.out.upd (Upd.ofBelow hW []) (by simp) (by simp) (fun k hk => by rcases (hN k hk).2 with h | h <;> simp [h])) hdim hfl
            (HH.out.T.upd (Upd.ofBelow (HB4.out.trans (hW.mono HB4.out.size)) []) (by simp) (fun k hk => by rcases (hN k hk).2 with h | h <;> exact .inr (by omega))) f6
            (HHV.out.upd (Upd.ofBelow (HB4.out.trans (hW.mono HB4.out.size)) []) (by simp) (fun k hk => by rcases (hN k hk).2 with h | h <;> exact .inr (by omega))) (by omega) (by omega) xs hif (fun x hx => by have := hidf x hx; omega))
        have HTL : Hid (F.T.length ≤ 300 ∧ F.T.flatten.length ≤ 600 ∧ F.L.length ≤ 301) := Lib.hid ⟨f3, f4, f1⟩
        have hMK := fun w => made_int F.L.length (by omega) w
        have HMK := Lib.hid hMK
        clear f1 f2 f3 f4 f5 f6 hdim hfl hc lz3 lzT lzn hidf hif hxs hcnt hrng hnum hlc hvc hMK
        go_wp2_with fail
        refine HLC.out.mono ?_
        rintro e w5 ⟨rfl, hb5⟩
        have HVC5 := Lib.hid (HVC.out w5 hb5)
        have hz5 := hb5.size
        have RB5 := RB4.out.call hb5
        have HX5 := Lib.hid ((hb5.block _ (block_lt HX4.out)).trans HX4.out)
        have hmk5 := HMK.out w5
        clear c0 c1 c2 c3 d0 d1 d2 d3 d4
        obtain ⟨d0, d1, d2, d3, d4⟩ := fo_cells HX5.out
        obtain ⟨W7, hW7⟩ : ∃ W7, ((w5.alloc (.cells (cntV F.L.length []) 3)).alloc (.cells #[.slice (some ⟨w5.heap.size, 0, none⟩) F.L.length F.L.length] 33)).alloc (.cells #[.int .i64 0] 3) = W7 := ⟨_, rfl⟩
        have hu7 : Upd [] w5 W7 := by rw [← hW7]; exact ((Upd.alloc [] w5 _).trans (Upd.alloc [] _ _)).trans (Upd.alloc [] _ _)
        have hcb7 : W7.heap[w5.heap.size]? = some (.cells (cntV F.L.length []) 3) := by rw [← hW7]; exact (Below.heap_alloc _ _ _ (by simp; omega)).trans (alloc2_fst w5 _ _)
        have hcc7 : W7.heap[w5.heap.size + 1]? = some (.cells #[.slice (some ⟨w5.heap.size, 0, none⟩) F.L.length F.L.length] 33) := by rw [← hW7]; exact (Below.heap_alloc _ _ _ (by simp)).trans (alloc2_snd w5 _ _)
        have hlc7 : W7.heap[w5.heap.size + 2]? = some (.cells #[.int .i64 0] 3) := by
          rw [← hW7]
          have := Go.heap_alloc_new ((w5.alloc (.cells (cntV F.L.length []) 3)).alloc (.cells #[.slice (some ⟨w5.heap.size, 0, none⟩) F.L.length F.L.length] 33)) (.cells #[.int .i64 0] 3)
          simpa using this
        have hz7 : W7.heap.size = w5.heap.size + 3 := by rw [← hW7]; simp
        have RB7 := Lib.hid (RB5.upd hu7 (by simp))
        have hb7 : Below W4.heap.size W4 W7 := hb5.trans (hu7.below.mono hb5.size)
        have HB7 := Lib.hid hb7
        have HCB7 := Lib.hid hcb7
        have HCC7 := Lib.hid hcc7
        have HLC7 := Lib.hid hlc7
        have HX7 := Lib.hid (upd_far hu7 HX5.out (by simp))
        have HL7 := HLV.out [w5.heap.size, w5.heap.size + 2] W7 hb7 (fun k hk => by simp at hk; omega)
        obtain ⟨c0, c1, c2, c3⟩ := lay_cells ((hb7.block _ (block_lt HY4.out)).trans HY4.out)
        rw [← hW7] at HL7 c0 c1 c2 c3
        have HL7 := Lib.hid HL7
        have HW7 := Lib.hid hW7
        clear hb5 hu7 hcb7 hcc7 hlc7 hb7 hW7 hW3 hW4 z0 z1 z2 z3 y0 y1 y2 y3 hc4 hf4 HLV HLC RB5 HMK
        go_wp2_with fail
        refine HVC5.out.mono ?_
        rintro e w6 ⟨rfl, hw6⟩
        subst hw6
        go_wp2_with fail
        refine HL7.out.mono ?_
        rw [HW7.out]
        rintro e w8 ⟨b1, b2, rfl, hb8, hit⟩
        have hz8 := hb8.size
        have RB8 := Lib.hid (RB7.out.call hb8)
        have HB8 := Lib.hid (HB7.out.trans (hb8.mono HB7.out.size))
        have HCB8 := Lib.hid ((hb8.block _ (block_lt HCB7.out)).trans HCB7.out)
        have HCC8 := Lib.hid ((hb8.block _ (block_lt HCC7.out)).trans HCC7.out)
        have HLC8 := Lib.hid ((hb8.block _ (block_lt HLC7.out)).trans HLC7.out)
        have HX8 := Lib.hid ((hb8.block _ (block_lt HX7.out)).trans HX7.out)
        have HT8 := Lib.hid (HH.out.T.upd (Upd.ofBelow (HB4.out.trans (HB8.out.mono HB4.out.size)) []) (by simp) (M' := [w5.heap.size, w5.heap.size + 2]) (fun k hk => .inr (by simp at hk; omega)))
        have HIT := Lib.hid hit
        clear hb8 hit HL7 c0 c1 c2 c3 hmk5 d0 d1 d2 d3 d4
        go_wp2_with fail
        refine wp_range (xs := xs) (val := valInts) [w5.heap.size, w5.heap.size + 2] rfl (enters_it Try.func38 rfl rfl) (fun W hu hsz => ?_)
          (fun pre M W => M = [w5.heap.size, w5.heap.size + 2] ∧ Hid (W.heap[w5.heap.size]? = some (.cells (cntV F.L.length pre.flatten) 3)) ∧ Hid (W.heap[w5.heap.size + 2]? = some (.cells #[.int .i64 pre.length] 3)) ∧ Hid (Upd [w5.heap.size, w5.heap.size + 2] w8 W))
          (fun c pre M W => False) ?_ ?_ ?_ ?_ ?_ ?_ ?_ ?_ ?_
        · exact HIT.out W _ _ (hu.mono (by simp)) (by omega) (fun k hk => .inl hk)
        · rintro pre M W W' S hS ⟨rfl, a1, a2, a5⟩ hu
          exact ⟨rfl, Lib.hid (upd_far hu a1.out (fun h => (hS _ h).2 (by simp))), Lib.hid (upd_far hu a2.out (fun h => (hS _ h).2 (by simp))), Lib.hid (a5.out.trans' hu (fun k hk => .inr (hS k hk).1))⟩
        · rintro c pre M W W' S hS h _
          exact h.elim
        · rintro M W W' x args ⟨v, rfl, hv⟩ hu
          exact ⟨v, rfl, hv.upd hu (by simp) (fun k hk => .inl hk)⟩
        · rintro W M x args ⟨v, rfl, hv⟩
          rfl
        · exact ⟨rfl, HCB8, HLC8, Lib.hid (Upd.refl _ _)⟩
        · simp
          omega
        · rintro l0 pre x rest M W0' W args hxs ⟨rfl, a1, a2, a5⟩ ⟨vi, rfl, hvi⟩ _ hl1 hl2 hl3 hM
          obtain ⟨ai, ci, rfl, hci1, hci2⟩ := slice_form' hvi
          unfold maxLen at hci2
          have hxm : x ∈ xs := by rw [hxs]; simp
          have hx5 := HIDF.out x hxm
          have HRX := Lib.hid (HRNG.out x hxm)
          have hpl : pre.length < 600 := by rw [hxs] at hxl; simp at hxl; omega
          have HCX : Hid (∀ (k : Nat) (y : Int), 0 ≤ y → y < (F.L.length : Int) → (pre.flatten ++ x.take k).count y ≤ 300) := Lib.hid (fun k y h0 h1 => by
            have e1 := HCNT.out y h0 h1
            have e2 := HTL.out.1
            have e3 : (pre.flatten ++ x.take k).count y ≤ xs.flatten.count y := by
              rw [hxs, List.flatten_append, List.flatten_cons]
              refine List.Sublist.count_le _ ?_
              exact (List.Sublist.refl _).append ((List.take_sublist _ _).trans (List.sublist_append_left _ _))
            omega)
          have hc : W.cell? ⟨w5.heap.size + 2, 0, none⟩ = some (.int .i64 pre.length) := by rw [cell_of_block a2.out]; rfl
          have hf : W.frozen? ⟨w5.heap.size + 2, 0, none⟩ = false := frozen_of_block a2.out
          obtain ⟨W1, hW1⟩ : ∃ W1, W.setCell ⟨w5.heap.size + 2, 0, none⟩ (.int .i64 ((pre.length : Int) + 1)) = W1 := ⟨_, rfl⟩
          have hu1 : Upd [w5.heap.size + 2] W W1 := by rw [← hW1]; exact Upd.setCell (by simp) _
          have hl1c : W1.heap[w5.heap.size + 2]? = some (.cells #[.int .i64 ((pre.length : Int) + 1)] 3) := by rw [← hW1]; simpa using heap_setCell_same W (w5.heap.size + 2) 0 _ _ (.int .i64 ((pre.length : Int) + 1)) a2.out
          have HLC1 := Lib.hid hl1c
          have HCB1 := Lib.hid (upd_far hu1 a1.out (by simp))
          have HCC1 := Lib.hid (upd_far hu1 (upd_far a5.out HCC8.out (by simp)) (by simp))
          have HU1 := Lib.hid hu1
          have HX1' := Lib.hid (upd_far hu1 (upd_far a5.out HX8.out (by simp; omega)) (by simp; omega))
          have HVI1 := Lib.hid (hvi.upd hu1 (by simp) (fun k hk => .inl hk))
          have HMW := Lib.hid hM
          have hFL := HTL.out.2.2
          clear hxs hvi hM hl3 hu1 hl1c
          gi_wp2
          refine ⟨trivial, ?_⟩
          gi_wp2
          gi_loopw [10] (fun i wr => ∃ k : Nat, k ≤ x.length ∧ i = .int .i64 k ∧ Hid (wr.heap[w5.heap.size]? = some (.cells (cntV F.L.length (pre.flatten ++ x.take k)) 3)) ∧ Hid (Upd [w5.heap.size] W1 wr)) (fun i _ => x.length - (intOf i).toNat)
          case atStart => exact ⟨0, Nat.zero_le _, rfl, Lib.hid (by simpa using HCB1.out), Lib.hid (Upd.refl _ _)⟩
          case round =>
            obtain ⟨k, hk, rfl, hcb, hu⟩ := hrel
            by_cases hlt : k < x.length
            · obtain ⟨y, hy⟩ : ∃ y, x[k]? = some y := ⟨_, List.getElem?_eq_getElem hlt⟩
              obtain ⟨hy0, hy1⟩ := HRX.out y (List.mem_of_getElem? hy)
              obtain ⟨j, rfl⟩ : ∃ j : Nat, y = (j : Int) := ⟨y.toNat, by omega⟩
              have hjn : j < F.L.length := by omega
              obtain ⟨b, o, c, hvv, _, _, _, _, e0, _⟩ := ints_at (HVI1.out.upd hu.out (by simp) (M' := []) (by simp)) hy
              simp at hvv
              obtain ⟨rfl, rfl⟩ := hvv
              have hcc := cell_of_block (upd_far hu.out HCC1.out (by simp)) (i := 0)
              have hcc : wr.cell? ⟨w5.heap.size + 1, 0, none⟩ = some (.slice (some ⟨w5.heap.size, 0, none⟩) F.L.length F.L.length) := by rw [hcc]; rfl
              have hcx := HCX.out k (j : Int) hy0 hy1
              obtain ⟨CN, hCN⟩ : ∃ N : Int, ((pre.flatten ++ x.take k).count (j : Int) : Int) = N := ⟨_, rfl⟩
              have hcj : wr.cell? ⟨w5.heap.size, j, none⟩ = some (.int .i64 CN) := by rw [cell_of_block hcb.out]; rw [← hCN]; exact cntV_get _ hjn
              have hfj : wr.frozen? ⟨w5.heap.size, j, none⟩ = false := frozen_of_block hcb.out
              have hset : ∀ nq, (((wr.drewN nq).drew).setCell ⟨w5.heap.size, j, none⟩ (.int .i64 (CN + 1))).heap[w5.heap.size]? = some (.cells (cntV F.L.length (pre.flatten ++ x.take (k + 1))) 3) := fun nq => by
                rw [take_snoc' hy, ← List.append_assoc, ← cntV_set _ hjn, hCN]
                exact heap_setCell_same ((wr.drewN nq).drew) w5.heap.size j _ _ _ hcb.out
              have HSET := Lib.hid hset
              have hcn0 : 0 ≤ CN ∧ CN ≤ 300 := by omega
              have hwr : IntKind.i64.wrap (CN + 1) = CN + 1 := IntWalk.i64_in _ ⟨by omega, by omega⟩
              have q0 : decide ((j : Int) < 0) = false := by simp
              have q1 : decide ((F.L.length : Int) ≤ (j : Int)) = false := by simp; try omega
              have i0 : (0 : Int) ≤ (k : Int) := by omega
              have i1 : (k : Int) < (x.length : Int) := by omega
              have i2 : (0 : Int) ≤ (j : Int) := by omega
              have i3 : (j : Int) < (F.L.length : Int) := by omega
              clear hy hcx hCN hset hcb
              -- REGION
              gi_wp2
              refine wpIn_quiet_round (by kernel_rfl) (by kernel_rfl) rfl ?_
              repeat (gi_big_quiet_step (fail))
              refine wpQuietIn_nil ?_
              intro _ hw'
              obtain ⟨nq, hw''⟩ := hw'
              subst hw''
              have e0' : (wr.drewN nq).drew.cell? ⟨b, o + k, none⟩ = some (.int .i64 (j : Int)) := e0
              have hcc' : (wr.drewN nq).drew.cell? ⟨w5.heap.size + 1, 0, none⟩ = some (.slice (some ⟨w5.heap.size, 0, none⟩) F.L.length F.L.length) := hcc
              have hcj' : (wr.drewN nq).drew.cell? ⟨w5.heap.size, j, none⟩ = some (.int .i64 CN) := hcj
              have hfj' : (wr.drewN nq).drew.frozen? ⟨w5.heap.size, j, none⟩ = false := hfj
              gi_wp2
              refine wpIn_region_round (by kernel_rfl) rfl ?_
              refine wpAnyIn_take (i := 1) (v := ?_) rfl rfl (by kernel_rfl) (by kernel_rfl) (by kernel_rfl) (fun _ _ _ h => h) ⟨Or.inl ⟨by rfl, ?_⟩, fun _ => rfl⟩ ?_
              rotate_left 1
              (focus (intro w; go_simp; any_goals with_reducible rfl))
              (try simp only [Act.put, List.setIfInBounds_toArray, List.set_cons_zero, List.set_cons_succ])
              refine wpAnyIn_take (i := 2) (v := ?_) rfl rfl (by kernel_rfl) (by kernel_rfl) (by kernel_rfl) (fun _ _ _ h => h) ⟨Or.inl ⟨by rfl, ?_⟩, fun _ => rfl⟩ ?_
              rotate_left 1
              (focus (intro w; go_simp; any_goals with_reducible rfl))
              (try simp only [Act.put, List.setIfInBounds_toArray, List.set_cons_zero, List.set_cons_succ])
              refine wpAnyIn_take (i := 3) (v := ?_) rfl rfl (by kernel_rfl) (by kernel_rfl) (by kernel_rfl) (fun _ _ _ h => h) ⟨Or.inl ⟨by rfl, ?_⟩, fun _ => rfl⟩ ?_
              rotate_left 1
              (focus (intro w; go_simp; any_goals with_reducible rfl))
              (try simp only [Act.put, List.setIfInBounds_toArray, List.set_cons_zero, List.set_cons_succ])
              refine wpAnyIn_ready (rs := [0, 4]) (by kernel_rfl) (by simp) (AllReadyIn.cons rfl (fun K hK => ?_) (AllReadyIn.cons rfl (fun K hK => ?_) AllReadyIn.nil))
              · go_simp
                refine hK _ _ ?_
                clear hK K
                (try simp only [Act.put, List.setIfInBounds_toArray, List.set_cons_zero, List.set_cons_succ])
                refine wpAnyIn_ready (rs := [4]) (by kernel_rfl) (by simp) (AllReadyIn.cons rfl (fun K hK => ?_) AllReadyIn.nil)
                go_simp
                refine hK _ _ ?_
                clear hK K
                (try simp only [Act.put, List.setIfInBounds_toArray, List.set_cons_zero, List.set_cons_succ])
                refine wpAnyIn_take (i := 5) (v := ?_) rfl rfl (by kernel_rfl) (by kernel_rfl) (by kernel_rfl) (fun _ _ _ h => h) ⟨Or.inl ⟨by rfl, ?_⟩, fun _ => rfl⟩ ?_
                rotate_left 1
                (focus (intro w; go_simp; any_goals with_reducible rfl))
                (try simp only [Act.put, List.setIfInBounds_toArray, List.set_cons_zero, List.set_cons_succ])
                refine wpAnyIn_ready (rs := [6]) (by kernel_rfl) (by simp) (AllReadyIn.cons rfl (fun K hK => ?_) AllReadyIn.nil)
                go_simp
                refine hK _ _ ?_
                clear hK K
                (try simp only [Act.put, List.setIfInBounds_toArray, List.set_cons_zero, List.set_cons_succ])
                refine wpAnyIn_take (i := 7) (v := ?_) rfl rfl (by kernel_rfl) (by kernel_rfl) (by kernel_rfl) (fun _ _ _ h => h) ⟨Or.inl ⟨by rfl, ?_⟩, fun _ => rfl⟩ ?_
                rotate_left 1
                (focus (intro w; go_simp; any_goals with_reducible rfl))
                (try simp only [Act.put, List.setIfInBounds_toArray, List.set_cons_zero, List.set_cons_succ])
                refine wpAnyIn_take (i := 8) (v := ?_) rfl rfl (by kernel_rfl) (by kernel_rfl) (by kernel_rfl) (fun _ _ _ h => h) ⟨Or.inl ⟨by rfl, ?_⟩, fun _ => rfl⟩ ?_
                rotate_left 1
                (focus (intro w; go_simp; any_goals with_reducible rfl))
                (try simp only [Act.put, List.setIfInBounds_toArray, List.set_cons_zero, List.set_cons_succ])
                refine wpAnyIn_ready (rs := [9]) (by kernel_rfl) (by simp) (AllReadyIn.cons rfl (fun K hK => ?_) AllReadyIn.nil)
                go_simp
                refine hK _ _ ?_
                clear hK K
                (try simp only [Act.put, List.setIfInBounds_toArray, List.set_cons_zero, List.set_cons_succ])
                refine wpAnyIn_done (by kernel_rfl) ?_ _
                gi_wp2
                go_roundw
                case rel => exact ⟨k + 1, by omega, by go_num, HSET.out nq, Lib.hid (hu.out.trans ((Upd.drewN [w5.heap.size] wr nq).trans ((Upd.drew [w5.heap.size] _).trans (Upd.setCell (by simp) _))))⟩
                case measure => simp [intOf]; omega
              · go_simp
                refine hK _ _ ?_
                clear hK K
                (try simp only [Act.put, List.setIfInBounds_toArray, List.set_cons_zero, List.set_cons_succ])
                refine wpAnyIn_ready (rs := [0]) (by kernel_rfl) (by simp) (AllReadyIn.cons rfl (fun K hK => ?_) AllReadyIn.nil)
                go_simp
                refine hK _ _ ?_
                clear hK K
                (try simp only [Act.put, List.setIfInBounds_toArray, List.set_cons_zero, List.set_cons_succ])
                refine wpAnyIn_take (i := 5) (v := ?_) rfl rfl (by kernel_rfl) (by kernel_rfl) (by kernel_rfl) (fun _ _ _ h => h) ⟨Or.inl ⟨by rfl, ?_⟩, fun _ => rfl⟩ ?_
                rotate_left 1
                (focus (intro w; go_simp; any_goals with_reducible rfl))
                (try simp only [Act.put, List.setIfInBounds_toArray, List.set_cons_zero, List.set_cons_succ])
                refine wpAnyIn_ready (rs := [6]) (by kernel_rfl) (by simp) (AllReadyIn.cons rfl (fun K hK => ?_) AllReadyIn.nil)
                go_simp
                refine hK _ _ ?_
                clear hK K
                (try simp only [Act.put, List.setIfInBounds_toArray, List.set_cons_zero, List.set_cons_succ])
                refine wpAnyIn_take (i := 7) (v := ?_) rfl rfl (by kernel_rfl) (by kernel_rfl) (by kernel_rfl) (fun _ _ _ h => h) ⟨Or.inl ⟨by rfl, ?_⟩, fun _ => rfl⟩ ?_
                rotate_left 1
                (focus (intro w; go_simp; any_goals with_reducible rfl))
                (try simp only [Act.put, List.setIfInBounds_toArray, List.set_cons_zero, List.set_cons_succ])
                refine wpAnyIn_take (i := 8) (v := ?_) rfl rfl (by kernel_rfl) (by kernel_rfl) (by kernel_rfl) (fun _ _ _ h => h) ⟨Or.inl ⟨by rfl, ?_⟩, fun _ => rfl⟩ ?_
                rotate_left 1
                (focus (intro w; go_simp; any_goals with_reducible rfl))
                (try simp only [Act.put, List.setIfInBounds_toArray, List.set_cons_zero, List.set_cons_succ])
                refine wpAnyIn_ready (rs := [9]) (by kernel_rfl) (by simp) (AllReadyIn.cons rfl (fun K hK => ?_) AllReadyIn.nil)
                go_simp
                refine hK _ _ ?_
                clear hK K
                (try simp only [Act.put, List.setIfInBounds_toArray, List.set_cons_zero, List.set_cons_succ])
                refine wpAnyIn_done (by kernel_rfl) ?_ _
                gi_wp2
                go_roundw
                case rel => exact ⟨k + 1, by omega, by go_num, HSET.out nq, Lib.hid (hu.out.trans ((Upd.drewN [w5.heap.size] wr nq).trans ((Upd.drew [w5.heap.size] _).trans (Upd.setCell (by simp) _))))⟩
                case measure => simp [intOf]; omega
              -- END REGION
            · gi_wp2
              have hkl : k = x.length := by omega
              subst hkl
              rw [List.take_length] at hcb
              refine ⟨(HU1.out.mono (by simp)).trans (hu.out.mono (by simp)), _, (fun k hk => ⟨?_, .inl (by simpa using hk)⟩), rfl, Lib.hid (by simpa using hcb.out), Lib.hid (upd_far hu.out HLC1.out (by simp)), Lib.hid (a5.out.trans ((HU1.out.mono (by simp)).trans (hu.out.mono (by simp))))⟩
              have h1 := HMW.out k (by simpa using hk)
              have h2 := HU1.out.size
              have h3 := hu.out.size
              omega
        · rintro M W9 ⟨rfl, a1, a2, a5⟩ hM hK
          have RB9 := Lib.hid (RB8.out.upd a5.out (by simp; omega))
          have HT9 := Lib.hid (HT8.out.upd a5.out (by simp) (M' := []) (by simp))
          have hx9 := upd_far a5.out HX8.out (by simp; omega)
          obtain ⟨d0, d1, d2, d3, d4⟩ := fo_cells hx9
          have hcc9 : W9.cell? ⟨w5.heap.size + 1, 0, none⟩ = some (.slice (some ⟨w5.heap.size, 0, none⟩) F.L.length F.L.length) := by rw [cell_of_block (upd_far a5.out HCC8.out (by simp))]; rfl
          have hlc9 : W9.cell? ⟨w5.heap.size + 2, 0, none⟩ = some (.int .i64 (wantOf F.T)) := by rw [cell_of_block a2.out, ← HNUM.out]; rfl
          have HCB9 : Hid (∀ k, k < F.L.length → W9.cell? ⟨w5.heap.size, k, none⟩ = some (.int .i64 (F.T.length : Int))) := Lib.hid (fun k hk => by
            rw [cell_of_block a1.out]
            have := HCNT.out (k : Int) (by omega) (by omega)
            have e := cntV_get xs.flatten hk
            rw [this] at e
            exact e)
          simp only [Exit.inBlock, Exit.then]
          go_at_K
          have HK := Lib.hid hK
          clear hK a1 a2 a5 hM hx9
          obtain ⟨wA, hwA⟩ : ∃ W, W = W9 := ⟨_, rfl⟩
          subst hwA
          have h300 := HTL.out.1
          have h301 := HTL.out.2.2
          go_wp2_with fail
          go_loopw [11, 12] (fun want i wr => ∃ k : Nat, k ≤ F.T.length ∧ i = .int .i64 k ∧ want = .int .i64 (wantOf (F.T.take k)) ∧ wr = wA) (fun _ i _ => F.T.length - (intOf i).toNat)
          case atStart => exact ⟨0, Nat.zero_le _, rfl, by simp [wantOf], rfl⟩
          case round =>
            obtain ⟨k, hk, rfl, rfl, rfl⟩ := hrel
            by_cases hlt : k < F.T.length
            · obtain ⟨x, hx⟩ : ∃ x, F.T[k]? = some x := ⟨_, List.getElem?_eq_getElem hlt⟩
              obtain ⟨b, o, cp, vi, hvT, _, _, _, _, e0, hxi⟩ := lists_at HT9.out hx
              obtain ⟨ai, ci, rfl, _, hci⟩ := Kd.slice_form hxi
              unfold maxLen at hci
              simp at hvT
              obtain ⟨rfl, rfl⟩ := hvT
              have i0 : (0 : Int) ≤ (k : Int) := by omega
              have i1 : (k : Int) < (F.T.length : Int) := by omega
              have hws := wantOf_snoc hx
              have hwl := wantOf_le (F.T.take (k + 1))
              have hwl0 := wantOf_le (F.T.take k)
              have hfl := flat_take_le F.T (k + 1)
              have hle6 := HTL.out.2.1
              have hxll := leavesOf_le x
              have hwb : 0 ≤ wantOf (F.T.take k) ∧ wantOf (F.T.take k) + (leavesOf x).length ≤ 600 := by omega
              have hx6 : x.length ≤ 600 := by have := flat_take hx; have := flat_take_le F.T k; omega
              have HWS := Lib.hid hws
              have HXI := Lib.hid hxi
              obtain ⟨A, hA⟩ : ∃ N : Int, wantOf (F.T.take k) = N := ⟨_, rfl⟩
              rw [hA] at hwb HWS
              rw [hA]
              clear hx hxi hws hwl hwl0 hfl hle6 hA hxll
              go_wp2_with fail
              go_loopw [11, 13] (fun want j wr' => ∃ m : Nat, m ≤ x.length ∧ j = .int .i64 m ∧ want = .int .i64 (A + ((leavesOf (x.take m)).length : Int)) ∧ wr' = wr) (fun _ j _ => x.length - (intOf j).toNat)
              case atStart => exact ⟨0, Nat.zero_le _, rfl, by simp [leavesOf], rfl⟩
              case round =>
                obtain ⟨m, hm, rfl, rfl, rfl⟩ := hrel
                by_cases hlm : m < x.length
                · obtain ⟨nd, hnd⟩ : ∃ nd, x[m]? = some nd := ⟨_, List.getElem?_eq_getElem hlm⟩
                  obtain ⟨bb, oo, cc, wi, wn, hvv, _, _, _, _, hnn, g0, g1, g2, g3, g4, g5⟩ := nds_at HXI.out hnd
                  simp at hvv
                  obtain ⟨rfl, rfl⟩ := hvv
                  have j0 : (0 : Int) ≤ (m : Int) := by omega
                  have j1 : (m : Int) < (x.length : Int) := by omega
                  have hsn : leavesOf (x.take (m + 1)) = if nd.leaf then leavesOf (x.take m) ++ [nd.ids] else leavesOf (x.take m) := by rw [take_snoc' hnd, leavesOf_snoc]
                  have hlb : (leavesOf (x.take m)).length ≤ 600 := by have := leavesOf_le (x.take m); simp at this; omega
                  obtain ⟨B, hB⟩ : ∃ N : Int, ((leavesOf (x.take m)).length : Int) = N := ⟨_, rfl⟩
                  have hA6 : 0 ≤ A ∧ A ≤ 600 := by omega
                  have hBb : 0 ≤ B ∧ B ≤ 600 := by omega
                  rw [hB]
                  clear hnd hnn g1 g2 g3 g4 g5
                  cases hlf : nd.leaf with
                  | true =>
                    rw [hlf] at g0 hsn
                    have HS2 : Hid (A + B + 1 = A + ((leavesOf (x.take (m + 1))).length : Int)) := Lib.hid (by rw [hsn]; simp; omega)
                    have hwr : IntKind.i64.wrap (A + B + 1) = A + B + 1 := IntWalk.i64_in _ ⟨by omega, by omega⟩
                    clear hlf hsn hB
                    go_wp2_with fail
                    go_roundw
                    case rel => exact ⟨m + 1, by omega, by go_num, by first | rw [← HS2.out] | simp [← HS2.out], by first | rfl | trivial⟩
                    case measure => simp [intOf]; omega
                  | false =>
                    rw [hlf] at g0 hsn
                    have HS2 : Hid (A + B = A + ((leavesOf (x.take (m + 1))).length : Int)) := Lib.hid (by rw [hsn]; simp; omega)
                    clear hlf hsn hB
                    go_wp2_with fail
                    go_roundw
                    case rel => exact ⟨m + 1, by omega, by go_num, by first | rw [← HS2.out] | simp [← HS2.out], by first | rfl | trivial⟩
                    case measure => simp [intOf]; omega
                · have hmm : m = x.length := by omega
                  subst hmm
                  rw [List.take_length, ← HWS.out]
                  go_wp2_with fail
                  go_roundw
                  case rel => exact ⟨k + 1, by omega, by go_num, rfl, by first | rfl | trivial⟩
                  case measure => simp [intOf]; omega
            · have hkk : k = F.T.length := by omega
              subst hkk
              rw [List.take_length]
              obtain ⟨wB, hwB⟩ : ∃ W, W = wr := ⟨_, rfl⟩
              subst hwB
              go_wp2_with fail
              go_loopw [14] (fun i wr => ∃ k : Nat, k ≤ F.L.length ∧ i = .int .i64 k ∧ Hid (∃ nn, wr = wB.drewN nn)) (fun i _ => F.L.length - (intOf i).toNat)
              case atStart => exact ⟨0, Nat.zero_le _, rfl, ⟨0, rfl⟩⟩
              case round =>
                obtain ⟨k, hk, rfl, hw⟩ := hrel
                obtain ⟨nn, rfl⟩ := hw
                by_cases hlt : k < F.L.length
                · have hcb := HCB9.out k hlt
                  have i0 : (0 : Int) ≤ (k : Int) := by omega
                  have i1 : (k : Int) < (F.L.length : Int) := by omega
                  have hnn : ((F.T.length : Int) != (F.T.length : Int)) = false := by simp
                  go_wp2
                  go_quiet (fail)
                  go_wp2
                  go_roundw
                  case rel => exact ⟨k + 1, by omega, by go_num, by first | exact ⟨_, rfl⟩ | exact ⟨_, World.drewN_drewN ..⟩⟩
                  case measure => simp [intOf]; omega
                · have RBn : Hid (RB 4 Wa (wB.drewN nn)) := Lib.hid (RB9.out.drew nn)
                  have hK2 : Hid ((wB.drewN nn).heap[w8.heap.size]? = some (.deferred (some []))) := Lib.hid HK.out
                  have hcn := RBn.out.c
                  have hfn := RBn.out.f
                  have hww : (wantOf F.T == wantOf F.T) = true := by simp
                  obtain ⟨WT, hWT⟩ : ∃ N, wantOf F.T = N := ⟨_, rfl⟩
                  rw [hWT] at hlc9 hww
                  try rw [hWT]
                  clear hWT
                  go_wp2_with fail
                  exact RBn.out.finW HBB.out rfl Try.underlying4 rfl [(w8.heap.size, _)] (by simp; exact ⟨by omega, hK2.out⟩) (by simp)
        · rintro c pre M W hpre h
          exact h.elim
      · have hvb : (vc != 0) = true := by simpa using hv0
        clear f1 f2 f3 f4 f5 f6 hdim hfl hlc hvc hv0
        go_wp2_with fail
        refine HLC.out.mono ?_
        rintro e w5 ⟨rfl, hb5⟩
        have HVC5 := Lib.hid (HVC.out w5 hb5)
        have RB5 := Lib.hid (RB4.out.call hb5)
        have HX5 := Lib.hid ((hb5.block _ (block_lt HX4.out)).trans HX4.out)
        have hc5 := RB5.out.c
        have hf5 := RB5.out.f
        clear hb5 HVC HLC c0 c1 c2 c3 d0 d1 d2 d3 d4 hc4 hf4 hW3 hW4 z0 z1 z2 z3 y0 y1 y2 y3
        obtain ⟨d0, d1, d2, d3, d4⟩ := fo_cells HX5.out
        go_wp2_with fail
        refine HVC5.out.mono ?_
        rintro e w6 ⟨rfl, rfl⟩
        go_wp2_with fail
        exact RB5.out.finW HBB.out rfl Try.underlying4 rfl [] (by simp) (by simp)
    · have hlb : (lc != 0) = true := by simpa using hl0
      clear f1 f2 f3 f4 f5 f6 hdim hfl hlc hvc hl0
      go_wp2_with fail
      refine HLC.out.mono ?_
      rintro e w5 ⟨rfl, hb5⟩
      have RB5 := Lib.hid (RB4.out.call hb5)
      have hc5 := RB5.out.c
      have hf5 := RB5.out.f
      clear hb5 HVC HLC c0 c1 c2 c3 d0 d1 d2 d3 d4 hc4 hf4 hW3 hW4 z0 z1 z2 z3 y0 y1 y2 y3
      go_wp2_with fail
      exact RB5.out.finW HBB.out rfl Try.underlying4 rfl [] (by simp) (by simp)
  · have HBU := Lib.hid (built_no _ _ F w1 (HH.out.below HB1.out) HS.out hcb)
    clear hcb
    unfold noFo at HBU
    go_wp2_with fail
    refine HBU.out.mono ?_
    rintro e w2 ⟨rfl, hb2⟩
    have hz2 := hb2.size
    have RB2 := RB1.out.call hb2
    obtain ⟨W3, hW3⟩ : ∃ W3, w2.alloc (.cells #[.pointer none, .int .i64 0, .int .i64 0, .slice none 0 0] 30) = W3 := ⟨_, rfl⟩
    have hu3 : Upd [] w2 W3 := by rw [← hW3]; exact Upd.alloc [] w2 _
    have hy3 : W3.heap[w2.heap.size]? = some (.cells #[.pointer none, .int .i64 0, .int .i64 0, .slice none 0 0] 30) := by rw [← hW3]; exact Go.heap_alloc_new w2 _
    obtain ⟨z0, z1, z2, z3⟩ : W3.frozen? ⟨w2.heap.size, 0, none⟩ = false ∧ W3.frozen? ⟨w2.heap.size, 1, none⟩ = false ∧ W3.frozen? ⟨w2.heap.size, 2, none⟩ = false ∧ W3.frozen? ⟨w2.heap.size, 3, none⟩ = false := ⟨frozen_of_block hy3, frozen_of_block hy3, frozen_of_block hy3, frozen_of_block hy3⟩
    obtain ⟨y0, y1, y2, y3⟩ : W3.cell? ⟨w2.heap.size, 0, none⟩ = some (.pointer none) ∧ W3.cell? ⟨w2.heap.size, 1, none⟩ = some (.int .i64 0) ∧ W3.cell? ⟨w2.heap.size, 2, none⟩ = some (.int .i64 0) ∧ W3.cell? ⟨w2.heap.size, 3, none⟩ = some (.slice none 0 0) := by refine ⟨?_, ?_, ?_, ?_⟩ <;> (rw [cell_of_block hy3]; rfl)
    obtain ⟨W4, hW4⟩ : ∃ W4, (((W3.setCell ⟨w2.heap.size, 0, none⟩ (.pointer none)).setCell ⟨w2.heap.size, 1, none⟩ (.int .i64 0)).setCell ⟨w2.heap.size, 2, none⟩ (.int .i64 0)).setCell ⟨w2.heap.size, 3, none⟩ (.slice none 0 0) = W4 := ⟨_, rfl⟩
    have hu4 : Upd [w2.heap.size] W3 W4 := by rw [← hW4]; exact upd_set4 _ _ _ _ _ _
    have hb4 : Below w2.heap.size w2 W4 := hu3.below.trans (hu4.belowB hu3.size (by simp))
    have RB4 := Lib.hid (RB2.call hb4)
    have hc4 := RB4.out.c
    have hf4 := RB4.out.f
    clear hb2 hu3 hy3 hu4 hb4 RB2 HBU
    go_wp2_with fail
    exact RB4.out.finW HBB.out rfl Try.underlying4 rfl [] (by simp) (by simp)

theorem SearchWhole_walk (s : Array Value) (F : Fo) (vv : Value) (v : List Int) (w : World) (h : kFo.At [] w s.toList F) (hs : F.small) (hv : (Kd.int .i32).slice.At [] w [vv] v) :
    Calls Try.prog 8 #[.agg s, vv] w fun e w' => e = .returned (.bool true) ∧ Below w.heap.size w w' := by
  obtain ⟨vL, vT, rfl, hf⟩ := fo_arr h
  exact searchWhole_calls vL vT vv F v w hf hs hv

end Go.Proofs.Ytiplifkbegmeiaa
