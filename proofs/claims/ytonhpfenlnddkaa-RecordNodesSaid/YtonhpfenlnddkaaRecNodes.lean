/-
record.Of, record.Node; the law RecordNodes.
-/
import Derived.Test.YtonhpfenlnddkaaOpenRw
namespace Go.Proofs.Ytonhpfenlnddkaa
set_option linter.unusedVariables false
set_option linter.unusedSimpArgs false
open Go.RowKit

def ndObj (vi vn : Value) (x : Nd) (t : TypeId) : Obj := .cells #[.bool x.leaf, vi, vn, .int .i64 x.pl.off, .int .i64 x.left, .int .i64 x.right] t
structure NdCells (w : World) (b : Nat) (vi vn : Value) (x : Nd) : Prop where
  c0 : w.cell? ⟨b, 0, none⟩ = some (.bool x.leaf)
  c1 : w.cell? ⟨b, 1, none⟩ = some vi
  c2 : w.cell? ⟨b, 2, none⟩ = some vn
  c3 : w.cell? ⟨b, 3, none⟩ = some (.int .i64 x.pl.off)
  c4 : w.cell? ⟨b, 4, none⟩ = some (.int .i64 x.left)
  c5 : w.cell? ⟨b, 5, none⟩ = some (.int .i64 x.right)
theorem nd_cells {w : World} {b : Nat} {vi vn : Value} {x : Nd} {t : TypeId} (h : w.heap[b]? = some (ndObj vi vn x t)) : NdCells w b vi vn x := by
  unfold ndObj at h
  constructor <;> (rw [cell_of_block h]; rfl)

/-- A result of several cells. -/
theorem results_cellagg {fn : Func} {p : Tmp} {ty : TypeId} {P : Program} (h : fn.results = #[.cell p ty]) {n : Nat} (ha : ∀ w, (isAgg ty).run P w = .ok true w) (hs : ∀ w, (sizeOf ty).run P w = .ok n w) (tmps : Array Value) (w : World) {b : Nat} {cs : Array Value} {t : TypeId} {f : Nat × Nat}
    (hp : tmps.getD p undef = .pointer (some ⟨b, 0, none⟩)) (hb : w.heap[b]? = some (.cells cs t f)) (hn : cs.size = n) : (results fn tmps).run P w = .ok (.agg cs) w := by
  have hp' : tmps[p]?.getD undef = .pointer (some ⟨b, 0, none⟩) := by simpa using hp
  have hl := run_loadCells_list (P := P) w ⟨b, 0, none⟩ cs.toList (fun j v hj => by
    have e : (⟨b, 0, none⟩ : Addr).add j = ⟨b, j, none⟩ := by unfold Addr.add; split <;> simp_all
    rw [e, cell_of_block hb]
    simpa using hj)
  rw [Array.length_toList, hn] at hl
  simp [results, h, hp', asAddr, loadVar, ha, hs, hl, Sem.run_bind, Result.andThen]

/-- Six cells of a block, laid anew. -/
theorem heap_set6 {w : World} {b : Nat} {cs : Array Value} {t : TypeId} (h : w.heap[b]? = some (.cells cs t)) (hn : cs.size = 6) (v0 v1 v2 v3 v4 v5 : Value) :
    ((((((w.setCell ⟨b, 0, none⟩ v0).setCell ⟨b, 1, none⟩ v1).setCell ⟨b, 2, none⟩ v2).setCell ⟨b, 3, none⟩ v3).setCell ⟨b, 4, none⟩ v4).setCell ⟨b, 5, none⟩ v5).heap[b]? = some (.cells #[v0, v1, v2, v3, v4, v5] t) := by
  obtain ⟨l⟩ := cs
  match l, hn, h with
  | [c0, c1, c2, c3, c4, c5], _, h =>
    have h0 := heap_setCell_same w b 0 _ _ v0 h
    simp only [List.setIfInBounds_toArray, List.set_cons_zero] at h0
    have h1 := heap_setCell_same _ b 1 _ _ v1 h0
    simp only [List.setIfInBounds_toArray, List.set_cons_succ, List.set_cons_zero] at h1
    have h2 := heap_setCell_same _ b 2 _ _ v2 h1
    simp only [List.setIfInBounds_toArray, List.set_cons_succ, List.set_cons_zero] at h2
    have h3 := heap_setCell_same _ b 3 _ _ v3 h2
    simp only [List.setIfInBounds_toArray, List.set_cons_succ, List.set_cons_zero] at h3
    have h4 := heap_setCell_same _ b 4 _ _ v4 h3
    simp only [List.setIfInBounds_toArray, List.set_cons_succ, List.set_cons_zero] at h4
    have h5 := heap_setCell_same _ b 5 _ _ v5 h4
    simp only [List.setIfInBounds_toArray, List.set_cons_succ, List.set_cons_zero] at h5
    exact h5

/-- The row that record.Of makes of a node. -/
def ofRw (x : Nd) (place : Int) : Rw := if x.leaf then ⟨true, x.ids.length, place, ⟨[], 0⟩, 0⟩ else ⟨false, 0, 0, x.pl, x.right⟩
def ofV (vn : Value) (x : Nd) : Value := if x.leaf then .slice none 0 0 else vn

set_option maxHeartbeats 1000000 in
theorem of_calls (vi vn : Value) (x : Nd) (place : Int) (M : List Nat) (w : World) (h : NdAt M w vi vn x) :
    Calls Try.prog 35 #[.agg #[.bool x.leaf, vi, vn, .int .i64 x.pl.off, .int .i64 x.left, .int .i64 x.right], .int .i64 place] w
      fun e w' => e = .returned (.agg #[.bool (ofRw x place).leaf, .int .i64 (ofRw x place).count, .int .i64 (ofRw x place).place, ofV vn x, .int .i64 (ofRw x place).pl.off, .int .i64 (ofRw x place).right]) ∧ Below w.heap.size w w' := by
  obtain ⟨ai, ci, rfl, hli, hci⟩ := slice_form' h.ids
  obtain ⟨an, cn, rfl, hln, hcn⟩ := slice_form' h.normal
  obtain ⟨leaf, ids, ⟨nn, off⟩, left, right⟩ := x
  have HB := Lib.hid (fun o1 o2 => ((Below.refl w.heap.size w).alloc (Nat.le_refl _) o1).alloc (by simp) o2)
  clear h
  simp only at *
  cases leaf with
  | true =>
    have e1 : ofRw ⟨true, ids, ⟨nn, off⟩, left, right⟩ place = ⟨true, ids.length, place, ⟨[], 0⟩, 0⟩ := rfl
    have e2 : ofV (.slice an nn.length cn) ⟨true, ids, ⟨nn, off⟩, left, right⟩ = .slice none 0 0 := rfl
    rw [e1, e2]
    clear e1 e2
    go_enter Try.func35, Try.ntmps35
    go_wp2_with fail
    exact bodyPost_ret (v := .agg #[.bool true, .int .i64 ids.length, .int .i64 place, .slice none 0 0, .int .i64 0, .int .i64 0]) (by simp [results, Try.results35, go_sem]) rfl ⟨rfl, HB.out _ _⟩
  | false =>
    have e1 : ofRw ⟨false, ids, ⟨nn, off⟩, left, right⟩ place = ⟨false, 0, 0, ⟨nn, off⟩, right⟩ := rfl
    have e2 : ofV (.slice an nn.length cn) ⟨false, ids, ⟨nn, off⟩, left, right⟩ = .slice an nn.length cn := rfl
    rw [e1, e2]
    clear e1 e2
    go_enter Try.func35, Try.ntmps35
    go_wp2_with fail
    exact bodyPost_ret (v := .agg #[.bool false, .int .i64 0, .int .i64 0, .slice an nn.length cn, .int .i64 off, .int .i64 right]) (by simp [results, Try.results35, go_sem]) rfl ⟨rfl, HB.out _ _⟩

set_option maxHeartbeats 2000000 in
set_option maxRecDepth 100000 in
theorem node_split_calls (vn : Value) (nn ids : List Int) (c p o r at_ : Int) (v : Value) (M : List Nat) (w : World) (h : (Kd.int .i32).slice.At M w [vn] nn) (hi : (Kd.int .i64).slice.At M w [v] ids) :
    Calls Try.prog 36 #[.agg #[.bool false, .int .i64 c, .int .i64 p, vn, .int .i64 o, .int .i64 r], .int .i64 at_, v] w
      fun e w' => e = .returned (.agg #[.bool false, .slice none 0 0, vn, .int .i64 o, .int .i64 (wrap64 (at_ + 1)), .int .i64 r]) ∧ Below w.heap.size w w' := by
  obtain ⟨ai, ci, rfl, hli, hci⟩ := slice_form' hi
  obtain ⟨an, cn, rfl, hln, hcn⟩ := slice_form' h
  have HB := Lib.hid (fun o1 o2 => ((Below.refl w.heap.size w).alloc (Nat.le_refl _) o1).alloc (by simp) o2)
  clear h hi
  go_enter Try.func36, Try.ntmps36
  go_wp2_with fail
  exact bodyPost_ret (v := .agg #[.bool false, .slice none 0 0, .slice an nn.length cn, .int .i64 o, .int .i64 (wrap64 (at_ + 1)), .int .i64 r]) (by simp [results, Try.results36, go_sem]) rfl ⟨rfl, HB.out _ _⟩

set_option maxHeartbeats 2000000 in
set_option maxRecDepth 100000 in
theorem node_leaf_calls (c p o r at_ : Int) (vn v : Value) (nn ids : List Int) (M : List Nat) (w : World) (h : (Kd.int .i32).slice.At M w [vn] nn) (hi : (Kd.int .i64).slice.At M w [v] ids) (hlen : ids.length ≤ 1099511627776) :
    Calls Try.prog 36 #[.agg #[.bool true, .int .i64 c, .int .i64 p, vn, .int .i64 o, .int .i64 r], .int .i64 at_, v] w
      fun e w' => ∃ v', e = .returned (.agg #[.bool true, v', .slice none 0 0, .int .i64 0, .int .i64 0, .int .i64 0]) ∧ Below w.heap.size w w' ∧ Row (Kd.int .i64) [] 3 w.heap.size w' v' ids := by
  obtain ⟨ai, ci, rfl, hli, hci⟩ := slice_form' hi
  obtain ⟨an, cn, rfl, hln, hcn⟩ := slice_form' h
  obtain ⟨i0, hi0, hz0, hz1, hz2⟩ := info_parts A.infoInt
  obtain ⟨W0, hW0⟩ : ∃ W0, (w.alloc (.cells #[.bool true, .int .i64 c, .int .i64 p, .slice an nn.length cn, .int .i64 o, .int .i64 r] 75)).alloc (.cells #[.bool false, .slice none 0 0, .slice none 0 0, .int .i64 0, .int .i64 0, .int .i64 0] 34) = W0 := ⟨_, rfl⟩
  have hu0 : Upd [] w W0 := by rw [← hW0]; exact (Upd.alloc [] w _).trans (Upd.alloc [] _ _)
  have hz : W0.heap.size = w.heap.size + 2 := by rw [← hW0]; simp
  have hn0 : W0.heap[w.heap.size + 1]? = some (.cells #[.bool false, .slice none 0 0, .slice none 0 0, .int .i64 0, .int .i64 0, .int .i64 0] 34) := by rw [← hW0]; exact alloc2_snd w _ _
  have hbx0 : W0.heap[w.heap.size]? = some (rwObj (.slice an nn.length cn) ⟨true, c, p, ⟨nn, o⟩, r⟩ 75) := by rw [← hW0]; exact alloc2_fst w _ _
  obtain ⟨x0, x1, x2, x3, x4, x5⟩ := rw_cells hbx0
  simp only at x0 x1 x2 x3 x4 x5
  have hnil := Row.nil (Kd.int .i64) [] 3 W0.heap.size W0
  obtain ⟨v', w1, hrun, hrow, hu1, hob⟩ := hnil.appendAt (P := Try.prog) (t := 32) (ty := 32) (u := .slice ai ids.length ci) (l2 := ids) Try.underlying32 hi0 hz0 hz1 hz2 rfl (by decide)
    (((hi.all).upd hu0 (by simp) (M' := []) (by simp)).sub (by simp [ob, Value.ownBlock])) (by simp [maxLen]; omega) (by simp; omega) (Nat.le_refl _)
  rw [List.nil_append] at hrow
  have hu1' : Upd [] W0 w1 := by simpa [ob, Value.ownBlock] using hu1
  have hn1 := upd_far hu1' hn0 (by simp)
  obtain ⟨a2, c2, hv2, _, _⟩ := row_form hrow
  subst hv2
  have hrb := hrow.ob_lt
  obtain ⟨n0, n1, n2, n3, n4, n5⟩ := nd_cells (x := ⟨false, [], ⟨[], 0⟩, 0, 0⟩) (vi := .slice none 0 0) (vn := .slice none 0 0) hn1
  have f : ∀ j, w1.frozen? ⟨w.heap.size + 1, j, none⟩ = false := fun j => frozen_of_block hn1
  have f0 := f 0
  have f1 := f 1
  have f2 := f 2
  have f3 := f 3
  have f4 := f 4
  have f5 := f 5
  have hb1 : Below w.heap.size w w1 := hu0.below.trans (hu1'.below.mono (by omega))
  have hfin : ∀ W, Upd [w.heap.size + 1] w1 W → Below w.heap.size w W ∧ Row (Kd.int .i64) [] 3 w.heap.size W (.slice a2 ids.length c2) ids := fun W hu =>
    ⟨hb1.trans (hu.belowB hb1.size (by simp)), (Row.base ((hrow.int_any (M' := [w.heap.size + 1])).upd hu (fun k hk => hk) (fun k hk => by have := (hrb k hk).1; simp; omega) (by simp)) (by omega))⟩
  have HFIN := Lib.hid hfin
  have HN1 := Lib.hid hn1
  have HRUN := Lib.hid hrun
  clear h hi hli hln hi0 hz0 hz1 hz2 hu0 hz hn0 hbx0 hnil hrun hrow hu1 hob hu1' hn1 hrb f hb1 hfin
  go_enter Try.func36, Try.ntmps36
  go_wp2_with (at_builtin; refine append_step rfl _ _ _ rfl rfl rfl HRUN.out ?_)
  refine bodyPost_ret (v := .agg #[.bool true, .slice a2 ids.length c2, .slice none 0 0, .int .i64 0, .int .i64 0, .int .i64 0]) (results_cellagg rfl Try.isAgg34 Try.sizeOf34 _ _ rfl (heap_set6 HN1.out rfl _ _ _ _ _ _) rfl) rfl ⟨_, rfl, HFIN.out _ ?_⟩
  repeat (first | exact Upd.refl _ _ | refine Upd.trans ?_ (Upd.setCell (by simp) _))

set_option maxHeartbeats 4000000 in
set_option maxRecDepth 100000 in
theorem recordNodes_calls (vi vn : Value) (x : Nd) (place at_ : Int) (w : World) (h : NdAt [] w vi vn x) :
    Calls Try.prog 9 #[.agg #[.bool x.leaf, vi, vn, .int .i64 x.pl.off, .int .i64 x.left, .int .i64 x.right], .int .i64 place, .int .i64 at_] w
      fun e w' => e = .returned (.bool true) ∧ Below w.heap.size w w' := by
  obtain ⟨ai, ci, rfl, hli, hci⟩ := slice_form' h.ids
  obtain ⟨an, cn, rfl, hln, hcn⟩ := slice_form' h.normal
  unfold maxLen at hci hcn
  obtain ⟨W0, hW0⟩ : ∃ W0, w.alloc (ndObj (.slice ai x.ids.length ci) (.slice an x.pl.normal.length cn) x 34) = W0 := ⟨_, rfl⟩
  have hb0 : Below w.heap.size w W0 := by rw [← hW0]; exact below_alloc1 w _
  have hx0 : W0.heap[w.heap.size]? = some (ndObj (.slice ai x.ids.length ci) (.slice an x.pl.normal.length cn) x 34) := by rw [← hW0]; exact Go.heap_alloc_new w _
  unfold ndObj at hW0
  have HA := Lib.hid (awake15_calls W0)
  have HB0 := Lib.hid hb0
  have HX0 := Lib.hid hx0
  have H0 := Lib.hid (h.below hb0)
  have hlx := block_lt hx0
  clear h hb0 hx0
  go_enter Try.func9, Try.ntmps9
  go_wp2_with fail
  refine HA.out.mono ?_
  rintro e w1 ⟨rfl, hb1⟩
  clear hW0
  have HB1 := Lib.hid (HB0.out.trans (hb1.mono HB0.out.size))
  have HX1 := Lib.hid ((hb1.block _ hlx).trans HX0.out)
  have H1 := Lib.hid (H0.out.below hb1)
  have hlx1 := block_lt HX1.out
  clear hb1 HA
  obtain ⟨c0, c1, c2, c3, c4, c5⟩ := nd_cells HX1.out
  by_cases hn1 : 2000 < x.ids.length
  · go_wp2_with fail
    go_ret
    exact ⟨rfl, HB1.out⟩
  by_cases hn2 : 2000 < x.pl.normal.length
  · go_wp2_with fail
    go_ret
    exact ⟨rfl, HB1.out⟩
  have HO := Lib.hid (of_calls _ _ x place [] w1 H1.out)
  cases hleaf : x.leaf with
  | true =>
    have e1 : ofRw x place = ⟨true, x.ids.length, place, ⟨[], 0⟩, 0⟩ := by simp [ofRw, hleaf]
    have e2 : ofV (.slice an x.pl.normal.length cn) x = .slice none 0 0 := by simp [ofV, hleaf]
    rw [e1, e2, hleaf] at HO
    rw [hleaf] at c0
    have HLF := Lib.hid hleaf
    clear e1 e2 hleaf
    go_wp2_with fail
    refine HO.out.mono ?_
    rintro e w2 ⟨rfl, hb2⟩
    have HB2 := Lib.hid (HB1.out.trans (hb2.mono HB1.out.size))
    have HX2 := Lib.hid ((hb2.block _ hlx1).trans HX1.out)
    have H2 := Lib.hid (H1.out.below hb2)
    have hlx2 := block_lt HX2.out
    clear hb2 HO c0 c1 c2 c3 c4 c5
    obtain ⟨W3, hW3⟩ : ∃ W3, w2.alloc (rwObj (.slice none 0 0) ⟨true, x.ids.length, place, ⟨[], 0⟩, 0⟩ 75) = W3 := ⟨_, rfl⟩
    have hb3 : Below w2.heap.size w2 W3 := by rw [← hW3]; exact below_alloc1 w2 _
    have hr3 : W3.heap[w2.heap.size]? = some (rwObj (.slice none 0 0) ⟨true, x.ids.length, place, ⟨[], 0⟩, 0⟩ 75) := by rw [← hW3]; exact Go.heap_alloc_new w2 _
    unfold rwObj at hW3
    simp only at hW3
    have HB3 := Lib.hid (HB2.out.trans (hb3.mono HB2.out.size))
    have HX3 := Lib.hid ((hb3.block _ hlx2).trans HX2.out)
    have H3 := Lib.hid (H2.out.below hb3)
    have HR3 := Lib.hid hr3
    obtain ⟨c0, c1, c2, c3, c4, c5⟩ := nd_cells HX2.out
    rw [HLF.out] at c0
    have HN := (node_leaf_calls x.ids.length place 0 0 at_ _ _ [] x.ids [] W3 (Kd.slice_nil (Kd.int .i32) [] W3 none 0 (by simp [maxLen])) H3.out.ids (by omega))
    rw [← hW3] at HN
    have HNN := Lib.hid HN
    have HW3 := Lib.hid hW3
    clear hb3 hr3 HN hW3
    go_wp2_with fail
    refine HNN.out.mono ?_
    rw [HW3.out]
    rintro e w4 ⟨v', rfl, hb4, hrow⟩
    have HB4 := Lib.hid (HB3.out.trans (hb4.mono HB3.out.size))
    have HX4 := Lib.hid ((hb4.block _ (block_lt HX3.out)).trans HX3.out)
    have HR4 := Lib.hid ((hb4.block _ (block_lt HR3.out)).trans HR3.out)
    have H4 := Lib.hid (H3.out.below hb4)
    have HI4 := Lib.hid (hrow.read (M := []) (by simp))
    obtain ⟨a2, c2', rfl, _, _⟩ := row_form hrow
    clear hb4 hrow HNN c0 c1 c2 c3 c4 c5
    obtain ⟨W5, hW5⟩ : ∃ W5, w4.alloc (ndObj (.slice a2 x.ids.length c2') (.slice none 0 0) ⟨true, x.ids, ⟨[], 0⟩, 0, 0⟩ 34) = W5 := ⟨_, rfl⟩
    have hb5 : Below w4.heap.size w4 W5 := by rw [← hW5]; exact below_alloc1 w4 _
    have hn5 : W5.heap[w4.heap.size]? = some (ndObj (.slice a2 x.ids.length c2') (.slice none 0 0) ⟨true, x.ids, ⟨[], 0⟩, 0, 0⟩ 34) := by rw [← hW5]; exact Go.heap_alloc_new w4 _
    unfold ndObj at hW5
    simp only at hW5
    have HB5 := Lib.hid (HB4.out.trans (hb5.mono HB4.out.size))
    have HX5 := Lib.hid ((hb5.block _ (block_lt HX4.out)).trans HX4.out)
    have HR5 := Lib.hid ((hb5.block _ (block_lt HR4.out)).trans HR4.out)
    have HN5 := Lib.hid hn5
    have H5 := Lib.hid (H4.out.below hb5)
    have HI5 := Lib.hid (HI4.out.below hb5)
    obtain ⟨c0, c1, c2, c3, c4, c5⟩ := nd_cells HX4.out
    rw [HLF.out] at c0
    obtain ⟨d0, d1, d2, d3, d4, d5⟩ := rw_cells HR4.out
    simp only at d0 d1 d2 d3 d4 d5
    have hlx4 := block_lt HX4.out
    have hlr4 := block_lt HR4.out
    have HS := (ref11_same_calls _ _ 0 0 [] [] [] W5 (Kd.slice_nil (Kd.int .i32) [] W5 none 0 (by simp [maxLen])) (Kd.slice_nil (Kd.int .i32) [] W5 none 0 (by simp [maxLen])))
    rw [show (((0 : Int) == 0) && (([] : List Int) == [])) = true from rfl] at HS
    rw [← hW5] at HS
    have HSS := Lib.hid HS
    have HW5 := Lib.hid hW5
    clear hb5 hn5 HS hW5
    go_wp2_with fail
    refine HSS.out.mono ?_
    rw [HW5.out]
    rintro e w6 ⟨rfl, hb6⟩
    have HB6 := Lib.hid (HB5.out.trans (hb6.mono HB5.out.size))
    have HX6 := Lib.hid ((hb6.block _ (block_lt HX5.out)).trans HX5.out)
    have HN6 := Lib.hid ((hb6.block _ (block_lt HN5.out)).trans HN5.out)
    have H6 := Lib.hid (H5.out.below hb6)
    have HI6 := Lib.hid (HI5.out.below hb6)
    clear hb6 HSS c0 c1 c2 c3 c4 c5 d0 d1 d2 d3 d4 d5
    obtain ⟨c0, c1, c2, c3, c4, c5⟩ := nd_cells HX6.out
    rw [HLF.out] at c0
    obtain ⟨d0, d1, d2, d3, d4, d5⟩ := nd_cells HN6.out
    simp only at d0 d1 d2 d3 d4 d5
    have HS9 := Lib.hid (ref09_same_calls _ _ x.ids x.ids [] w6 HI6.out H6.out.ids)
    rw [show (x.ids == x.ids) = true by simp] at HS9
    go_wp2_with fail
    refine HS9.out.mono ?_
    rintro e w7 ⟨rfl, n7, rfl⟩
    have HS := Lib.hid (ref11_same_calls (.slice none 0 0) (.slice none 0 0) 0 0 [] [] [] (w6.drewN n7) (Kd.slice_nil (Kd.int .i32) [] _ none 0 (by simp [maxLen])) (Kd.slice_nil (Kd.int .i32) [] _ none 0 (by simp [maxLen])))
    rw [show (((0 : Int) == 0) && (([] : List Int) == [])) = true from rfl] at HS
    go_wp2_with fail
    refine HS.out.mono ?_
    rintro e w8 ⟨rfl, hb8⟩
    have HB8 := Lib.hid ((HB6.out.trans (bdN _ w6 n7)).trans (hb8.mono (by have := HB6.out.size; simpa using this)))
    clear hb8
    go_wp2_with fail
    go_ret
    exact ⟨rfl, HB8.out⟩
  | false =>
    have e1 : ofRw x place = ⟨false, 0, 0, x.pl, x.right⟩ := by simp [ofRw, hleaf]
    have e2 : ofV (.slice an x.pl.normal.length cn) x = .slice an x.pl.normal.length cn := by simp [ofV, hleaf]
    rw [e1, e2, hleaf] at HO
    rw [hleaf] at c0
    have HLF := Lib.hid hleaf
    clear e1 e2 hleaf
    go_wp2_with fail
    refine HO.out.mono ?_
    rintro e w2 ⟨rfl, hb2⟩
    have HB2 := Lib.hid (HB1.out.trans (hb2.mono HB1.out.size))
    have HX2 := Lib.hid ((hb2.block _ hlx1).trans HX1.out)
    have H2 := Lib.hid (H1.out.below hb2)
    have hlx2 := block_lt HX2.out
    clear hb2 HO c0 c1 c2 c3 c4 c5
    obtain ⟨W3, hW3⟩ : ∃ W3, w2.alloc (rwObj (.slice an x.pl.normal.length cn) ⟨false, 0, 0, x.pl, x.right⟩ 75) = W3 := ⟨_, rfl⟩
    have hb3 : Below w2.heap.size w2 W3 := by rw [← hW3]; exact below_alloc1 w2 _
    have hr3 : W3.heap[w2.heap.size]? = some (rwObj (.slice an x.pl.normal.length cn) ⟨false, 0, 0, x.pl, x.right⟩ 75) := by rw [← hW3]; exact Go.heap_alloc_new w2 _
    unfold rwObj at hW3
    simp only at hW3
    have HB3 := Lib.hid (HB2.out.trans (hb3.mono HB2.out.size))
    have HX3 := Lib.hid ((hb3.block _ hlx2).trans HX2.out)
    have H3 := Lib.hid (H2.out.below hb3)
    have HR3 := Lib.hid hr3
    obtain ⟨c0, c1, c2, c3, c4, c5⟩ := nd_cells HX2.out
    rw [HLF.out] at c0
    have HN := (node_split_calls _ x.pl.normal x.ids 0 0 x.pl.off x.right at_ _ [] W3 H3.out.normal H3.out.ids)
    rw [← hW3] at HN
    have HNN := Lib.hid HN
    have HW3 := Lib.hid hW3
    clear hb3 hr3 HN hW3
    go_wp2_with fail
    refine HNN.out.mono ?_
    rw [HW3.out]
    rintro e w4 ⟨rfl, hb4⟩
    have HB4 := Lib.hid (HB3.out.trans (hb4.mono HB3.out.size))
    have HX4 := Lib.hid ((hb4.block _ (block_lt HX3.out)).trans HX3.out)
    have HR4 := Lib.hid ((hb4.block _ (block_lt HR3.out)).trans HR3.out)
    have H4 := Lib.hid (H3.out.below hb4)
    clear hb4 HNN c0 c1 c2 c3 c4 c5
    obtain ⟨W5, hW5⟩ : ∃ W5, w4.alloc (ndObj (.slice none 0 0) (.slice an x.pl.normal.length cn) ⟨false, [], x.pl, wrap64 (at_ + 1), x.right⟩ 34) = W5 := ⟨_, rfl⟩
    have hb5 : Below w4.heap.size w4 W5 := by rw [← hW5]; exact below_alloc1 w4 _
    have hn5 : W5.heap[w4.heap.size]? = some (ndObj (.slice none 0 0) (.slice an x.pl.normal.length cn) ⟨false, [], x.pl, wrap64 (at_ + 1), x.right⟩ 34) := by rw [← hW5]; exact Go.heap_alloc_new w4 _
    unfold ndObj at hW5
    simp only at hW5
    have HB5 := Lib.hid (HB4.out.trans (hb5.mono HB4.out.size))
    have HX5 := Lib.hid ((hb5.block _ (block_lt HX4.out)).trans HX4.out)
    have HR5 := Lib.hid ((hb5.block _ (block_lt HR4.out)).trans HR4.out)
    have HN5 := Lib.hid hn5
    have H5 := Lib.hid (H4.out.below hb5)
    obtain ⟨c0, c1, c2, c3, c4, c5⟩ := nd_cells HX4.out
    rw [HLF.out] at c0
    obtain ⟨d0, d1, d2, d3, d4, d5⟩ := rw_cells HR4.out
    simp only at d0 d1 d2 d3 d4 d5
    have hlx4 := block_lt HX4.out
    have hlr4 := block_lt HR4.out
    have HS := (ref11_same_calls _ _ x.pl.off x.pl.off x.pl.normal x.pl.normal [] W5 H5.out.normal H5.out.normal)
    rw [show ((x.pl.off == x.pl.off) && (x.pl.normal == x.pl.normal)) = true by simp] at HS
    rw [← hW5] at HS
    have HSS := Lib.hid HS
    have HW5 := Lib.hid hW5
    clear hb5 hn5 HS hW5
    go_wp2_with fail
    refine HSS.out.mono ?_
    rw [HW5.out]
    rintro e w6 ⟨rfl, hb6⟩
    have HB6 := Lib.hid (HB5.out.trans (hb6.mono HB5.out.size))
    have HX6 := Lib.hid ((hb6.block _ (block_lt HX5.out)).trans HX5.out)
    have HN6 := Lib.hid ((hb6.block _ (block_lt HN5.out)).trans HN5.out)
    have H6 := Lib.hid (H5.out.below hb6)
    clear hb6 HSS c0 c1 c2 c3 c4 c5 d0 d1 d2 d3 d4 d5
    obtain ⟨c0, c1, c2, c3, c4, c5⟩ := nd_cells HX6.out
    rw [HLF.out] at c0
    obtain ⟨d0, d1, d2, d3, d4, d5⟩ := nd_cells HN6.out
    simp only at d0 d1 d2 d3 d4 d5
    have HS := Lib.hid (ref11_same_calls _ _ x.pl.off x.pl.off x.pl.normal x.pl.normal [] w6 H6.out.normal H6.out.normal)
    rw [show ((x.pl.off == x.pl.off) && (x.pl.normal == x.pl.normal)) = true by simp] at HS
    go_wp2_with fail
    refine HS.out.mono ?_
    rintro e w8 ⟨rfl, hb8⟩
    have HB8 := Lib.hid (HB6.out.trans (hb8.mono HB6.out.size))
    clear hb8
    go_wp2_with fail
    go_ret
    exact ⟨rfl, HB8.out⟩

theorem RecordNodes_walk (s : Array Value) (x : Nd) (place at_ : Int) (w : World) (h : kNd.At [] w s.toList x) (z : x.small) (hp : (Lit.int .i64 place).wf = true) (ha : (Lit.int .i64 at_).wf = true) :
    Calls Try.prog 9 #[.agg s, .int .i64 place, .int .i64 at_] w fun e w' => e = .returned (.bool true) ∧ Below w.heap.size w w' := by
  obtain ⟨vi, vn, h1, h2⟩ := nd_open h
  obtain rfl := Array.toList_inj.1 h1
  exact recordNodes_calls vi vn x place at_ w h2

end Go.Proofs.Ytonhpfenlnddkaa
