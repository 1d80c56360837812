/-
The law RecordApart.
-/
import Derived.Test.YtonhpfenlnddkaaRecSame
namespace Go.Proofs.Ytonhpfenlnddkaa
set_option linter.unusedVariables false
set_option linter.unusedSimpArgs false
open Go.RowKit

/-- A row's cells in a block. -/
def rwObj (v : Value) (x : Rw) (t : TypeId) : Obj := .cells #[.bool x.leaf, .int .i64 x.count, .int .i64 x.place, v, .int .i64 x.pl.off, .int .i64 x.right] t
structure RwCells (w : World) (b : Nat) (v : Value) (x : Rw) : Prop where
  c0 : w.cell? ⟨b, 0, none⟩ = some (.bool x.leaf)
  c1 : w.cell? ⟨b, 1, none⟩ = some (.int .i64 x.count)
  c2 : w.cell? ⟨b, 2, none⟩ = some (.int .i64 x.place)
  c3 : w.cell? ⟨b, 3, none⟩ = some v
  c4 : w.cell? ⟨b, 4, none⟩ = some (.int .i64 x.pl.off)
  c5 : w.cell? ⟨b, 5, none⟩ = some (.int .i64 x.right)
theorem rw_cells {w : World} {b : Nat} {v : Value} {x : Rw} {t : TypeId} (h : w.heap[b]? = some (rwObj v x t)) : RwCells w b v x := by
  unfold rwObj at h
  constructor <;> (rw [cell_of_block h]; rfl)

set_option maxHeartbeats 800000 in
set_option maxRecDepth 100000 in
theorem recordApart_calls (v1 v2 : Value) (x y : Rw) (dim : Int) (w : World) (h1 : RwAt [] w v1 x) (h2 : RwAt [] w v2 y) :
    Calls Try.prog 8 #[.agg #[.bool x.leaf, .int .i64 x.count, .int .i64 x.place, v1, .int .i64 x.pl.off, .int .i64 x.right], .agg #[.bool y.leaf, .int .i64 y.count, .int .i64 y.place, v2, .int .i64 y.pl.off, .int .i64 y.right], .int .i64 dim] w
      fun e w' => e = .returned (.bool true) ∧ Below w.heap.size w w' := by
  obtain ⟨ao1, cap1, rfl, hl1, hcap1⟩ := slice_form' h1.normal
  obtain ⟨ao2, cap2, rfl, hl2, hcap2⟩ := slice_form' h2.normal
  unfold maxLen at hcap1 hcap2
  obtain ⟨W0, hW0⟩ : ∃ W0, (w.alloc (rwObj (.slice ao1 x.pl.normal.length cap1) x 72)).alloc (rwObj (.slice ao2 y.pl.normal.length cap2) y 72) = W0 := ⟨_, rfl⟩
  have hb0 : Below w.heap.size w W0 := by rw [← hW0]; exact ((Below.refl w.heap.size w).alloc (Nat.le_refl _) _).alloc (by simp) _
  have hx0 : W0.heap[w.heap.size]? = some (rwObj (.slice ao1 x.pl.normal.length cap1) x 72) := by rw [← hW0]; exact alloc2_fst w _ _
  have hy0 : W0.heap[w.heap.size + 1]? = some (rwObj (.slice ao2 y.pl.normal.length cap2) y 72) := by rw [← hW0]; exact alloc2_snd w _ _
  unfold rwObj at hW0
  have HA := Lib.hid (awake15_calls W0)
  have HB0 := Lib.hid hb0
  have HX0 := Lib.hid hx0
  have HY0 := Lib.hid hy0
  have H1 := Lib.hid (h1.below hb0)
  have H2 := Lib.hid (h2.below hb0)
  have hlx := block_lt hx0
  have hly := block_lt hy0
  clear h1 h2 hb0 hx0 hy0
  go_enter Try.func8, Try.ntmps8
  go_wp2_with fail
  refine HA.out.mono ?_
  rintro e w1 ⟨rfl, hb1⟩
  clear hW0
  have HB1 := Lib.hid (HB0.out.trans (hb1.mono HB0.out.size))
  have HX1 := Lib.hid ((hb1.block _ hlx).trans HX0.out)
  have HY1 := Lib.hid ((hb1.block _ hly).trans HY0.out)
  have K1 := Lib.hid (H1.out.below hb1)
  have K2 := Lib.hid (H2.out.below hb1)
  clear hb1 HA
  obtain ⟨c0, c1, c2, c3, c4, c5⟩ := rw_cells HX1.out
  obtain ⟨d0, d1, d2, d3, d4, d5⟩ := rw_cells HY1.out
  by_cases hn1 : 1100 < x.pl.normal.length
  · go_wp2_with fail
    go_ret
    exact ⟨rfl, HB1.out⟩
  by_cases hn2 : 1100 < y.pl.normal.length
  · go_wp2_with fail
    go_ret
    exact ⟨rfl, HB1.out⟩
  have HR1 := Lib.hid (row_calls _ x [] w1 K1.out)
  go_wp2_with fail
  refine HR1.out.mono ?_
  rintro e w2 ⟨rfl, hb2⟩
  have HB2 := Lib.hid (HB1.out.trans (hb2.mono HB1.out.size))
  have HX2 := Lib.hid ((hb2.block _ (block_lt HX1.out)).trans HX1.out)
  have HY2 := Lib.hid ((hb2.block _ (block_lt HY1.out)).trans HY1.out)
  have K1' := Lib.hid (K1.out.below hb2)
  have K2' := Lib.hid (K2.out.below hb2)
  have HP1 := Lib.hid (rec_put_calls _ x dim [] w2 K1'.out)
  clear hb2 HR1 c0 c1 c2 c3 c4 c5 d0 d1 d2 d3 d4 d5
  generalize hq1 : putRec x dim = q1 at *
  obtain ⟨s1, e1⟩ := q1
  have HQ1 := Lib.hid hq1
  clear hq1
  simp only at HP1
  go_wp2_with fail
  refine HP1.out.mono ?_
  rintro e w3 ⟨rfl, hb3⟩
  have HB3 := Lib.hid (HB2.out.trans (hb3.mono HB2.out.size))
  have HX3 := Lib.hid ((hb3.block _ (block_lt HX2.out)).trans HX2.out)
  have HY3 := Lib.hid ((hb3.block _ (block_lt HY2.out)).trans HY2.out)
  have L1 := Lib.hid (K1'.out.below hb3)
  have L2 := Lib.hid (K2'.out.below hb3)
  obtain ⟨d0, d1, d2, d3, d4, d5⟩ := rw_cells HY3.out
  have HR2 := Lib.hid (row_calls _ y [] w3 L2.out)
  clear hb3 HP1
  go_wp2_with fail
  refine HR2.out.mono ?_
  rintro e w4 ⟨rfl, hb4⟩
  have HB4 := Lib.hid (HB3.out.trans (hb4.mono HB3.out.size))
  have HX4 := Lib.hid ((hb4.block _ (block_lt HX3.out)).trans HX3.out)
  have HY4 := Lib.hid ((hb4.block _ (block_lt HY3.out)).trans HY3.out)
  have L1' := Lib.hid (L1.out.below hb4)
  have L2' := Lib.hid (L2.out.below hb4)
  have HP2 := Lib.hid (rec_put_calls _ y dim [] w4 L2'.out)
  clear hb4 HR2 d0 d1 d2 d3 d4 d5
  generalize hq2 : putRec y dim = q2 at *
  obtain ⟨s2, e2⟩ := q2
  have HQ2 := Lib.hid hq2
  clear hq2
  simp only at HP2
  go_wp2_with fail
  refine HP2.out.mono ?_
  rintro e w5 ⟨rfl, hb5⟩
  have HB5 := Lib.hid (HB4.out.trans (hb5.mono HB4.out.size))
  have HX5 := Lib.hid ((hb5.block _ (block_lt HX4.out)).trans HX4.out)
  have HY5 := Lib.hid ((hb5.block _ (block_lt HY4.out)).trans HY4.out)
  have M1 := Lib.hid (L1'.out.below hb5)
  have M2 := Lib.hid (L2'.out.below hb5)
  clear hb5 HP2
  by_cases he1 : e1 = 0
  · subst he1
    by_cases he2 : e2 = 0
    · subst he2
      obtain ⟨p1, p2, p3, p4, p5⟩ := putRec_ok (x := x) (dim := dim) (by rw [HQ1.out])
      obtain ⟨r1, r2, r3, r4, r5⟩ := putRec_ok (x := y) (dim := dim) (by rw [HQ2.out])
      rw [HQ1.out] at p4
      rw [HQ2.out] at r4
      simp only at p4 r4
      obtain ⟨t1, ht1⟩ := putI'_head x dim
      have hsz1 : (s1.size : Int) = 13 + 4 * dim := by rw [p4, strOfNums_size]; exact p5
      have hsz2 : (s2.size : Int) = 13 + 4 * dim := by rw [r4, strOfNums_size]; exact r5
      have hq : (s1.toList == s2.toList) = decide (x = y) := by
        rw [strB, p4, r4, Bool.eq_iff_iff, beqB, decide_eq_true_eq]
        constructor
        · intro h
          exact putI'_inj p3 r3 (str_inj (putI'_mem x dim) (putI'_mem y dim) h)
        · rintro rfl; rfl
      have hlen : (s1.size == s2.size) = true := by simp; omega
      have hlen2 : ((s1.size : Int) == (s2.size : Int)) = true := by simp; omega
      have hp1 : 0 < s1.size := by omega
      have hbt : ∀ h : 0 < s1.size, (((s1[0]'h).toNat : Nat) : Int) = (if x.leaf then 1 else 2) := by
        rw [ht1] at p4
        subst p4
        intro h
        cases x.leaf <;> rfl
      have HS := Lib.hid (fun W (hu : Upd [] w5 W) => ref15_same_calls _ _ x y [] W ⟨M1.out.normal.upd hu (by simp) (by simp), M1.out.wc, M1.out.wp, M1.out.wo, M1.out.wr⟩ ⟨M2.out.normal.upd hu (by simp) (by simp), M2.out.wc, M2.out.wp, M2.out.wo, M2.out.wr⟩)
      obtain ⟨c0, c1, c2, c3, c4, c5⟩ := rw_cells HX5.out
      obtain ⟨d0, d1, d2, d3, d4, d5⟩ := rw_cells HY5.out
      have hlx5 := block_lt HX5.out
      have hly5 := block_lt HY5.out
      obtain ⟨q, hqq⟩ : ∃ q, decide (x = y) = q := ⟨_, rfl⟩
      rw [hqq] at hq HS
      clear p1 p2 p3 p4 p5 r1 r2 r3 r4 r5 hqq ht1 hsz1 hsz2
      rcases hleaf : x.leaf with _ | _
      rotate_left
      · rw [hleaf] at c0 hbt HS
        simp only [Bool.false_eq_true, if_false, if_true] at hbt
        have HLF := Lib.hid hleaf
        clear hleaf
        go_wp2_with fail
        go_region_held3 (fun w' => w'.cell? ⟨w.heap.size, 0, none⟩ = some (.bool true) ∧ w'.cell? ⟨w.heap.size, 1, none⟩ = some (.int .i64 x.count) ∧ w'.cell? ⟨w.heap.size, 2, none⟩ = some (.int .i64 x.place) ∧ w'.cell? ⟨w.heap.size, 3, none⟩ = some (.slice ao1 x.pl.normal.length cap1) ∧
            w'.cell? ⟨w.heap.size, 4, none⟩ = some (.int .i64 x.pl.off) ∧ w'.cell? ⟨w.heap.size, 5, none⟩ = some (.int .i64 x.right) ∧ w'.cell? ⟨w.heap.size + 1, 0, none⟩ = some (.bool y.leaf) ∧ w'.cell? ⟨w.heap.size + 1, 1, none⟩ = some (.int .i64 y.count) ∧
            w'.cell? ⟨w.heap.size + 1, 2, none⟩ = some (.int .i64 y.place) ∧ w'.cell? ⟨w.heap.size + 1, 3, none⟩ = some (.slice ao2 y.pl.normal.length cap2) ∧ w'.cell? ⟨w.heap.size + 1, 4, none⟩ = some (.int .i64 y.pl.off) ∧ w'.cell? ⟨w.heap.size + 1, 5, none⟩ = some (.int .i64 y.right))
          (first | exact ⟨k0, k1, k2, k3, k4, k5, m0, m1, m2, m3, m4, m5⟩ | exact ⟨c0, c1, c2, c3, c4, c5, d0, d1, d2, d3, d4, d5⟩ | go_keep)
          (first
            | (go_at_call 34
               refine (HS.out _ (Upd.drewN [] w5 _)).mono ?_
               rintro e w6 ⟨rfl, hb6⟩
               have HB6 := Lib.hid (HB5.out.trans ((bdN _ w5 1).trans (hb6.mono (by have := HB5.out.size; simpa using this))))
               obtain ⟨k0, k1, k2, k3, k4, k5⟩ := rw_cells ((hb6.block _ hlx5).trans HX5.out)
               rw [HLF.out] at k0
               obtain ⟨m0, m1, m2, m3, m4, m5⟩ := rw_cells ((hb6.block _ hly5).trans HY5.out)
               clear hb6))
        go_wp2_with fail
        go_ret
        exact ⟨rfl, HB6.out⟩
      · rw [hleaf] at c0 hbt HS
        simp only [Bool.false_eq_true, if_false, if_true] at hbt
        have HLF := Lib.hid hleaf
        clear hleaf
        go_wp2_with fail
        go_region_held3 (fun w' => w'.cell? ⟨w.heap.size, 0, none⟩ = some (.bool false) ∧ w'.cell? ⟨w.heap.size, 1, none⟩ = some (.int .i64 x.count) ∧ w'.cell? ⟨w.heap.size, 2, none⟩ = some (.int .i64 x.place) ∧ w'.cell? ⟨w.heap.size, 3, none⟩ = some (.slice ao1 x.pl.normal.length cap1) ∧
            w'.cell? ⟨w.heap.size, 4, none⟩ = some (.int .i64 x.pl.off) ∧ w'.cell? ⟨w.heap.size, 5, none⟩ = some (.int .i64 x.right) ∧ w'.cell? ⟨w.heap.size + 1, 0, none⟩ = some (.bool y.leaf) ∧ w'.cell? ⟨w.heap.size + 1, 1, none⟩ = some (.int .i64 y.count) ∧
            w'.cell? ⟨w.heap.size + 1, 2, none⟩ = some (.int .i64 y.place) ∧ w'.cell? ⟨w.heap.size + 1, 3, none⟩ = some (.slice ao2 y.pl.normal.length cap2) ∧ w'.cell? ⟨w.heap.size + 1, 4, none⟩ = some (.int .i64 y.pl.off) ∧ w'.cell? ⟨w.heap.size + 1, 5, none⟩ = some (.int .i64 y.right))
          (first | exact ⟨k0, k1, k2, k3, k4, k5, m0, m1, m2, m3, m4, m5⟩ | exact ⟨c0, c1, c2, c3, c4, c5, d0, d1, d2, d3, d4, d5⟩ | go_keep)
          (first
            | (go_at_call 34
               refine (HS.out _ (Upd.drewN [] w5 _)).mono ?_
               rintro e w6 ⟨rfl, hb6⟩
               have HB6 := Lib.hid (HB5.out.trans ((bdN _ w5 1).trans (hb6.mono (by have := HB5.out.size; simpa using this))))
               obtain ⟨k0, k1, k2, k3, k4, k5⟩ := rw_cells ((hb6.block _ hlx5).trans HX5.out)
               rw [HLF.out] at k0
               obtain ⟨m0, m1, m2, m3, m4, m5⟩ := rw_cells ((hb6.block _ hly5).trans HY5.out)
               clear hb6))
        go_wp2_with fail
        go_ret
        exact ⟨rfl, HB6.out⟩
    · have he2b : (e2 != 0) = true := by simpa using he2
      clear he2
      go_wp2_with fail
      go_ret
      exact ⟨rfl, HB5.out⟩
  · have he1b : (e1 != 0) = true := by simpa using he1
    have he1c : (e1 == 0) = false := by simpa using he1
    have hs1 : s1 = ⟨#[]⟩ := by have := putRec_bad (x := x) (dim := dim) (by rw [HQ1.out]; exact he1); rw [HQ1.out] at this; exact this
    subst hs1
    clear he1
    go_wp2_with fail
    go_ret
    exact ⟨rfl, HB5.out⟩

end Go.Proofs.Ytonhpfenlnddkaa
