/-
The law RecordTells.
-/
import Derived.Test.YtfkmkhojedfccaaRef15G
import Derived.Test.YtfkmkhojedfccaaRecBack
namespace Go.Proofs.Ytfkmkhojedfccaa
set_option linter.unusedVariables false
set_option linter.unusedSimpArgs false
open Go.RowKit

set_option maxHeartbeats 4000000 in
set_option maxRecDepth 100000 in
theorem recordTells_calls (v1 : Value) (x : Rw) (s : ByteArray) (dim : Int) (w : World) (h1 : RwAt [] w v1 x) :
    Calls Try.prog 3 #[.agg #[.bool x.leaf, .int .i64 x.count, .int .i64 x.place, v1, .int .i64 x.pl.off, .int .i64 x.right], .string s, .int .i64 dim] w
      fun e w' => e = .returned (.bool true) ∧ Below w.heap.size w w' := by
  obtain ⟨ao1, cap1, rfl, hl1, hcap1⟩ := slice_form' h1.normal
  unfold maxLen at hcap1
  obtain ⟨W0, hW0⟩ : ∃ W0, w.alloc (rwObj (.slice ao1 x.pl.normal.length cap1) x 26) = W0 := ⟨_, rfl⟩
  have hb0 : Below w.heap.size w W0 := by rw [← hW0]; exact (Below.refl w.heap.size w).alloc (Nat.le_refl _) _
  have hx0 : W0.heap[w.heap.size]? = some (rwObj (.slice ao1 x.pl.normal.length cap1) x 26) := by rw [← hW0]; exact Go.heap_alloc_new w _
  unfold rwObj at hW0
  have HA := Lib.hid (awake15_calls W0)
  have HB0 := Lib.hid hb0
  have HX0 := Lib.hid hx0
  have H1 := Lib.hid (h1.below hb0)
  have hlx := block_lt hx0
  clear h1 hb0 hx0
  go_enter Try.func3, Try.ntmps3
  go_wp2_with fail
  refine HA.out.mono ?_
  rintro e w1 ⟨rfl, hb1⟩
  clear hW0
  have HB1 := Lib.hid (HB0.out.trans (hb1.mono HB0.out.size))
  have HX1 := Lib.hid ((hb1.block _ hlx).trans HX0.out)
  have K1 := Lib.hid (H1.out.below hb1)
  clear hb1 HA
  obtain ⟨c0, c1, c2, c3, c4, c5⟩ := rw_cells HX1.out
  by_cases hn1 : 1100 < x.pl.normal.length
  · go_wp2_with fail
    go_ret
    exact ⟨rfl, HB1.out⟩
  by_cases hn2 : 5000 < s.size
  · go_wp2_with fail
    go_ret
    exact ⟨rfl, HB1.out⟩
  have HR1 := Lib.hid (row_calls _ x [] w1 K1.out)
  go_wp2_with fail
  refine HR1.out.mono ?_
  rintro e w2 ⟨rfl, hb2⟩
  have HB2 := Lib.hid (HB1.out.trans (hb2.mono HB1.out.size))
  have HX2 := Lib.hid ((hb2.block _ (block_lt HX1.out)).trans HX1.out)
  have K2 := Lib.hid (K1.out.below hb2)
  have HP1 := Lib.hid (rec_put_calls _ x dim [] w2 K2.out)
  clear hb2 HR1 c0 c1 c2 c3 c4 c5
  have HP2 : Hid (∀ W, Below w2.heap.size w2 W → _) := Lib.hid (fun W hW => ref15_put_calls _ x dim [] W (K2.out.below hW))
  generalize hq1 : putRec x dim = q1 at *
  obtain ⟨s1, e1⟩ := q1
  clear hq1
  simp only at HP1 HP2
  have HZ : Hid (∀ W, Calls Try.prog 16 #[.int .i64 dim] W fun e w' => e = .returned (.int .i64 (if dim < 1 ∨ 1024 < dim then 0 else 13 + 4 * dim)) ∧ W = w') := Lib.hid (fun W => size_calls dim W)
  go_wp2_with fail
  refine HP1.out.mono ?_
  rintro e w3 ⟨rfl, hb3⟩
  have HB3 := Lib.hid (HB2.out.trans (hb3.mono HB2.out.size))
  have hx3 := (hb3.block _ (block_lt HX2.out)).trans HX2.out
  obtain ⟨c0, c1, c2, c3, c4, c5⟩ := rw_cells hx3
  have HP3 := Lib.hid (HP2.out w3 hb3)
  have HG : Hid (∀ W, _) := Lib.hid (fun W => rec_get_calls s dim (by omega) W)
  have HD : Hid (∀ W, _) := Lib.hid (fun W => ref15_get_calls s dim (by omega) W)
  clear hb3 HP1 HB2 HX2 HB1 HX1 K1 hx3 HP2
  go_wp2_with fail
  refine HP3.out.mono ?_
  rintro e w4 ⟨rfl, hb4⟩
  have HB4 := Lib.hid (HB3.out.trans (hb4.mono HB3.out.size))
  have HG4 := Lib.hid (HG.out w4)
  clear hb4 HP3 c0 c1 c2 c3 c4 c5 HG
  go_wp2_with fail
  refine HG4.out.mono ?_
  rintro e w5 ⟨vn, g, er, hge, rfl, hg, hb5⟩
  obtain ⟨ag, cg, rfl, hlg, hcg⟩ := slice_form' hg.normal
  unfold maxLen at hcg
  obtain ⟨W6, hW6⟩ : ∃ W, w5.alloc (rwObj (.slice ag g.pl.normal.length cg) g 31) = W := ⟨_, rfl⟩
  have hu6 : Upd [] w5 W6 := by rw [← hW6]; exact Upd.alloc [] w5 _
  have hg6 : W6.heap[w5.heap.size]? = some (rwObj (.slice ag g.pl.normal.length cg) g 31) := by rw [← hW6]; exact Go.heap_alloc_new w5 _
  unfold rwObj at hW6
  have HB6 := Lib.hid (HB4.out.trans ((hb5.trans (hu6.below.mono hb5.size)).mono HB4.out.size))
  have L6 := Lib.hid (hg.below hu6.below)
  have HG6 := Lib.hid hg6
  have HD6 := Lib.hid (HD.out W6)
  have HGE := Lib.hid hge
  clear hb5 hg hge hu6 hg6 HD HG4
  go_wp2_with fail
  refine HD6.out.mono ?_
  rintro e w7 ⟨vm, g', er', hge', rfl, hg', hb7⟩
  rw [HGE.out] at hge'
  obtain ⟨rfl, rfl⟩ := Prod.mk.inj hge'
  obtain ⟨am, cm, rfl, hlm, hcm⟩ := slice_form' hg'.normal
  unfold maxLen at hcm
  obtain ⟨W8, hW8⟩ : ∃ W, w7.alloc (rwObj (.slice am g.pl.normal.length cm) g 26) = W := ⟨_, rfl⟩
  have hu8 : Upd [] w7 W8 := by rw [← hW8]; exact Upd.alloc [] w7 _
  have hg8 : W8.heap[w7.heap.size]? = some (rwObj (.slice am g.pl.normal.length cm) g 26) := by rw [← hW8]; exact Go.heap_alloc_new w7 _
  unfold rwObj at hW8
  have HB8 := Lib.hid (HB6.out.trans ((hb7.trans (hu8.below.mono hb7.size)).mono HB6.out.size))
  have L8 := Lib.hid ((L6.out.below hb7).below hu8.below)
  have M8 := Lib.hid (hg'.below hu8.below)
  have HG8 := Lib.hid (upd_far hu8 ((hb7.block _ (block_lt HG6.out)).trans HG6.out) (by simp))
  have HM8 := Lib.hid hg8
  have HK : Hid (∀ W, Upd [] W8 W → Calls Try.prog 15 #[.agg #[.bool g.leaf, .int .i64 g.count, .int .i64 g.place, .slice ag g.pl.normal.length cg, .int .i64 g.pl.off, .int .i64 g.right]] W
    fun e w' => e = .returned (.agg #[.bool g.leaf, .int .i64 g.count, .int .i64 g.place, .slice ag g.pl.normal.length cg, .int .i64 g.pl.off, .int .i64 g.right]) ∧ Below W.heap.size W w') := Lib.hid (fun W hu => back_calls _ g [] W (L8.out.below hu.below))
  have HSM : Hid (∀ W, Upd [] W8 W → Calls Try.prog 14 #[.agg #[.bool g.leaf, .int .i64 g.count, .int .i64 g.place, .slice ag g.pl.normal.length cg, .int .i64 g.pl.off, .int .i64 g.right], .agg #[.bool g.leaf, .int .i64 g.count, .int .i64 g.place, .slice am g.pl.normal.length cm, .int .i64 g.pl.off, .int .i64 g.right]] W
    fun e w' => e = .returned (.bool true) ∧ Below W.heap.size W w') := Lib.hid (fun W hu => by
      have := ref15_same_calls _ _ g g [] W (L8.out.below hu.below) (M8.out.below hu.below)
      simpa using this)
  have CB : Hid (∀ W, Upd [] W8 W → RwCells W w5.heap.size (.slice ag g.pl.normal.length cg) g ∧ RwCells W w7.heap.size (.slice am g.pl.normal.length cm) g) := Lib.hid (fun W hu => ⟨rw_cells (upd_far hu HG8.out (by simp)), rw_cells (upd_far hu HM8.out (by simp))⟩)
  clear hb7 hg' hge' hu8 hg8 HD6 HGE
  have hee : (er == er) = true := by simp
  have hff : (e1 == e1) = true := by simp
  have hsz : ∀ z : Int, (z == z) = true := fun z => by simp
  -- THREE WAYS
  have CBS : Hid (∀ W, Upd [] W8 W → W.cell? ⟨w5.heap.size, 0, none⟩ = some (.bool g.leaf) ∧ W.cell? ⟨w5.heap.size, 1, none⟩ = some (.int .i64 g.count) ∧ W.cell? ⟨w5.heap.size, 2, none⟩ = some (.int .i64 g.place) ∧ W.cell? ⟨w5.heap.size, 3, none⟩ = some (.slice ag g.pl.normal.length cg) ∧ W.cell? ⟨w5.heap.size, 4, none⟩ = some (.int .i64 g.pl.off) ∧ W.cell? ⟨w5.heap.size, 5, none⟩ = some (.int .i64 g.right) ∧ W.cell? ⟨w7.heap.size, 0, none⟩ = some (.bool g.leaf) ∧ W.cell? ⟨w7.heap.size, 1, none⟩ = some (.int .i64 g.count) ∧ W.cell? ⟨w7.heap.size, 2, none⟩ = some (.int .i64 g.place) ∧ W.cell? ⟨w7.heap.size, 3, none⟩ = some (.slice am g.pl.normal.length cm) ∧ W.cell? ⟨w7.heap.size, 4, none⟩ = some (.int .i64 g.pl.off) ∧ W.cell? ⟨w7.heap.size, 5, none⟩ = some (.int .i64 g.right)) := Lib.hid (fun W hu => ⟨(CB.out W hu).1.c0, (CB.out W hu).1.c1, (CB.out W hu).1.c2, (CB.out W hu).1.c3, (CB.out W hu).1.c4, (CB.out W hu).1.c5, (CB.out W hu).2.c0, (CB.out W hu).2.c1, (CB.out W hu).2.c2, (CB.out W hu).2.c3, (CB.out W hu).2.c4, (CB.out W hu).2.c5⟩)
  rcases Classical.em (dim < 1) with hd1 | hd1
  · rw [if_pos (.inl hd1)] at HZ
    go_wp2_with fail
    refine wp_region_noPanic ?_
    refine wp_region_held_drew (S := (fun w' => w'.cell? ⟨w5.heap.size, 0, none⟩ = some (.bool g.leaf) ∧ w'.cell? ⟨w5.heap.size, 1, none⟩ = some (.int .i64 g.count) ∧ w'.cell? ⟨w5.heap.size, 2, none⟩ = some (.int .i64 g.place) ∧ w'.cell? ⟨w5.heap.size, 3, none⟩ = some (.slice ag g.pl.normal.length cg) ∧ w'.cell? ⟨w5.heap.size, 4, none⟩ = some (.int .i64 g.pl.off) ∧ w'.cell? ⟨w5.heap.size, 5, none⟩ = some (.int .i64 g.right) ∧ w'.cell? ⟨w7.heap.size, 0, none⟩ = some (.bool g.leaf) ∧ w'.cell? ⟨w7.heap.size, 1, none⟩ = some (.int .i64 g.count) ∧ w'.cell? ⟨w7.heap.size, 2, none⟩ = some (.int .i64 g.place) ∧ w'.cell? ⟨w7.heap.size, 3, none⟩ = some (.slice am g.pl.normal.length cm) ∧ w'.cell? ⟨w7.heap.size, 4, none⟩ = some (.int .i64 g.pl.off) ∧ w'.cell? ⟨w7.heap.size, 5, none⟩ = some (.int .i64 g.right))) (by kernel_rfl) ?_ (fun hHeld => ?_)
    · (try dsimp only)
      exact CBS.out _ (Upd.drew [] W8)
    refine wpAnyH_take (i := 0) (oi := ?_) (v := ?_) ?_ (by kernel_rfl) (by kernel_rfl) (by kernel_rfl) (fun _ _ _ h => h) ?_ (by assumption) ?_
    (rotate_left 2; focus (simp only [List.getElem?_toArray, List.getElem?_cons_succ, List.getElem?_cons_zero]; rfl))
    (focus (refine Or.inl ⟨by rfl, ?_⟩; intro w hSw; (try dsimp only at hSw); go_simp; any_goals with_reducible rfl))
    (try simp only [Act.put, List.setIfInBounds_toArray, List.set_cons_zero, List.set_cons_succ])
    refine wpAnyH_take (i := 1) (oi := ?_) (v := ?_) ?_ (by kernel_rfl) (by kernel_rfl) (by kernel_rfl) (fun _ _ _ h => h) ?_ (by assumption) ?_
    (rotate_left 2; focus (simp only [List.getElem?_toArray, List.getElem?_cons_succ, List.getElem?_cons_zero]; rfl))
    (focus (refine Or.inl ⟨by rfl, ?_⟩; intro w hSw; (try dsimp only at hSw); go_simp; any_goals with_reducible rfl))
    (try simp only [Act.put, List.setIfInBounds_toArray, List.set_cons_zero, List.set_cons_succ])
    refine wpAnyH_take (i := 2) (oi := ?_) (v := ?_) ?_ (by kernel_rfl) (by kernel_rfl) (by kernel_rfl) (fun _ _ _ h => h) ?_ (by assumption) ?_
    (rotate_left 2; focus (simp only [List.getElem?_toArray, List.getElem?_cons_succ, List.getElem?_cons_zero]; rfl))
    (focus (refine Or.inl ⟨by rfl, ?_⟩; intro w hSw; (try dsimp only at hSw); go_simp; any_goals with_reducible rfl))
    (try simp only [Act.put, List.setIfInBounds_toArray, List.set_cons_zero, List.set_cons_succ])
    refine wpAnyH_take (i := 3) (oi := ?_) (v := ?_) ?_ (by kernel_rfl) (by kernel_rfl) (by kernel_rfl) (fun _ _ _ h => h) ?_ (by assumption) ?_
    (rotate_left 2; focus (simp only [List.getElem?_toArray, List.getElem?_cons_succ, List.getElem?_cons_zero]; rfl))
    (focus (refine Or.inl ⟨by rfl, ?_⟩; intro w hSw; (try dsimp only at hSw); go_simp; any_goals with_reducible rfl))
    (try simp only [Act.put, List.setIfInBounds_toArray, List.set_cons_zero, List.set_cons_succ])
    refine wpAnyH_take (i := 4) (oi := ?_) (v := ?_) ?_ (by kernel_rfl) (by kernel_rfl) (by kernel_rfl) (fun _ _ _ h => h) ?_ (by assumption) ?_
    (rotate_left 2; focus (simp only [List.getElem?_toArray, List.getElem?_cons_succ, List.getElem?_cons_zero]; rfl))
    (focus (refine Or.inl ⟨by rfl, ?_⟩; intro w hSw; (try dsimp only at hSw); go_simp; any_goals with_reducible rfl))
    (try simp only [Act.put, List.setIfInBounds_toArray, List.set_cons_zero, List.set_cons_succ])
    refine wpAnyH_take (i := 5) (oi := ?_) (v := ?_) ?_ (by kernel_rfl) (by kernel_rfl) (by kernel_rfl) (fun _ _ _ h => h) ?_ (by assumption) ?_
    (rotate_left 2; focus (simp only [List.getElem?_toArray, List.getElem?_cons_succ, List.getElem?_cons_zero]; rfl))
    (focus (refine Or.inl ⟨by rfl, ?_⟩; intro w hSw; (try dsimp only at hSw); go_simp; any_goals with_reducible rfl))
    (try simp only [Act.put, List.setIfInBounds_toArray, List.set_cons_zero, List.set_cons_succ])
    refine wpAnyH_take (i := 6) (oi := ?_) (v := ?_) ?_ (by kernel_rfl) (by kernel_rfl) (by kernel_rfl) (fun _ _ _ h => h) ?_ (by assumption) ?_
    (rotate_left 2; focus (simp only [List.getElem?_toArray, List.getElem?_cons_succ, List.getElem?_cons_zero]; rfl))
    (focus (refine Or.inl ⟨by rfl, ?_⟩; intro w hSw; (try dsimp only at hSw); go_simp; any_goals with_reducible rfl))
    (try simp only [Act.put, List.setIfInBounds_toArray, List.set_cons_zero, List.set_cons_succ])
    refine wpAnyH_take (i := 7) (oi := ?_) (v := ?_) ?_ (by kernel_rfl) (by kernel_rfl) (by kernel_rfl) (fun _ _ _ h => h) ?_ (by assumption) ?_
    (rotate_left 2; focus (simp only [List.getElem?_toArray, List.getElem?_cons_succ, List.getElem?_cons_zero]; rfl))
    (focus (refine Or.inl ⟨by rfl, ?_⟩; intro w hSw; (try dsimp only at hSw); go_simp; any_goals with_reducible rfl))
    (try simp only [Act.put, List.setIfInBounds_toArray, List.set_cons_zero, List.set_cons_succ])
    refine wpAnyH_take (i := 8) (oi := ?_) (v := ?_) ?_ (by kernel_rfl) (by kernel_rfl) (by kernel_rfl) (fun _ _ _ h => h) ?_ (by assumption) ?_
    (rotate_left 2; focus (simp only [List.getElem?_toArray, List.getElem?_cons_succ, List.getElem?_cons_zero]; rfl))
    (focus (refine Or.inl ⟨by rfl, ?_⟩; intro w hSw; (try dsimp only at hSw); go_simp; any_goals with_reducible rfl))
    (try simp only [Act.put, List.setIfInBounds_toArray, List.set_cons_zero, List.set_cons_succ])
    refine wpAnyH_take (i := 9) (oi := ?_) (v := ?_) ?_ (by kernel_rfl) (by kernel_rfl) (by kernel_rfl) (fun _ _ _ h => h) ?_ (by assumption) ?_
    (rotate_left 2; focus (simp only [List.getElem?_toArray, List.getElem?_cons_succ, List.getElem?_cons_zero]; rfl))
    (focus (refine Or.inl ⟨by rfl, ?_⟩; intro w hSw; (try dsimp only at hSw); go_simp; any_goals with_reducible rfl))
    (try simp only [Act.put, List.setIfInBounds_toArray, List.set_cons_zero, List.set_cons_succ])
    refine wpAnyH_take (i := 11) (oi := ?_) (v := ?_) ?_ (by kernel_rfl) (by kernel_rfl) (by kernel_rfl) (fun _ _ _ h => h) ?_ (by assumption) ?_
    (rotate_left 2; focus (simp only [List.getElem?_toArray, List.getElem?_cons_succ, List.getElem?_cons_zero]; rfl))
    (focus (refine Or.inl ⟨by rfl, ?_⟩; intro w hSw; (try dsimp only at hSw); go_simp; any_goals with_reducible rfl))
    (try simp only [Act.put, List.setIfInBounds_toArray, List.set_cons_zero, List.set_cons_succ])
    refine wpAnyH_ready (rs := [10]) (by kernel_rfl) (by simp) (AllReadyH.cons (by simp only [List.getElem?_toArray, List.getElem?_cons_succ, List.getElem?_cons_zero]; rfl) (fun K hK => ?_) AllReadyH.nil)
    go_simp
    go_at_call 15
    refine (HK.out _ (Upd.drew [] W8)).mono ?_
    rintro e v1 ⟨rfl, hb1⟩
    have HU1 : Hid (Upd [] W8 v1) := Lib.hid ((Upd.drew [] W8).trans (Upd.ofBelow hb1 []))
    clear hb1
    (try go_wp2_with fail)
    refine hK.out _ _ ?_ (fun hNew => ?_)
    · (try dsimp only)
      exact CBS.out _ HU1.out
    clear hK K hHeld
    have hHeld := hNew
    clear hNew
    (try simp only [Act.put, List.setIfInBounds_toArray, List.set_cons_zero, List.set_cons_succ])
    refine wpAnyH_ready (rs := [12]) (by kernel_rfl) (by simp) (AllReadyH.cons (by simp only [List.getElem?_toArray, List.getElem?_cons_succ, List.getElem?_cons_zero]; rfl) (fun K hK => ?_) AllReadyH.nil)
    go_simp
    go_at_call 14
    refine (HSM.out _ (HU1.out)).mono ?_
    rintro e v2 ⟨rfl, hb2⟩
    have HU2 : Hid (Upd [] W8 v2) := Lib.hid ((HU1.out).trans (Upd.ofBelow hb2 []))
    clear hb2
    (try go_wp2_with fail)
    refine hK.out _ _ ?_ (fun hNew => ?_)
    · (try dsimp only)
      exact CBS.out _ HU2.out
    clear hK K hHeld
    have hHeld := hNew
    clear hNew
    (try simp only [Act.put, List.setIfInBounds_toArray, List.set_cons_zero, List.set_cons_succ])
    refine wpAnyH_take (i := 13) (oi := ?_) (v := ?_) ?_ (by kernel_rfl) (by kernel_rfl) (by kernel_rfl) (fun _ _ _ h => h) ?_ (by assumption) ?_
    (rotate_left 2; focus (simp only [List.getElem?_toArray, List.getElem?_cons_succ, List.getElem?_cons_zero]; rfl))
    (focus (refine Or.inl ⟨by rfl, ?_⟩; intro w hSw; (try dsimp only at hSw); go_simp; any_goals with_reducible rfl))
    (try simp only [Act.put, List.setIfInBounds_toArray, List.set_cons_zero, List.set_cons_succ])
    refine wpAnyH_take (i := 14) (oi := ?_) (v := ?_) ?_ (by kernel_rfl) (by kernel_rfl) (by kernel_rfl) (fun _ _ _ h => h) ?_ (by assumption) ?_
    (rotate_left 2; focus (simp only [List.getElem?_toArray, List.getElem?_cons_succ, List.getElem?_cons_zero]; rfl))
    (focus (refine Or.inl ⟨by rfl, ?_⟩; intro w hSw; (try dsimp only at hSw); go_simp; any_goals with_reducible rfl))
    (try simp only [Act.put, List.setIfInBounds_toArray, List.set_cons_zero, List.set_cons_succ])
    refine wpAnyH_take (i := 15) (oi := ?_) (v := ?_) ?_ (by kernel_rfl) (by kernel_rfl) (by kernel_rfl) (fun _ _ _ h => h) ?_ (by assumption) ?_
    (rotate_left 2; focus (simp only [List.getElem?_toArray, List.getElem?_cons_succ, List.getElem?_cons_zero]; rfl))
    (focus (refine Or.inl ⟨by rfl, ?_⟩; intro w hSw; (try dsimp only at hSw); go_simp; any_goals with_reducible rfl))
    (try simp only [Act.put, List.setIfInBounds_toArray, List.set_cons_zero, List.set_cons_succ])
    refine wpAnyH_take (i := 16) (oi := ?_) (v := ?_) ?_ (by kernel_rfl) (by kernel_rfl) (by kernel_rfl) (fun _ _ _ h => h) ?_ (by assumption) ?_
    (rotate_left 2; focus (simp only [List.getElem?_toArray, List.getElem?_cons_succ, List.getElem?_cons_zero]; rfl))
    (focus (refine Or.inl ⟨by rfl, ?_⟩; intro w hSw; (try dsimp only at hSw); go_simp; any_goals with_reducible rfl))
    (try simp only [Act.put, List.setIfInBounds_toArray, List.set_cons_zero, List.set_cons_succ])
    refine wpAnyH_take (i := 17) (oi := ?_) (v := ?_) ?_ (by kernel_rfl) (by kernel_rfl) (by kernel_rfl) (fun _ _ _ h => h) ?_ (by assumption) ?_
    (rotate_left 2; focus (simp only [List.getElem?_toArray, List.getElem?_cons_succ, List.getElem?_cons_zero]; rfl))
    (focus (refine Or.inl ⟨by rfl, ?_⟩; intro w hSw; (try dsimp only at hSw); go_simp; any_goals with_reducible rfl))
    (try simp only [Act.put, List.setIfInBounds_toArray, List.set_cons_zero, List.set_cons_succ])
    refine wpAnyH_take (i := 18) (oi := ?_) (v := ?_) ?_ (by kernel_rfl) (by kernel_rfl) (by kernel_rfl) (fun _ _ _ h => h) ?_ (by assumption) ?_
    (rotate_left 2; focus (simp only [List.getElem?_toArray, List.getElem?_cons_succ, List.getElem?_cons_zero]; rfl))
    (focus (refine Or.inl ⟨by rfl, ?_⟩; intro w hSw; (try dsimp only at hSw); go_simp; any_goals with_reducible rfl))
    (try simp only [Act.put, List.setIfInBounds_toArray, List.set_cons_zero, List.set_cons_succ])
    refine wpAnyH_take (i := 19) (oi := ?_) (v := ?_) ?_ (by kernel_rfl) (by kernel_rfl) (by kernel_rfl) (fun _ _ _ h => h) ?_ (by assumption) ?_
    (rotate_left 2; focus (simp only [List.getElem?_toArray, List.getElem?_cons_succ, List.getElem?_cons_zero]; rfl))
    (focus (refine Or.inl ⟨by rfl, ?_⟩; intro w hSw; (try dsimp only at hSw); go_simp; any_goals with_reducible rfl))
    (try simp only [Act.put, List.setIfInBounds_toArray, List.set_cons_zero, List.set_cons_succ])
    refine wpAnyH_take (i := 20) (oi := ?_) (v := ?_) ?_ (by kernel_rfl) (by kernel_rfl) (by kernel_rfl) (fun _ _ _ h => h) ?_ (by assumption) ?_
    (rotate_left 2; focus (simp only [List.getElem?_toArray, List.getElem?_cons_succ, List.getElem?_cons_zero]; rfl))
    (focus (refine Or.inl ⟨by rfl, ?_⟩; intro w hSw; (try dsimp only at hSw); go_simp; any_goals with_reducible rfl))
    (try simp only [Act.put, List.setIfInBounds_toArray, List.set_cons_zero, List.set_cons_succ])
    refine wpAnyH_take (i := 22) (oi := ?_) (v := ?_) ?_ (by kernel_rfl) (by kernel_rfl) (by kernel_rfl) (fun _ _ _ h => h) ?_ (by assumption) ?_
    (rotate_left 2; focus (simp only [List.getElem?_toArray, List.getElem?_cons_succ, List.getElem?_cons_zero]; rfl))
    (focus (refine Or.inl ⟨by rfl, ?_⟩; intro w hSw; (try dsimp only at hSw); go_simp; any_goals with_reducible rfl))
    (try simp only [Act.put, List.setIfInBounds_toArray, List.set_cons_zero, List.set_cons_succ])
    refine wpAnyH_ready (rs := [21]) (by kernel_rfl) (by simp) (AllReadyH.cons (by simp only [List.getElem?_toArray, List.getElem?_cons_succ, List.getElem?_cons_zero]; rfl) (fun K hK => ?_) AllReadyH.nil)
    go_simp
    go_at_call 16
    refine (HZ.out _).mono ?_
    rintro e wz ⟨rfl, rfl⟩
    (try go_wp2_with fail)
    refine hK.out _ _ ?_ (fun hNew => ?_)
    · (try dsimp only)
      exact CBS.out _ (HU2.out)
    clear hK K hHeld
    have hHeld := hNew
    clear hNew
    (try simp only [Act.put, List.setIfInBounds_toArray, List.set_cons_zero, List.set_cons_succ])
    refine wpAnyH_take (i := 23) (oi := ?_) (v := ?_) ?_ (by kernel_rfl) (by kernel_rfl) (by kernel_rfl) (fun _ _ _ h => h) ?_ (by assumption) ?_
    (rotate_left 2; focus (simp only [List.getElem?_toArray, List.getElem?_cons_succ, List.getElem?_cons_zero]; rfl))
    (focus (refine Or.inl ⟨by rfl, ?_⟩; intro w hSw; (try dsimp only at hSw); go_simp; any_goals with_reducible rfl))
    (try simp only [Act.put, List.setIfInBounds_toArray, List.set_cons_zero, List.set_cons_succ])
    refine wpAnyH_take (i := 24) (oi := ?_) (v := ?_) ?_ (by kernel_rfl) (by kernel_rfl) (by kernel_rfl) (fun _ _ _ h => h) ?_ (by assumption) ?_
    (rotate_left 2; focus (simp only [List.getElem?_toArray, List.getElem?_cons_succ, List.getElem?_cons_zero]; rfl))
    (focus (refine Or.inl ⟨by rfl, ?_⟩; intro w hSw; (try dsimp only at hSw); go_simp; any_goals with_reducible rfl))
    (try simp only [Act.put, List.setIfInBounds_toArray, List.set_cons_zero, List.set_cons_succ])
    refine wpAnyH_take (i := 25) (oi := ?_) (v := ?_) ?_ (by kernel_rfl) (by kernel_rfl) (by kernel_rfl) (fun _ _ _ h => h) ?_ (by assumption) ?_
    (rotate_left 2; focus (simp only [List.getElem?_toArray, List.getElem?_cons_succ, List.getElem?_cons_zero]; rfl))
    (focus (refine Or.inl ⟨by rfl, ?_⟩; intro w hSw; (try dsimp only at hSw); go_simp; any_goals with_reducible rfl))
    (try simp only [Act.put, List.setIfInBounds_toArray, List.set_cons_zero, List.set_cons_succ])
    refine wpAnyH_done (by kernel_rfl) ?_ _
    refine NoPanic.normal ?_
    go_wp2_with fail
    go_ret
    exact ⟨by first | rfl | simp, HB8.out.trans ((HU2.out).below.mono HB8.out.size)⟩
  · rcases Classical.em (1024 < dim) with hd2 | hd2
    · rw [if_pos (.inr hd2)] at HZ
      go_wp2_with fail
      refine wp_region_noPanic ?_
      refine wp_region_held_drew (S := (fun w' => w'.cell? ⟨w5.heap.size, 0, none⟩ = some (.bool g.leaf) ∧ w'.cell? ⟨w5.heap.size, 1, none⟩ = some (.int .i64 g.count) ∧ w'.cell? ⟨w5.heap.size, 2, none⟩ = some (.int .i64 g.place) ∧ w'.cell? ⟨w5.heap.size, 3, none⟩ = some (.slice ag g.pl.normal.length cg) ∧ w'.cell? ⟨w5.heap.size, 4, none⟩ = some (.int .i64 g.pl.off) ∧ w'.cell? ⟨w5.heap.size, 5, none⟩ = some (.int .i64 g.right) ∧ w'.cell? ⟨w7.heap.size, 0, none⟩ = some (.bool g.leaf) ∧ w'.cell? ⟨w7.heap.size, 1, none⟩ = some (.int .i64 g.count) ∧ w'.cell? ⟨w7.heap.size, 2, none⟩ = some (.int .i64 g.place) ∧ w'.cell? ⟨w7.heap.size, 3, none⟩ = some (.slice am g.pl.normal.length cm) ∧ w'.cell? ⟨w7.heap.size, 4, none⟩ = some (.int .i64 g.pl.off) ∧ w'.cell? ⟨w7.heap.size, 5, none⟩ = some (.int .i64 g.right))) (by kernel_rfl) ?_ (fun hHeld => ?_)
      · (try dsimp only)
        exact CBS.out _ (Upd.drew [] W8)
      refine wpAnyH_take (i := 0) (oi := ?_) (v := ?_) ?_ (by kernel_rfl) (by kernel_rfl) (by kernel_rfl) (fun _ _ _ h => h) ?_ (by assumption) ?_
      (rotate_left 2; focus (simp only [List.getElem?_toArray, List.getElem?_cons_succ, List.getElem?_cons_zero]; rfl))
      (focus (refine Or.inl ⟨by rfl, ?_⟩; intro w hSw; (try dsimp only at hSw); go_simp; any_goals with_reducible rfl))
      (try simp only [Act.put, List.setIfInBounds_toArray, List.set_cons_zero, List.set_cons_succ])
      refine wpAnyH_take (i := 1) (oi := ?_) (v := ?_) ?_ (by kernel_rfl) (by kernel_rfl) (by kernel_rfl) (fun _ _ _ h => h) ?_ (by assumption) ?_
      (rotate_left 2; focus (simp only [List.getElem?_toArray, List.getElem?_cons_succ, List.getElem?_cons_zero]; rfl))
      (focus (refine Or.inl ⟨by rfl, ?_⟩; intro w hSw; (try dsimp only at hSw); go_simp; any_goals with_reducible rfl))
      (try simp only [Act.put, List.setIfInBounds_toArray, List.set_cons_zero, List.set_cons_succ])
      refine wpAnyH_take (i := 2) (oi := ?_) (v := ?_) ?_ (by kernel_rfl) (by kernel_rfl) (by kernel_rfl) (fun _ _ _ h => h) ?_ (by assumption) ?_
      (rotate_left 2; focus (simp only [List.getElem?_toArray, List.getElem?_cons_succ, List.getElem?_cons_zero]; rfl))
      (focus (refine Or.inl ⟨by rfl, ?_⟩; intro w hSw; (try dsimp only at hSw); go_simp; any_goals with_reducible rfl))
      (try simp only [Act.put, List.setIfInBounds_toArray, List.set_cons_zero, List.set_cons_succ])
      refine wpAnyH_take (i := 3) (oi := ?_) (v := ?_) ?_ (by kernel_rfl) (by kernel_rfl) (by kernel_rfl) (fun _ _ _ h => h) ?_ (by assumption) ?_
      (rotate_left 2; focus (simp only [List.getElem?_toArray, List.getElem?_cons_succ, List.getElem?_cons_zero]; rfl))
      (focus (refine Or.inl ⟨by rfl, ?_⟩; intro w hSw; (try dsimp only at hSw); go_simp; any_goals with_reducible rfl))
      (try simp only [Act.put, List.setIfInBounds_toArray, List.set_cons_zero, List.set_cons_succ])
      refine wpAnyH_take (i := 4) (oi := ?_) (v := ?_) ?_ (by kernel_rfl) (by kernel_rfl) (by kernel_rfl) (fun _ _ _ h => h) ?_ (by assumption) ?_
      (rotate_left 2; focus (simp only [List.getElem?_toArray, List.getElem?_cons_succ, List.getElem?_cons_zero]; rfl))
      (focus (refine Or.inl ⟨by rfl, ?_⟩; intro w hSw; (try dsimp only at hSw); go_simp; any_goals with_reducible rfl))
      (try simp only [Act.put, List.setIfInBounds_toArray, List.set_cons_zero, List.set_cons_succ])
      refine wpAnyH_take (i := 5) (oi := ?_) (v := ?_) ?_ (by kernel_rfl) (by kernel_rfl) (by kernel_rfl) (fun _ _ _ h => h) ?_ (by assumption) ?_
      (rotate_left 2; focus (simp only [List.getElem?_toArray, List.getElem?_cons_succ, List.getElem?_cons_zero]; rfl))
      (focus (refine Or.inl ⟨by rfl, ?_⟩; intro w hSw; (try dsimp only at hSw); go_simp; any_goals with_reducible rfl))
      (try simp only [Act.put, List.setIfInBounds_toArray, List.set_cons_zero, List.set_cons_succ])
      refine wpAnyH_take (i := 6) (oi := ?_) (v := ?_) ?_ (by kernel_rfl) (by kernel_rfl) (by kernel_rfl) (fun _ _ _ h => h) ?_ (by assumption) ?_
      (rotate_left 2; focus (simp only [List.getElem?_toArray, List.getElem?_cons_succ, List.getElem?_cons_zero]; rfl))
      (focus (refine Or.inl ⟨by rfl, ?_⟩; intro w hSw; (try dsimp only at hSw); go_simp; any_goals with_reducible rfl))
      (try simp only [Act.put, List.setIfInBounds_toArray, List.set_cons_zero, List.set_cons_succ])
      refine wpAnyH_take (i := 7) (oi := ?_) (v := ?_) ?_ (by kernel_rfl) (by kernel_rfl) (by kernel_rfl) (fun _ _ _ h => h) ?_ (by assumption) ?_
      (rotate_left 2; focus (simp only [List.getElem?_toArray, List.getElem?_cons_succ, List.getElem?_cons_zero]; rfl))
      (focus (refine Or.inl ⟨by rfl, ?_⟩; intro w hSw; (try dsimp only at hSw); go_simp; any_goals with_reducible rfl))
      (try simp only [Act.put, List.setIfInBounds_toArray, List.set_cons_zero, List.set_cons_succ])
      refine wpAnyH_take (i := 8) (oi := ?_) (v := ?_) ?_ (by kernel_rfl) (by kernel_rfl) (by kernel_rfl) (fun _ _ _ h => h) ?_ (by assumption) ?_
      (rotate_left 2; focus (simp only [List.getElem?_toArray, List.getElem?_cons_succ, List.getElem?_cons_zero]; rfl))
      (focus (refine Or.inl ⟨by rfl, ?_⟩; intro w hSw; (try dsimp only at hSw); go_simp; any_goals with_reducible rfl))
      (try simp only [Act.put, List.setIfInBounds_toArray, List.set_cons_zero, List.set_cons_succ])
      refine wpAnyH_take (i := 9) (oi := ?_) (v := ?_) ?_ (by kernel_rfl) (by kernel_rfl) (by kernel_rfl) (fun _ _ _ h => h) ?_ (by assumption) ?_
      (rotate_left 2; focus (simp only [List.getElem?_toArray, List.getElem?_cons_succ, List.getElem?_cons_zero]; rfl))
      (focus (refine Or.inl ⟨by rfl, ?_⟩; intro w hSw; (try dsimp only at hSw); go_simp; any_goals with_reducible rfl))
      (try simp only [Act.put, List.setIfInBounds_toArray, List.set_cons_zero, List.set_cons_succ])
      refine wpAnyH_take (i := 11) (oi := ?_) (v := ?_) ?_ (by kernel_rfl) (by kernel_rfl) (by kernel_rfl) (fun _ _ _ h => h) ?_ (by assumption) ?_
      (rotate_left 2; focus (simp only [List.getElem?_toArray, List.getElem?_cons_succ, List.getElem?_cons_zero]; rfl))
      (focus (refine Or.inl ⟨by rfl, ?_⟩; intro w hSw; (try dsimp only at hSw); go_simp; any_goals with_reducible rfl))
      (try simp only [Act.put, List.setIfInBounds_toArray, List.set_cons_zero, List.set_cons_succ])
      refine wpAnyH_ready (rs := [10]) (by kernel_rfl) (by simp) (AllReadyH.cons (by simp only [List.getElem?_toArray, List.getElem?_cons_succ, List.getElem?_cons_zero]; rfl) (fun K hK => ?_) AllReadyH.nil)
      go_simp
      go_at_call 15
      refine (HK.out _ (Upd.drew [] W8)).mono ?_
      rintro e v1 ⟨rfl, hb1⟩
      have HU1 : Hid (Upd [] W8 v1) := Lib.hid ((Upd.drew [] W8).trans (Upd.ofBelow hb1 []))
      clear hb1
      (try go_wp2_with fail)
      refine hK.out _ _ ?_ (fun hNew => ?_)
      · (try dsimp only)
        exact CBS.out _ HU1.out
      clear hK K hHeld
      have hHeld := hNew
      clear hNew
      (try simp only [Act.put, List.setIfInBounds_toArray, List.set_cons_zero, List.set_cons_succ])
      refine wpAnyH_ready (rs := [12]) (by kernel_rfl) (by simp) (AllReadyH.cons (by simp only [List.getElem?_toArray, List.getElem?_cons_succ, List.getElem?_cons_zero]; rfl) (fun K hK => ?_) AllReadyH.nil)
      go_simp
      go_at_call 14
      refine (HSM.out _ (HU1.out)).mono ?_
      rintro e v2 ⟨rfl, hb2⟩
      have HU2 : Hid (Upd [] W8 v2) := Lib.hid ((HU1.out).trans (Upd.ofBelow hb2 []))
      clear hb2
      (try go_wp2_with fail)
      refine hK.out _ _ ?_ (fun hNew => ?_)
      · (try dsimp only)
        exact CBS.out _ HU2.out
      clear hK K hHeld
      have hHeld := hNew
      clear hNew
      (try simp only [Act.put, List.setIfInBounds_toArray, List.set_cons_zero, List.set_cons_succ])
      refine wpAnyH_take (i := 13) (oi := ?_) (v := ?_) ?_ (by kernel_rfl) (by kernel_rfl) (by kernel_rfl) (fun _ _ _ h => h) ?_ (by assumption) ?_
      (rotate_left 2; focus (simp only [List.getElem?_toArray, List.getElem?_cons_succ, List.getElem?_cons_zero]; rfl))
      (focus (refine Or.inl ⟨by rfl, ?_⟩; intro w hSw; (try dsimp only at hSw); go_simp; any_goals with_reducible rfl))
      (try simp only [Act.put, List.setIfInBounds_toArray, List.set_cons_zero, List.set_cons_succ])
      refine wpAnyH_take (i := 14) (oi := ?_) (v := ?_) ?_ (by kernel_rfl) (by kernel_rfl) (by kernel_rfl) (fun _ _ _ h => h) ?_ (by assumption) ?_
      (rotate_left 2; focus (simp only [List.getElem?_toArray, List.getElem?_cons_succ, List.getElem?_cons_zero]; rfl))
      (focus (refine Or.inl ⟨by rfl, ?_⟩; intro w hSw; (try dsimp only at hSw); go_simp; any_goals with_reducible rfl))
      (try simp only [Act.put, List.setIfInBounds_toArray, List.set_cons_zero, List.set_cons_succ])
      refine wpAnyH_take (i := 15) (oi := ?_) (v := ?_) ?_ (by kernel_rfl) (by kernel_rfl) (by kernel_rfl) (fun _ _ _ h => h) ?_ (by assumption) ?_
      (rotate_left 2; focus (simp only [List.getElem?_toArray, List.getElem?_cons_succ, List.getElem?_cons_zero]; rfl))
      (focus (refine Or.inl ⟨by rfl, ?_⟩; intro w hSw; (try dsimp only at hSw); go_simp; any_goals with_reducible rfl))
      (try simp only [Act.put, List.setIfInBounds_toArray, List.set_cons_zero, List.set_cons_succ])
      refine wpAnyH_take (i := 16) (oi := ?_) (v := ?_) ?_ (by kernel_rfl) (by kernel_rfl) (by kernel_rfl) (fun _ _ _ h => h) ?_ (by assumption) ?_
      (rotate_left 2; focus (simp only [List.getElem?_toArray, List.getElem?_cons_succ, List.getElem?_cons_zero]; rfl))
      (focus (refine Or.inl ⟨by rfl, ?_⟩; intro w hSw; (try dsimp only at hSw); go_simp; any_goals with_reducible rfl))
      (try simp only [Act.put, List.setIfInBounds_toArray, List.set_cons_zero, List.set_cons_succ])
      refine wpAnyH_take (i := 17) (oi := ?_) (v := ?_) ?_ (by kernel_rfl) (by kernel_rfl) (by kernel_rfl) (fun _ _ _ h => h) ?_ (by assumption) ?_
      (rotate_left 2; focus (simp only [List.getElem?_toArray, List.getElem?_cons_succ, List.getElem?_cons_zero]; rfl))
      (focus (refine Or.inl ⟨by rfl, ?_⟩; intro w hSw; (try dsimp only at hSw); go_simp; any_goals with_reducible rfl))
      (try simp only [Act.put, List.setIfInBounds_toArray, List.set_cons_zero, List.set_cons_succ])
      refine wpAnyH_take (i := 18) (oi := ?_) (v := ?_) ?_ (by kernel_rfl) (by kernel_rfl) (by kernel_rfl) (fun _ _ _ h => h) ?_ (by assumption) ?_
      (rotate_left 2; focus (simp only [List.getElem?_toArray, List.getElem?_cons_succ, List.getElem?_cons_zero]; rfl))
      (focus (refine Or.inl ⟨by rfl, ?_⟩; intro w hSw; (try dsimp only at hSw); go_simp; any_goals with_reducible rfl))
      (try simp only [Act.put, List.setIfInBounds_toArray, List.set_cons_zero, List.set_cons_succ])
      refine wpAnyH_take (i := 19) (oi := ?_) (v := ?_) ?_ (by kernel_rfl) (by kernel_rfl) (by kernel_rfl) (fun _ _ _ h => h) ?_ (by assumption) ?_
      (rotate_left 2; focus (simp only [List.getElem?_toArray, List.getElem?_cons_succ, List.getElem?_cons_zero]; rfl))
      (focus (refine Or.inl ⟨by rfl, ?_⟩; intro w hSw; (try dsimp only at hSw); go_simp; any_goals with_reducible rfl))
      (try simp only [Act.put, List.setIfInBounds_toArray, List.set_cons_zero, List.set_cons_succ])
      refine wpAnyH_take (i := 20) (oi := ?_) (v := ?_) ?_ (by kernel_rfl) (by kernel_rfl) (by kernel_rfl) (fun _ _ _ h => h) ?_ (by assumption) ?_
      (rotate_left 2; focus (simp only [List.getElem?_toArray, List.getElem?_cons_succ, List.getElem?_cons_zero]; rfl))
      (focus (refine Or.inl ⟨by rfl, ?_⟩; intro w hSw; (try dsimp only at hSw); go_simp; any_goals with_reducible rfl))
      (try simp only [Act.put, List.setIfInBounds_toArray, List.set_cons_zero, List.set_cons_succ])
      refine wpAnyH_take (i := 22) (oi := ?_) (v := ?_) ?_ (by kernel_rfl) (by kernel_rfl) (by kernel_rfl) (fun _ _ _ h => h) ?_ (by assumption) ?_
      (rotate_left 2; focus (simp only [List.getElem?_toArray, List.getElem?_cons_succ, List.getElem?_cons_zero]; rfl))
      (focus (refine Or.inl ⟨by rfl, ?_⟩; intro w hSw; (try dsimp only at hSw); go_simp; any_goals with_reducible rfl))
      (try simp only [Act.put, List.setIfInBounds_toArray, List.set_cons_zero, List.set_cons_succ])
      refine wpAnyH_ready (rs := [21]) (by kernel_rfl) (by simp) (AllReadyH.cons (by simp only [List.getElem?_toArray, List.getElem?_cons_succ, List.getElem?_cons_zero]; rfl) (fun K hK => ?_) AllReadyH.nil)
      go_simp
      go_at_call 16
      refine (HZ.out _).mono ?_
      rintro e wz ⟨rfl, rfl⟩
      (try go_wp2_with fail)
      refine hK.out _ _ ?_ (fun hNew => ?_)
      · (try dsimp only)
        exact CBS.out _ (HU2.out)
      clear hK K hHeld
      have hHeld := hNew
      clear hNew
      (try simp only [Act.put, List.setIfInBounds_toArray, List.set_cons_zero, List.set_cons_succ])
      refine wpAnyH_take (i := 23) (oi := ?_) (v := ?_) ?_ (by kernel_rfl) (by kernel_rfl) (by kernel_rfl) (fun _ _ _ h => h) ?_ (by assumption) ?_
      (rotate_left 2; focus (simp only [List.getElem?_toArray, List.getElem?_cons_succ, List.getElem?_cons_zero]; rfl))
      (focus (refine Or.inl ⟨by rfl, ?_⟩; intro w hSw; (try dsimp only at hSw); go_simp; any_goals with_reducible rfl))
      (try simp only [Act.put, List.setIfInBounds_toArray, List.set_cons_zero, List.set_cons_succ])
      refine wpAnyH_take (i := 24) (oi := ?_) (v := ?_) ?_ (by kernel_rfl) (by kernel_rfl) (by kernel_rfl) (fun _ _ _ h => h) ?_ (by assumption) ?_
      (rotate_left 2; focus (simp only [List.getElem?_toArray, List.getElem?_cons_succ, List.getElem?_cons_zero]; rfl))
      (focus (refine Or.inl ⟨by rfl, ?_⟩; intro w hSw; (try dsimp only at hSw); go_simp; any_goals with_reducible rfl))
      (try simp only [Act.put, List.setIfInBounds_toArray, List.set_cons_zero, List.set_cons_succ])
      refine wpAnyH_take (i := 25) (oi := ?_) (v := ?_) ?_ (by kernel_rfl) (by kernel_rfl) (by kernel_rfl) (fun _ _ _ h => h) ?_ (by assumption) ?_
      (rotate_left 2; focus (simp only [List.getElem?_toArray, List.getElem?_cons_succ, List.getElem?_cons_zero]; rfl))
      (focus (refine Or.inl ⟨by rfl, ?_⟩; intro w hSw; (try dsimp only at hSw); go_simp; any_goals with_reducible rfl))
      (try simp only [Act.put, List.setIfInBounds_toArray, List.set_cons_zero, List.set_cons_succ])
      refine wpAnyH_done (by kernel_rfl) ?_ _
      refine NoPanic.normal ?_
      go_wp2_with fail
      go_ret
      exact ⟨by first | rfl | simp, HB8.out.trans ((HU2.out).below.mono HB8.out.size)⟩
    · rw [if_neg (by omega)] at HZ
      have hwd : IntKind.i64.wrap (4 * dim) = 4 * dim := IntWalk.i64_in _ ⟨by omega, by omega⟩
      have hwe : IntKind.i64.wrap (13 + 4 * dim) = 13 + 4 * dim := IntWalk.i64_in _ ⟨by omega, by omega⟩
      go_wp2_with fail
      refine wp_region_noPanic ?_
      refine wp_region_held_drew (S := (fun w' => w'.cell? ⟨w5.heap.size, 0, none⟩ = some (.bool g.leaf) ∧ w'.cell? ⟨w5.heap.size, 1, none⟩ = some (.int .i64 g.count) ∧ w'.cell? ⟨w5.heap.size, 2, none⟩ = some (.int .i64 g.place) ∧ w'.cell? ⟨w5.heap.size, 3, none⟩ = some (.slice ag g.pl.normal.length cg) ∧ w'.cell? ⟨w5.heap.size, 4, none⟩ = some (.int .i64 g.pl.off) ∧ w'.cell? ⟨w5.heap.size, 5, none⟩ = some (.int .i64 g.right) ∧ w'.cell? ⟨w7.heap.size, 0, none⟩ = some (.bool g.leaf) ∧ w'.cell? ⟨w7.heap.size, 1, none⟩ = some (.int .i64 g.count) ∧ w'.cell? ⟨w7.heap.size, 2, none⟩ = some (.int .i64 g.place) ∧ w'.cell? ⟨w7.heap.size, 3, none⟩ = some (.slice am g.pl.normal.length cm) ∧ w'.cell? ⟨w7.heap.size, 4, none⟩ = some (.int .i64 g.pl.off) ∧ w'.cell? ⟨w7.heap.size, 5, none⟩ = some (.int .i64 g.right))) (by kernel_rfl) ?_ (fun hHeld => ?_)
      · (try dsimp only)
        exact CBS.out _ (Upd.drew [] W8)
      refine wpAnyH_take (i := 0) (oi := ?_) (v := ?_) ?_ (by kernel_rfl) (by kernel_rfl) (by kernel_rfl) (fun _ _ _ h => h) ?_ (by assumption) ?_
      (rotate_left 2; focus (simp only [List.getElem?_toArray, List.getElem?_cons_succ, List.getElem?_cons_zero]; rfl))
      (focus (refine Or.inl ⟨by rfl, ?_⟩; intro w hSw; (try dsimp only at hSw); go_simp; any_goals with_reducible rfl))
      (try simp only [Act.put, List.setIfInBounds_toArray, List.set_cons_zero, List.set_cons_succ])
      refine wpAnyH_take (i := 1) (oi := ?_) (v := ?_) ?_ (by kernel_rfl) (by kernel_rfl) (by kernel_rfl) (fun _ _ _ h => h) ?_ (by assumption) ?_
      (rotate_left 2; focus (simp only [List.getElem?_toArray, List.getElem?_cons_succ, List.getElem?_cons_zero]; rfl))
      (focus (refine Or.inl ⟨by rfl, ?_⟩; intro w hSw; (try dsimp only at hSw); go_simp; any_goals with_reducible rfl))
      (try simp only [Act.put, List.setIfInBounds_toArray, List.set_cons_zero, List.set_cons_succ])
      refine wpAnyH_take (i := 2) (oi := ?_) (v := ?_) ?_ (by kernel_rfl) (by kernel_rfl) (by kernel_rfl) (fun _ _ _ h => h) ?_ (by assumption) ?_
      (rotate_left 2; focus (simp only [List.getElem?_toArray, List.getElem?_cons_succ, List.getElem?_cons_zero]; rfl))
      (focus (refine Or.inl ⟨by rfl, ?_⟩; intro w hSw; (try dsimp only at hSw); go_simp; any_goals with_reducible rfl))
      (try simp only [Act.put, List.setIfInBounds_toArray, List.set_cons_zero, List.set_cons_succ])
      refine wpAnyH_take (i := 3) (oi := ?_) (v := ?_) ?_ (by kernel_rfl) (by kernel_rfl) (by kernel_rfl) (fun _ _ _ h => h) ?_ (by assumption) ?_
      (rotate_left 2; focus (simp only [List.getElem?_toArray, List.getElem?_cons_succ, List.getElem?_cons_zero]; rfl))
      (focus (refine Or.inl ⟨by rfl, ?_⟩; intro w hSw; (try dsimp only at hSw); go_simp; any_goals with_reducible rfl))
      (try simp only [Act.put, List.setIfInBounds_toArray, List.set_cons_zero, List.set_cons_succ])
      refine wpAnyH_take (i := 4) (oi := ?_) (v := ?_) ?_ (by kernel_rfl) (by kernel_rfl) (by kernel_rfl) (fun _ _ _ h => h) ?_ (by assumption) ?_
      (rotate_left 2; focus (simp only [List.getElem?_toArray, List.getElem?_cons_succ, List.getElem?_cons_zero]; rfl))
      (focus (refine Or.inl ⟨by rfl, ?_⟩; intro w hSw; (try dsimp only at hSw); go_simp; any_goals with_reducible rfl))
      (try simp only [Act.put, List.setIfInBounds_toArray, List.set_cons_zero, List.set_cons_succ])
      refine wpAnyH_take (i := 5) (oi := ?_) (v := ?_) ?_ (by kernel_rfl) (by kernel_rfl) (by kernel_rfl) (fun _ _ _ h => h) ?_ (by assumption) ?_
      (rotate_left 2; focus (simp only [List.getElem?_toArray, List.getElem?_cons_succ, List.getElem?_cons_zero]; rfl))
      (focus (refine Or.inl ⟨by rfl, ?_⟩; intro w hSw; (try dsimp only at hSw); go_simp; any_goals with_reducible rfl))
      (try simp only [Act.put, List.setIfInBounds_toArray, List.set_cons_zero, List.set_cons_succ])
      refine wpAnyH_take (i := 6) (oi := ?_) (v := ?_) ?_ (by kernel_rfl) (by kernel_rfl) (by kernel_rfl) (fun _ _ _ h => h) ?_ (by assumption) ?_
      (rotate_left 2; focus (simp only [List.getElem?_toArray, List.getElem?_cons_succ, List.getElem?_cons_zero]; rfl))
      (focus (refine Or.inl ⟨by rfl, ?_⟩; intro w hSw; (try dsimp only at hSw); go_simp; any_goals with_reducible rfl))
      (try simp only [Act.put, List.setIfInBounds_toArray, List.set_cons_zero, List.set_cons_succ])
      refine wpAnyH_take (i := 7) (oi := ?_) (v := ?_) ?_ (by kernel_rfl) (by kernel_rfl) (by kernel_rfl) (fun _ _ _ h => h) ?_ (by assumption) ?_
      (rotate_left 2; focus (simp only [List.getElem?_toArray, List.getElem?_cons_succ, List.getElem?_cons_zero]; rfl))
      (focus (refine Or.inl ⟨by rfl, ?_⟩; intro w hSw; (try dsimp only at hSw); go_simp; any_goals with_reducible rfl))
      (try simp only [Act.put, List.setIfInBounds_toArray, List.set_cons_zero, List.set_cons_succ])
      refine wpAnyH_take (i := 8) (oi := ?_) (v := ?_) ?_ (by kernel_rfl) (by kernel_rfl) (by kernel_rfl) (fun _ _ _ h => h) ?_ (by assumption) ?_
      (rotate_left 2; focus (simp only [List.getElem?_toArray, List.getElem?_cons_succ, List.getElem?_cons_zero]; rfl))
      (focus (refine Or.inl ⟨by rfl, ?_⟩; intro w hSw; (try dsimp only at hSw); go_simp; any_goals with_reducible rfl))
      (try simp only [Act.put, List.setIfInBounds_toArray, List.set_cons_zero, List.set_cons_succ])
      refine wpAnyH_take (i := 9) (oi := ?_) (v := ?_) ?_ (by kernel_rfl) (by kernel_rfl) (by kernel_rfl) (fun _ _ _ h => h) ?_ (by assumption) ?_
      (rotate_left 2; focus (simp only [List.getElem?_toArray, List.getElem?_cons_succ, List.getElem?_cons_zero]; rfl))
      (focus (refine Or.inl ⟨by rfl, ?_⟩; intro w hSw; (try dsimp only at hSw); go_simp; any_goals with_reducible rfl))
      (try simp only [Act.put, List.setIfInBounds_toArray, List.set_cons_zero, List.set_cons_succ])
      refine wpAnyH_take (i := 11) (oi := ?_) (v := ?_) ?_ (by kernel_rfl) (by kernel_rfl) (by kernel_rfl) (fun _ _ _ h => h) ?_ (by assumption) ?_
      (rotate_left 2; focus (simp only [List.getElem?_toArray, List.getElem?_cons_succ, List.getElem?_cons_zero]; rfl))
      (focus (refine Or.inl ⟨by rfl, ?_⟩; intro w hSw; (try dsimp only at hSw); go_simp; any_goals with_reducible rfl))
      (try simp only [Act.put, List.setIfInBounds_toArray, List.set_cons_zero, List.set_cons_succ])
      refine wpAnyH_ready (rs := [10]) (by kernel_rfl) (by simp) (AllReadyH.cons (by simp only [List.getElem?_toArray, List.getElem?_cons_succ, List.getElem?_cons_zero]; rfl) (fun K hK => ?_) AllReadyH.nil)
      go_simp
      go_at_call 15
      refine (HK.out _ (Upd.drew [] W8)).mono ?_
      rintro e v1 ⟨rfl, hb1⟩
      have HU1 : Hid (Upd [] W8 v1) := Lib.hid ((Upd.drew [] W8).trans (Upd.ofBelow hb1 []))
      clear hb1
      (try go_wp2_with fail)
      refine hK.out _ _ ?_ (fun hNew => ?_)
      · (try dsimp only)
        exact CBS.out _ HU1.out
      clear hK K hHeld
      have hHeld := hNew
      clear hNew
      (try simp only [Act.put, List.setIfInBounds_toArray, List.set_cons_zero, List.set_cons_succ])
      refine wpAnyH_ready (rs := [12]) (by kernel_rfl) (by simp) (AllReadyH.cons (by simp only [List.getElem?_toArray, List.getElem?_cons_succ, List.getElem?_cons_zero]; rfl) (fun K hK => ?_) AllReadyH.nil)
      go_simp
      go_at_call 14
      refine (HSM.out _ (HU1.out)).mono ?_
      rintro e v2 ⟨rfl, hb2⟩
      have HU2 : Hid (Upd [] W8 v2) := Lib.hid ((HU1.out).trans (Upd.ofBelow hb2 []))
      clear hb2
      (try go_wp2_with fail)
      refine hK.out _ _ ?_ (fun hNew => ?_)
      · (try dsimp only)
        exact CBS.out _ HU2.out
      clear hK K hHeld
      have hHeld := hNew
      clear hNew
      (try simp only [Act.put, List.setIfInBounds_toArray, List.set_cons_zero, List.set_cons_succ])
      refine wpAnyH_take (i := 13) (oi := ?_) (v := ?_) ?_ (by kernel_rfl) (by kernel_rfl) (by kernel_rfl) (fun _ _ _ h => h) ?_ (by assumption) ?_
      (rotate_left 2; focus (simp only [List.getElem?_toArray, List.getElem?_cons_succ, List.getElem?_cons_zero]; rfl))
      (focus (refine Or.inl ⟨by rfl, ?_⟩; intro w hSw; (try dsimp only at hSw); go_simp; any_goals with_reducible rfl))
      (try simp only [Act.put, List.setIfInBounds_toArray, List.set_cons_zero, List.set_cons_succ])
      refine wpAnyH_take (i := 14) (oi := ?_) (v := ?_) ?_ (by kernel_rfl) (by kernel_rfl) (by kernel_rfl) (fun _ _ _ h => h) ?_ (by assumption) ?_
      (rotate_left 2; focus (simp only [List.getElem?_toArray, List.getElem?_cons_succ, List.getElem?_cons_zero]; rfl))
      (focus (refine Or.inl ⟨by rfl, ?_⟩; intro w hSw; (try dsimp only at hSw); go_simp; any_goals with_reducible rfl))
      (try simp only [Act.put, List.setIfInBounds_toArray, List.set_cons_zero, List.set_cons_succ])
      refine wpAnyH_take (i := 15) (oi := ?_) (v := ?_) ?_ (by kernel_rfl) (by kernel_rfl) (by kernel_rfl) (fun _ _ _ h => h) ?_ (by assumption) ?_
      (rotate_left 2; focus (simp only [List.getElem?_toArray, List.getElem?_cons_succ, List.getElem?_cons_zero]; rfl))
      (focus (refine Or.inl ⟨by rfl, ?_⟩; intro w hSw; (try dsimp only at hSw); go_simp; any_goals with_reducible rfl))
      (try simp only [Act.put, List.setIfInBounds_toArray, List.set_cons_zero, List.set_cons_succ])
      refine wpAnyH_take (i := 16) (oi := ?_) (v := ?_) ?_ (by kernel_rfl) (by kernel_rfl) (by kernel_rfl) (fun _ _ _ h => h) ?_ (by assumption) ?_
      (rotate_left 2; focus (simp only [List.getElem?_toArray, List.getElem?_cons_succ, List.getElem?_cons_zero]; rfl))
      (focus (refine Or.inl ⟨by rfl, ?_⟩; intro w hSw; (try dsimp only at hSw); go_simp; any_goals with_reducible rfl))
      (try simp only [Act.put, List.setIfInBounds_toArray, List.set_cons_zero, List.set_cons_succ])
      refine wpAnyH_take (i := 17) (oi := ?_) (v := ?_) ?_ (by kernel_rfl) (by kernel_rfl) (by kernel_rfl) (fun _ _ _ h => h) ?_ (by assumption) ?_
      (rotate_left 2; focus (simp only [List.getElem?_toArray, List.getElem?_cons_succ, List.getElem?_cons_zero]; rfl))
      (focus (refine Or.inl ⟨by rfl, ?_⟩; intro w hSw; (try dsimp only at hSw); go_simp; any_goals with_reducible rfl))
      (try simp only [Act.put, List.setIfInBounds_toArray, List.set_cons_zero, List.set_cons_succ])
      refine wpAnyH_take (i := 18) (oi := ?_) (v := ?_) ?_ (by kernel_rfl) (by kernel_rfl) (by kernel_rfl) (fun _ _ _ h => h) ?_ (by assumption) ?_
      (rotate_left 2; focus (simp only [List.getElem?_toArray, List.getElem?_cons_succ, List.getElem?_cons_zero]; rfl))
      (focus (refine Or.inl ⟨by rfl, ?_⟩; intro w hSw; (try dsimp only at hSw); go_simp; any_goals with_reducible rfl))
      (try simp only [Act.put, List.setIfInBounds_toArray, List.set_cons_zero, List.set_cons_succ])
      refine wpAnyH_take (i := 19) (oi := ?_) (v := ?_) ?_ (by kernel_rfl) (by kernel_rfl) (by kernel_rfl) (fun _ _ _ h => h) ?_ (by assumption) ?_
      (rotate_left 2; focus (simp only [List.getElem?_toArray, List.getElem?_cons_succ, List.getElem?_cons_zero]; rfl))
      (focus (refine Or.inl ⟨by rfl, ?_⟩; intro w hSw; (try dsimp only at hSw); go_simp; any_goals with_reducible rfl))
      (try simp only [Act.put, List.setIfInBounds_toArray, List.set_cons_zero, List.set_cons_succ])
      refine wpAnyH_take (i := 20) (oi := ?_) (v := ?_) ?_ (by kernel_rfl) (by kernel_rfl) (by kernel_rfl) (fun _ _ _ h => h) ?_ (by assumption) ?_
      (rotate_left 2; focus (simp only [List.getElem?_toArray, List.getElem?_cons_succ, List.getElem?_cons_zero]; rfl))
      (focus (refine Or.inl ⟨by rfl, ?_⟩; intro w hSw; (try dsimp only at hSw); go_simp; any_goals with_reducible rfl))
      (try simp only [Act.put, List.setIfInBounds_toArray, List.set_cons_zero, List.set_cons_succ])
      refine wpAnyH_take (i := 22) (oi := ?_) (v := ?_) ?_ (by kernel_rfl) (by kernel_rfl) (by kernel_rfl) (fun _ _ _ h => h) ?_ (by assumption) ?_
      (rotate_left 2; focus (simp only [List.getElem?_toArray, List.getElem?_cons_succ, List.getElem?_cons_zero]; rfl))
      (focus (refine Or.inl ⟨by rfl, ?_⟩; intro w hSw; (try dsimp only at hSw); go_simp; any_goals with_reducible rfl))
      (try simp only [Act.put, List.setIfInBounds_toArray, List.set_cons_zero, List.set_cons_succ])
      refine wpAnyH_ready (rs := [21]) (by kernel_rfl) (by simp) (AllReadyH.cons (by simp only [List.getElem?_toArray, List.getElem?_cons_succ, List.getElem?_cons_zero]; rfl) (fun K hK => ?_) AllReadyH.nil)
      go_simp
      go_at_call 16
      refine (HZ.out _).mono ?_
      rintro e wz ⟨rfl, rfl⟩
      (try go_wp2_with fail)
      refine hK.out _ _ ?_ (fun hNew => ?_)
      · (try dsimp only)
        exact CBS.out _ (HU2.out)
      clear hK K hHeld
      have hHeld := hNew
      clear hNew
      (try simp only [Act.put, List.setIfInBounds_toArray, List.set_cons_zero, List.set_cons_succ])
      refine wpAnyH_take (i := 23) (oi := ?_) (v := ?_) ?_ (by kernel_rfl) (by kernel_rfl) (by kernel_rfl) (fun _ _ _ h => h) ?_ (by assumption) ?_
      (rotate_left 2; focus (simp only [List.getElem?_toArray, List.getElem?_cons_succ, List.getElem?_cons_zero]; rfl))
      (focus (refine Or.inl ⟨by rfl, ?_⟩; intro w hSw; (try dsimp only at hSw); go_simp; any_goals with_reducible rfl))
      (try simp only [Act.put, List.setIfInBounds_toArray, List.set_cons_zero, List.set_cons_succ])
      refine wpAnyH_take (i := 24) (oi := ?_) (v := ?_) ?_ (by kernel_rfl) (by kernel_rfl) (by kernel_rfl) (fun _ _ _ h => h) ?_ (by assumption) ?_
      (rotate_left 2; focus (simp only [List.getElem?_toArray, List.getElem?_cons_succ, List.getElem?_cons_zero]; rfl))
      (focus (refine Or.inl ⟨by rfl, ?_⟩; intro w hSw; (try dsimp only at hSw); go_simp; any_goals with_reducible rfl))
      (try simp only [Act.put, List.setIfInBounds_toArray, List.set_cons_zero, List.set_cons_succ])
      refine wpAnyH_take (i := 25) (oi := ?_) (v := ?_) ?_ (by kernel_rfl) (by kernel_rfl) (by kernel_rfl) (fun _ _ _ h => h) ?_ (by assumption) ?_
      (rotate_left 2; focus (simp only [List.getElem?_toArray, List.getElem?_cons_succ, List.getElem?_cons_zero]; rfl))
      (focus (refine Or.inl ⟨by rfl, ?_⟩; intro w hSw; (try dsimp only at hSw); go_simp; any_goals with_reducible rfl))
      (try simp only [Act.put, List.setIfInBounds_toArray, List.set_cons_zero, List.set_cons_succ])
      refine wpAnyH_done (by kernel_rfl) ?_ _
      refine NoPanic.normal ?_
      go_wp2_with fail
      go_ret
      exact ⟨by first | rfl | simp, HB8.out.trans ((HU2.out).below.mono HB8.out.size)⟩

theorem RecordTells_walk (s1 : Array Value) (x : Rw) (s : ByteArray) (dim : Int) (w : World) (h1 : kRw.At [] w s1.toList x) (z1 : x.small) (h2 : s.size ≤ 140737488351232) (hd : (Lit.int .i64 dim).wf = true) :
    Calls Try.prog 3 #[.agg s1, .string s, .int .i64 dim] w fun e w' => e = .returned (.bool true) ∧ Below w.heap.size w w' := by
  obtain ⟨v1, rfl, k1⟩ := rw_arr h1
  exact recordTells_calls v1 x s dim w k1

end Go.Proofs.Ytfkmkhojedfccaa
