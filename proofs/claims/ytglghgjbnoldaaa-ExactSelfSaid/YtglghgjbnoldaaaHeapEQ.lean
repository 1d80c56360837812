/-
The heap of topk's entries: Peek, Pop, New. (Turned by gen_heap3.py out of the heap of tasks.)
-/
import Derived.Test.YtglghgjbnoldaaaHeapES
import Derived.Test.YtglghgjbnoldaaaRes
namespace Go.Proofs.Ytglghgjbnoldaaa.E3
set_option linter.unusedVariables false
set_option linter.unusedSimpArgs false
open Go.RowKit Go.Proofs.Ytglghgjbnoldaaa
variable {sb : Nat}

theorem upd_set3 (w : World) (b : Nat) (v0 v1 v2 : Value) : Upd [b] w (((w.setCell ⟨b, 0, none⟩ v0).setCell ⟨b, 1, none⟩ v1).setCell ⟨b, 2, none⟩ v2) :=
  ((Upd.setCell (by simp) _).trans (Upd.setCell (by simp) _)).trans (Upd.setCell (by simp) _)
/-- Three cells of a block, laid anew. -/
theorem heap_set3 {w : World} {b : Nat} {cs : Array Value} {t : TypeId} (h : w.heap[b]? = some (.cells cs t)) (hn : cs.size = 3) (v0 v1 v2 : Value) :
    (((w.setCell ⟨b, 0, none⟩ v0).setCell ⟨b, 1, none⟩ v1).setCell ⟨b, 2, none⟩ v2).heap[b]? = some (.cells #[v0, v1, v2] t) := by
  obtain ⟨l⟩ := cs
  match l, hn, h with
  | [c0, c1, c2], _, h =>
    have h0 := heap_setCell_same w b 0 _ _ v0 h
    simp only [List.setIfInBounds_toArray, List.set_cons_zero] at h0
    have h1 := heap_setCell_same _ b 1 _ _ v1 h0
    simp only [List.setIfInBounds_toArray, List.set_cons_succ, List.set_cons_zero] at h1
    have h2 := heap_setCell_same _ b 2 _ _ v2 h1
    simp only [List.setIfInBounds_toArray, List.set_cons_succ, List.set_cons_zero] at h2
    exact h2

theorem heap_none {w : World} {B h : Nat} {fv v : Value} {l : List Tk} (H : IsHeap w B h fv v l) (hl : l = []) : ∃ ao cap, v = .slice ao 0 cap := by
  obtain ⟨ao, cap, rfl, _, _⟩ := row_form H.row
  subst hl
  exact ⟨ao, cap, rfl⟩

set_option maxHeartbeats 1000000 in
theorem peek_none (B : Nat) (fv v : Value) (h : Nat) (w : World) (H : IsHeap w B h fv v []) :
    Calls Try.prog 70 #[.pointer (some ⟨h, 0, none⟩)] w fun e w' => e = .returned (.tuple #[.agg #[.int .i64 0, .int .i64 0, .int .i64 0], .bool false]) ∧ Below w.heap.size w w' := by
  obtain ⟨ao, cap, rfl⟩ := heap_none H rfl
  obtain ⟨W0, hW0⟩ : ∃ W0, w.alloc (.cells #[.int .i64 0, .int .i64 0, .int .i64 0] 108) = W0 := ⟨_, rfl⟩
  have hb0 : Below w.heap.size w W0 := by rw [← hW0]; exact (Below.refl w.heap.size w).alloc (Nat.le_refl _) _
  have hx0 : W0.heap[w.heap.size]? = some (.cells #[.int .i64 0, .int .i64 0, .int .i64 0] 108) := by rw [← hW0]; exact Go.heap_alloc_new w _
  have hh0 := (hb0.block h (block_lt H.hd)).trans H.hd
  have c1 : W0.cell? ⟨h, 1, none⟩ = some (.slice ao 0 cap) := by rw [cell_of_block hh0]; rfl
  obtain ⟨W1, hW1⟩ : ∃ W1, W0.alloc (.cells #[.int .i64 0, .int .i64 0, .int .i64 0] 108) = W1 := ⟨_, rfl⟩
  have hb1 : Below w.heap.size w W1 := by rw [← hW1]; exact hb0.alloc hb0.size _
  have hx1 : W1.heap[w.heap.size]? = some (.cells #[.int .i64 0, .int .i64 0, .int .i64 0] 108) := by rw [← hW1]; exact (Below.heap_alloc _ _ _ (block_lt hx0)).trans hx0
  have hy1 : W1.heap[W0.heap.size]? = some (.cells #[.int .i64 0, .int .i64 0, .int .i64 0] 108) := by rw [← hW1]; exact Go.heap_alloc_new W0 _
  have HB1 := Lib.hid hb1
  have HX1 := Lib.hid hx1
  have z0 : W1.frozen? ⟨w.heap.size, 0, none⟩ = false := frozen_of_block hx1
  have z1 : W1.frozen? ⟨w.heap.size, 1, none⟩ = false := frozen_of_block hx1
  have z2 : W1.frozen? ⟨w.heap.size, 2, none⟩ = false := frozen_of_block hx1
  have a0 : W1.cell? ⟨w.heap.size, 0, none⟩ = some (.int .i64 0) := by rw [cell_of_block hx1]; rfl
  have a1 : W1.cell? ⟨w.heap.size, 1, none⟩ = some (.int .i64 0) := by rw [cell_of_block hx1]; rfl
  have a2 : W1.cell? ⟨w.heap.size, 2, none⟩ = some (.int .i64 0) := by rw [cell_of_block hx1]; rfl
  have b0 : W1.cell? ⟨W0.heap.size, 0, none⟩ = some (.int .i64 0) := by rw [cell_of_block hy1]; rfl
  have b1 : W1.cell? ⟨W0.heap.size, 1, none⟩ = some (.int .i64 0) := by rw [cell_of_block hy1]; rfl
  have b2 : W1.cell? ⟨W0.heap.size, 2, none⟩ = some (.int .i64 0) := by rw [cell_of_block hy1]; rfl
  clear hb0 hx0 hh0 H hb1 hx1 hy1
  go_enter Try.func70, Try.ntmps70
  go_wp2_with fail
  refine bodyPost_ret (v := .tuple #[.agg #[.int .i64 0, .int .i64 0, .int .i64 0], .bool false]) (results_aggtmp rfl Try.isAgg108 Try.sizeOf108 _ _ rfl (heap_set3 HX1.out rfl _ _ _) rfl rfl) rfl ⟨rfl, ?_⟩
  exact HB1.out.trans (Upd.belowB (S := [w.heap.size]) (upd_set3 _ _ _ _ _) HB1.out.size (by simp))

set_option maxHeartbeats 1000000 in
theorem peek_some (B h : Nat) (fv v : Value) (l : List Tk) (x : Tk) (w : World) (H : IsHeap w B h fv v l) (hx : l[0]? = some x) :
    Calls Try.prog 70 #[.pointer (some ⟨h, 0, none⟩)] w fun e w' => e = .returned (.tuple #[.agg #[.int .i64 x.id, .int .i64 x.far, .int .i64 x.at_], .bool true]) ∧ Below w.heap.size w w' := by
  have hl0 := (List.getElem?_eq_some_iff.1 hx).1
  obtain ⟨g, cap, rfl, hcap⟩ : ∃ g cap, v = .slice (some ⟨g, 0, none⟩) l.length cap ∧ cap ≤ maxLen := by
    rcases H.row.form with ⟨_, e2⟩ | ⟨g, cap, e1, _, _, _, h4⟩
    · rw [e2] at hl0; simp at hl0
    · exact ⟨g, cap, e1, h4⟩
  unfold maxLen at hcap
  obtain ⟨W0, hW0⟩ : ∃ W0, w.alloc (.cells #[.int .i64 0, .int .i64 0, .int .i64 0] 108) = W0 := ⟨_, rfl⟩
  have hb0 : Below w.heap.size w W0 := by rw [← hW0]; exact (Below.refl w.heap.size w).alloc (Nat.le_refl _) _
  have hx0 : W0.heap[w.heap.size]? = some (.cells #[.int .i64 0, .int .i64 0, .int .i64 0] 108) := by rw [← hW0]; exact Go.heap_alloc_new w _
  have hh0 := (hb0.block h (block_lt H.hd)).trans H.hd
  obtain ⟨hfb, -, -⟩ := H.row.fblock
  have hf0 := hfb.upd (Upd.ofBelow hb0 []) (by simp)
  obtain ⟨_, cm⟩ := hf0.cell hx
  have e0 : W0.cell? ⟨g, 0, none⟩ = some (.int .i64 x.id) := by have := cm 0 _ rfl; simpa using this
  have e1 : W0.cell? ⟨g, 1, none⟩ = some (.int .i64 x.far) := by have := cm 1 _ rfl; simpa using this
  have e2 : W0.cell? ⟨g, 2, none⟩ = some (.int .i64 x.at_) := by have := cm 2 _ rfl; simpa using this
  have HB0 := Lib.hid hb0
  have HX0 := Lib.hid hx0
  have c1 : W0.cell? ⟨h, 1, none⟩ = some (.slice (some ⟨g, 0, none⟩) l.length cap) := by rw [cell_of_block hh0]; rfl
  have z0 : W0.frozen? ⟨w.heap.size, 0, none⟩ = false := frozen_of_block hx0
  have z1 : W0.frozen? ⟨w.heap.size, 1, none⟩ = false := frozen_of_block hx0
  have z2 : W0.frozen? ⟨w.heap.size, 2, none⟩ = false := frozen_of_block hx0
  have a0 : W0.cell? ⟨w.heap.size, 0, none⟩ = some (.int .i64 0) := by rw [cell_of_block hx0]; rfl
  have a1 : W0.cell? ⟨w.heap.size, 1, none⟩ = some (.int .i64 0) := by rw [cell_of_block hx0]; rfl
  have a2 : W0.cell? ⟨w.heap.size, 2, none⟩ = some (.int .i64 0) := by rw [cell_of_block hx0]; rfl
  have q0 : (0 : Int) < (l.length : Int) := by omega
  have q1 : ((l.length : Int) == 0) = false := by rw [beq_eq_false_iff_ne]; omega
  clear hb0 hx0 hh0 H hfb hf0 cm hx hl0
  go_enter Try.func70, Try.ntmps70
  go_wp2_with fail
  refine bodyPost_ret (v := .tuple #[.agg #[.int .i64 x.id, .int .i64 x.far, .int .i64 x.at_], .bool true]) (results_aggtmp rfl Try.isAgg108 Try.sizeOf108 _ _ rfl (heap_set3 HX0.out rfl _ _ _) rfl rfl) rfl ⟨rfl, ?_⟩
  exact HB0.out.trans (Upd.belowB (S := [w.heap.size]) (upd_set3 _ _ _ _ _) HB0.out.size (by simp))

set_option maxHeartbeats 1000000 in
theorem pop_none (B : Nat) (fv v : Value) (h : Nat) (w : World) (H : IsHeap w B h fv v []) :
    Calls Try.prog 71 #[.pointer (some ⟨h, 0, none⟩)] w fun e w' => e = .returned (.tuple #[.agg #[.int .i64 0, .int .i64 0, .int .i64 0], .bool false]) ∧ Below w.heap.size w w' := by
  obtain ⟨W0, hW0⟩ : ∃ W0, w.alloc (.cells #[.int .i64 0, .int .i64 0, .int .i64 0] 108) = W0 := ⟨_, rfl⟩
  have hb0 : Below w.heap.size w W0 := by rw [← hW0]; exact (Below.refl w.heap.size w).alloc (Nat.le_refl _) _
  have hx0 : W0.heap[w.heap.size]? = some (.cells #[.int .i64 0, .int .i64 0, .int .i64 0] 108) := by rw [← hW0]; exact Go.heap_alloc_new w _
  have HP := Lib.hid (peek_none B fv v h W0 (H.upd (Upd.ofBelow hb0 []) (by simp) (by simp)))
  have HB0 := Lib.hid hb0
  have HX0 := Lib.hid hx0
  clear hb0 hx0 H
  go_enter Try.func71, Try.ntmps71
  go_wp2_with fail
  refine HP.out.mono ?_
  rintro e w1 ⟨rfl, hb1⟩
  obtain ⟨W2, hW2⟩ : ∃ W2, w1.alloc (.cells #[.int .i64 0, .int .i64 0, .int .i64 0] 108) = W2 := ⟨_, rfl⟩
  have hu2 : Upd [] w1 W2 := by rw [← hW2]; exact Upd.alloc [] w1 _
  have hx2 := upd_far hu2 ((hb1.block _ (block_lt HX0.out)).trans HX0.out) (by simp)
  have hy2 : W2.heap[w1.heap.size]? = some (.cells #[.int .i64 0, .int .i64 0, .int .i64 0] 108) := by rw [← hW2]; exact Go.heap_alloc_new w1 _
  have HB2 := Lib.hid (HB0.out.trans ((hb1.trans (hu2.below.mono hb1.size)).mono HB0.out.size))
  have HX2 := Lib.hid hx2
  have z0 : W2.frozen? ⟨w.heap.size, 0, none⟩ = false := frozen_of_block hx2
  have z1 : W2.frozen? ⟨w.heap.size, 1, none⟩ = false := frozen_of_block hx2
  have z2 : W2.frozen? ⟨w.heap.size, 2, none⟩ = false := frozen_of_block hx2
  have a0 : W2.cell? ⟨w.heap.size, 0, none⟩ = some (.int .i64 0) := by rw [cell_of_block hx2]; rfl
  have a1 : W2.cell? ⟨w.heap.size, 1, none⟩ = some (.int .i64 0) := by rw [cell_of_block hx2]; rfl
  have a2 : W2.cell? ⟨w.heap.size, 2, none⟩ = some (.int .i64 0) := by rw [cell_of_block hx2]; rfl
  have b0 : W2.cell? ⟨w1.heap.size, 0, none⟩ = some (.int .i64 0) := by rw [cell_of_block hy2]; rfl
  have b1 : W2.cell? ⟨w1.heap.size, 1, none⟩ = some (.int .i64 0) := by rw [cell_of_block hy2]; rfl
  have b2 : W2.cell? ⟨w1.heap.size, 2, none⟩ = some (.int .i64 0) := by rw [cell_of_block hy2]; rfl
  clear hb1 hu2 hx2 hy2 hW0 HP
  subst hW2
  go_wp2_with fail
  refine bodyPost_ret (v := .tuple #[.agg #[.int .i64 0, .int .i64 0, .int .i64 0], .bool false]) (results_aggtmp rfl Try.isAgg108 Try.sizeOf108 _ _ rfl (heap_set3 HX2.out rfl _ _ _) rfl rfl) rfl ⟨rfl, ?_⟩
  exact HB2.out.trans (Upd.belowB (S := [w.heap.size]) (upd_set3 _ _ _ _ _) HB2.out.size (by simp))

/-- The first one laid anew. -/
theorem set0_fblock {e : TypeId} {w : World} {g cap : Nat} {l : List Tk} (h : FBlock tkE e w g cap l) (hl : 0 < l.length) {y : Tk} (hy : tkE.ok y) :
    FBlock tkE e (((w.setCell ⟨g, 0, none⟩ (.int .i64 y.id)).setCell ⟨g, 1, none⟩ (.int .i64 y.far)).setCell ⟨g, 2, none⟩ (.int .i64 y.at_)) g cap (l.set 0 y) := by
  have hok : ∀ (i : Nat) x, l[i]? = some x → tkE.ok x := fun i x hx => (h.cell hx).1
  have hcap : l.length ≤ cap := by obtain ⟨_, _, _, h3, _⟩ := h.out; exact h3
  refine h.store (by simp) (fun cur hc hz hcell => ?_)
  have h0 := heap_setCell_same w g 0 _ _ (.int .i64 y.id) hc
  have h1 := heap_setCell_same _ g 1 _ _ (.int .i64 y.far) h0
  have h2 := heap_setCell_same _ g 2 _ _ (.int .i64 y.at_) h1
  refine ⟨_, h2, by simp, fun i x hx => ?_⟩
  have hz : cur.size = cap * 3 := hz
  have fin : ∀ {y' : Tk} {j : Nat} {v' : Value}, (tkE.enc y')[j]? = some v' → (j = 0 ∧ v' = .int .i64 y'.id) ∨ (j = 1 ∧ v' = .int .i64 y'.far) ∨ (j = 2 ∧ v' = .int .i64 y'.at_) := by
    intro y' j v' hj
    match j, hj with
    | 0, hj => exact .inl ⟨rfl, by simpa [tkE] using hj.symm⟩
    | 1, hj => exact .inr (.inl ⟨rfl, by simpa [tkE] using hj.symm⟩)
    | 2, hj => exact .inr (.inr ⟨rfl, by simpa [tkE] using hj.symm⟩)
    | j + 3, hj => simp [tkE] at hj
  have hn4 : ∀ i : Nat, i * tkE.n = i * 3 := fun i => rfl
  by_cases hi : i = 0
  · subst hi
    rw [List.getElem?_set_self hl] at hx
    cases hx
    refine ⟨hy, fun j v' hj => ?_⟩
    rw [hn4]
    simp only [Array.getElem?_setIfInBounds, Array.size_setIfInBounds]
    rcases fin hj with ⟨rfl, rfl⟩ | ⟨rfl, rfl⟩ | ⟨rfl, rfl⟩ <;> (repeat (first | rw [if_neg (by omega)] | rw [if_pos (by omega)]))
  · rw [List.getElem?_set_ne (fun e => hi e.symm)] at hx
    refine ⟨hok i x hx, fun j v' hj => ?_⟩
    have := hcell i x hx j v' hj
    rw [hn4] at this ⊢
    simp only [Array.getElem?_setIfInBounds, Array.size_setIfInBounds]
    rcases fin hj with ⟨rfl, rfl⟩ | ⟨rfl, rfl⟩ | ⟨rfl, rfl⟩ <;> (repeat (first | rw [if_neg (by omega)])) <;> exact this

set_option maxHeartbeats 2000000 in
set_option maxRecDepth 100000 in
theorem pop_some (B h : Nat) (v : Value) (l : List Tk) (m : Nat) (hm : l.length = m + 1) (f : Tk → Tk → Bool) (asym : ∀ a b, f a b = true → f b a = false) (negt : ∀ a b c, f b a = false → f c b = false → f c a = false) (irr : ∀ a, f a a = false) (w : World) (H : IsHeap w B h (.func (.func 66) #[] #[.pointer (some ⟨sb, 0, none⟩)]) v l) (hlen : l.length ≤ 1099511627776)
    (hf : FirstOk 66 #[.pointer (some ⟨sb, 0, none⟩)] f (h :: ob v) w) (hg : Good f tk0 l) :
    Calls Try.prog 71 #[.pointer (some ⟨h, 0, none⟩)] w fun e w' => ∃ x, e = .returned (.tuple #[.agg #[.int .i64 x.id, .int .i64 x.far, .int .i64 x.at_], .bool true]) ∧ tkE.ok x ∧
      ∃ v' l', IsHeap w' B h (.func (.func 66) #[] #[.pointer (some ⟨sb, 0, none⟩)]) v' l' ∧ (x :: l').Perm l ∧ Good f tk0 l' ∧ (∀ y, y ∈ l → f y x = false) ∧ Upd (h :: ob v) w w' ∧ ob v' = ob v := by
  obtain ⟨g, cap, rfl, hcap⟩ : ∃ g cap, v = .slice (some ⟨g, 0, none⟩) l.length cap ∧ cap ≤ maxLen := by
    rcases H.row.form with ⟨_, e2⟩ | ⟨g, cap, e1, _, _, _, h4⟩
    · rw [e2] at hm; simp at hm
    · exact ⟨g, cap, e1, h4⟩
  unfold maxLen at hcap
  obtain ⟨hfb, -, hBg⟩ := H.row.fblock
  obtain ⟨x, hx⟩ : ∃ y, l[0]? = some y := ⟨_, List.getElem?_eq_getElem (by omega)⟩
  obtain ⟨y, hy⟩ : ∃ y, l[m]? = some y := ⟨_, List.getElem?_eq_getElem (by omega)⟩
  have okx := (hfb.cell hx).1
  have oky := (hfb.cell hy).1
  have hgh : h ≠ g := by have := H.ne; simp [ob, Value.ownBlock] at this; exact this
  have hlc : l.length ≤ cap := by obtain ⟨_, _, _, h3, _⟩ := hfb.out; exact h3
  obtain ⟨W0, hW0⟩ : ∃ W0, w.alloc (.cells #[.int .i64 0, .int .i64 0, .int .i64 0] 108) = W0 := ⟨_, rfl⟩
  have hb0 : Below w.heap.size w W0 := by rw [← hW0]; exact (Below.refl w.heap.size w).alloc (Nat.le_refl _) _
  have hx0 : W0.heap[w.heap.size]? = some (.cells #[.int .i64 0, .int .i64 0, .int .i64 0] 108) := by rw [← hW0]; exact Go.heap_alloc_new w _
  have HP := Lib.hid (peek_some B h _ _ l x W0 (H.upd (Upd.ofBelow hb0 []) (by simp) (by simp)) hx)
  have HB0 := Lib.hid hb0
  have HX0 := Lib.hid hx0
  have HH := Lib.hid H
  have HF := Lib.hid hf
  have HG := Lib.hid hg
  have HX := Lib.hid hx
  have HY := Lib.hid hy
  have HM := Lib.hid hm
  have OKX := Lib.hid okx
  have OKY := Lib.hid oky
  have HAS := Lib.hid asym
  have HNG := Lib.hid negt
  have HIR := Lib.hid irr
  have HGH := Lib.hid hgh
  have HFB := Lib.hid hfb
  have gl := HFB.out.lt
  have hl := block_lt HH.out.hd
  have m0 : (0 : Int) ≤ (m : Int) := by omega
  have m1 : (m : Int) + 1 ≤ (cap : Int) := by omega
  have m2 : (m : Int) ≤ 1099511627776 := by omega
  clear hb0 hx0 H hf hg hx hy okx oky asym negt irr hgh hfb
  go_enter Try.func71, Try.ntmps71
  go_wp2_with fail
  refine HP.out.mono ?_
  rintro e w1 ⟨rfl, hb1⟩
  obtain ⟨W2, hW2⟩ : ∃ W2, w1.alloc (.cells #[.int .i64 x.id, .int .i64 x.far, .int .i64 x.at_] 108) = W2 := ⟨_, rfl⟩
  have hu2 : Upd [] w1 W2 := by rw [← hW2]; exact Upd.alloc [] w1 _
  have hB2 := HB0.out.trans ((hb1.trans (hu2.below.mono hb1.size)).mono HB0.out.size)
  have hx2 := upd_far hu2 ((hb1.block _ (block_lt HX0.out)).trans HX0.out) (by simp)
  have hy2 : W2.heap[w1.heap.size]? = some (.cells #[.int .i64 x.id, .int .i64 x.far, .int .i64 x.at_] 108) := by rw [← hW2]; exact Go.heap_alloc_new w1 _
  have hh2 := (hB2.block h hl).trans HH.out.hd
  have hf2 := HFB.out.upd (Upd.ofBelow hB2 []) (by simp)
  have HB2 := Lib.hid hB2
  have HX2 := Lib.hid hx2
  have HY2 := Lib.hid hy2
  have HH2 := Lib.hid hh2
  have HF2 := Lib.hid hf2
  have hw1 : w.heap.size < w1.heap.size := by have := hb1.size; have := block_lt HX0.out; omega
  have e1 : W2.cell? ⟨h, 1, none⟩ = some (.slice (some ⟨g, 0, none⟩) (m + 1) cap) := by rw [cell_of_block hh2, ← HM.out]; rfl
  have cy0 : W2.cell? ⟨g, m * 3, none⟩ = some (.int .i64 y.id) := (hf2.cell HY.out).2 0 _ rfl
  have cy1 : W2.cell? ⟨g, m * 3 + 1, none⟩ = some (.int .i64 y.far) := (hf2.cell HY.out).2 1 _ rfl
  have cy2 : W2.cell? ⟨g, m * 3 + 2, none⟩ = some (.int .i64 y.at_) := (hf2.cell HY.out).2 2 _ rfl
  have cx0 : W2.cell? ⟨g, 0, none⟩ = some (.int .i64 x.id) := by have := (hf2.cell HX.out).2 0 _ rfl; simpa using this
  have cx1 : W2.cell? ⟨g, 1, none⟩ = some (.int .i64 x.far) := by have := (hf2.cell HX.out).2 1 _ rfl; simpa using this
  have cx2 : W2.cell? ⟨g, 2, none⟩ = some (.int .i64 x.at_) := by have := (hf2.cell HX.out).2 2 _ rfl; simpa using this
  have fz := fun o => hf2.frozen o
  have z0 := fz 0
  have z1 := fz 1
  have z2 := fz 2
  clear fz hb1 hu2 hB2 hx2 hy2 hh2 hf2 HP hW0
  go_wp2_with fail
  have S0 := Lib.hid (set0_fblock HF2.out (by rw [HM.out]; omega) OKY.out)
  have U0 := Lib.hid (upd_set3 W2 g (.int .i64 y.id) (.int .i64 y.far) (.int .i64 y.at_))
  go_region
  generalize hW3 : World.drew _ = W3
  have hu3 : Upd [g] W2 W3 := by rw [← hW3]; exact U0.out.trans (Upd.drew _ _)
  have hf3 : FBlock tkE 108 W3 g cap (l.set 0 y) := by rw [← hW3]; exact S0.out.upd (Upd.drew [] _) (by simp)
  have hh3 := upd_far hu3 HH2.out (by have := HGH.out; simpa using this)
  have hx3 := upd_far hu3 HX2.out (by simp; omega)
  have hy3 := upd_far hu3 HY2.out (by simp; omega)
  have e3 : W3.cell? ⟨h, 1, none⟩ = some (.slice (some ⟨g, 0, none⟩) (m + 1) cap) := by rw [cell_of_block hh3, ← HM.out]; rfl
  have f3 : W3.frozen? ⟨h, 1, none⟩ = false := frozen_of_block hh3
  have HU3 := Lib.hid hu3
  have HF3 := Lib.hid hf3
  have HH3 := Lib.hid hh3
  have HX3 := Lib.hid hx3
  have HY3 := Lib.hid hy3
  clear hW3 hu3 hf3 hh3 hx3 hy3 cx0 cx1 cx2 cy0 cy1 cy2 z0 z1 z2 e1 S0 U0 hW2
  obtain ⟨l0, hl0⟩ : ∃ l0, (l.set 0 (l.getD (l.length - 1) tk0)).take (l.length - 1) = l0 := ⟨_, rfl⟩
  have hyd : l.getD (l.length - 1) tk0 = y := by rw [HM.out]; simp [List.getD_eq_getElem?_getD, HY.out]
  have hxd : l.getD 0 tk0 = x := by simp [List.getD_eq_getElem?_getD, HX.out]
  have hl0' : l0 = (l.set 0 y).take m := by rw [← hl0, hyd, HM.out]; rfl
  have HL0 : Hid (l0.length = m) := Lib.hid (by rw [hl0', List.length_take, List.length_set, HM.out]; omega)
  have HDN := Lib.hid (Down.start f tk0 HG.out tk0 (by rw [HM.out]; omega))
  rw [hl0] at HDN
  have HPM : Hid ((x :: l0).Perm l) := Lib.hid (by
    have := pop_perm tk0 (l := l) (by rw [HM.out]; omega)
    rw [hl0, hxd] at this
    exact this)
  have HF4 : Hid (FBlock tkE 108 W3 g cap l0) := Lib.hid (by rw [hl0']; exact HF3.out.drop_last m)
  clear hl0 hl0' hyd hxd
  obtain ⟨W4, hW4⟩ : ∃ W4, W3.setCell ⟨h, 1, none⟩ (.slice (some ⟨g, 0, none⟩) m cap) = W4 := ⟨_, rfl⟩
  have hheap4 : IsHeap W4 B h (.func (.func 66) #[] #[.pointer (some ⟨sb, 0, none⟩)]) (.slice (some ⟨g, 0, none⟩) l0.length cap) l0 := by
    rw [← hW4, HL0.out]
    have := HF4.out.row [] hBg
    rw [HL0.out] at this
    exact heap_setv HH3.out this HH.out.ne HH.out.le
  have hu4 : Upd [h] W3 W4 := by rw [← hW4]; exact Upd.setCell (by simp) _
  have hu24 : Upd (h :: ob (Value.slice (some ⟨g, 0, none⟩) l.length cap)) w W4 := ((Upd.ofBelow HB2.out _).trans (HU3.out.mono (by simp [ob, Value.ownBlock]))).trans (hu4.mono (by simp))
  have HSK := Lib.hid (sink_calls B h g cap l0 f HAS.out HNG.out HIR.out W4 hheap4 (by rw [HL0.out]; omega) (fun W a b hW ha hb => HF.out W a b (hu24.trans (hW.mono (by simp [ob, Value.ownBlock]))) ha hb) HDN.out)
  have HU24 := Lib.hid hu24
  have HX4 := Lib.hid (upd_far hu4 HX3.out (by simp; omega))
  have HY4 := Lib.hid (upd_far hu4 HY3.out (by simp; omega))
  clear hheap4 hu4 hu24
  go_wp2_with fail
  refine HSK.out.mono ?_
  rintro e w5 ⟨rfl, l', hheap5, hperm5, hgood5, hu5⟩
  have hx5 := upd_far hu5 HX4.out (by simp; omega)
  have hy5 := upd_far hu5 HY4.out (by simp; omega)
  have z0 : w5.frozen? ⟨w.heap.size, 0, none⟩ = false := frozen_of_block hx5
  have z1 : w5.frozen? ⟨w.heap.size, 1, none⟩ = false := frozen_of_block hx5
  have z2 : w5.frozen? ⟨w.heap.size, 2, none⟩ = false := frozen_of_block hx5
  have a0 : w5.cell? ⟨w.heap.size, 0, none⟩ = some (.int .i64 0) := by rw [cell_of_block hx5]; rfl
  have a1 : w5.cell? ⟨w.heap.size, 1, none⟩ = some (.int .i64 0) := by rw [cell_of_block hx5]; rfl
  have a2 : w5.cell? ⟨w.heap.size, 2, none⟩ = some (.int .i64 0) := by rw [cell_of_block hx5]; rfl
  have b0 : w5.cell? ⟨w1.heap.size, 0, none⟩ = some (.int .i64 x.id) := by rw [cell_of_block hy5]; rfl
  have b1 : w5.cell? ⟨w1.heap.size, 1, none⟩ = some (.int .i64 x.far) := by rw [cell_of_block hy5]; rfl
  have b2 : w5.cell? ⟨w1.heap.size, 2, none⟩ = some (.int .i64 x.at_) := by rw [cell_of_block hy5]; rfl
  have HX5 := Lib.hid hx5
  have HH5 := Lib.hid hheap5
  have HP5 := Lib.hid hperm5
  have HG5 := Lib.hid hgood5
  have HU5 := Lib.hid (HU24.out.trans (hu5.mono (by simp [ob, Value.ownBlock])))
  clear hx5 hy5 hheap5 hperm5 hgood5 hu5 HSK e3 f3 hW4
  go_wp2_with fail
  refine bodyPost_ret (v := .tuple #[.agg #[.int .i64 x.id, .int .i64 x.far, .int .i64 x.at_], .bool true]) (results_aggtmp rfl Try.isAgg108 Try.sizeOf108 _ _ rfl (heap_set3 HX5.out rfl _ _ _) rfl rfl) rfl ⟨x, rfl, OKX.out, _, l', HH5.out.upd (upd_set3 _ _ _ _ _) ?_ ?_, (HP5.out.cons x).trans HPM.out, HG5.out, ?_, HU5.out.trans' (upd_set3 _ _ _ _ _) ?_, by simp [ob, Value.ownBlock]⟩
  · simp; omega
  · simp [ob, Value.ownBlock]; omega
  · intro z hz
    obtain ⟨i, hi, rfl⟩ := List.getElem_of_mem hz
    have := HG.out.top f tk0 HNG.out HIR.out i hi
    simpa [List.getD_eq_getElem?_getD, HX.out, List.getElem?_eq_getElem hi] using this
  · intro k hk
    simp at hk
    exact .inr (by omega)

set_option maxHeartbeats 1000000 in
theorem heap_new_calls (w : World) :
    Calls Try.prog 65 #[.func (.func 66) #[] #[.pointer (some ⟨sb, 0, none⟩)], .slice none 0 0] w fun e w' => ∃ h, e = .returned (.pointer (some ⟨h, 0, none⟩)) ∧ IsHeap w' w.heap.size h (.func (.func 66) #[] #[.pointer (some ⟨sb, 0, none⟩)]) (.slice none 0 0) [] ∧ Below w.heap.size w w' := by
  obtain ⟨W0, hW0⟩ : ∃ W0, w.alloc (.cells #[.func (.func 66) #[] #[.pointer (some ⟨sb, 0, none⟩)], .slice none 0 0] 127) = W0 := ⟨_, rfl⟩
  have hb0 : Below w.heap.size w W0 := by rw [← hW0]; exact (Below.refl w.heap.size w).alloc (Nat.le_refl _) _
  have hx0 : W0.heap[w.heap.size]? = some (.cells #[.func (.func 66) #[] #[.pointer (some ⟨sb, 0, none⟩)], .slice none 0 0] 127) := by rw [← hW0]; exact Go.heap_alloc_new w _
  have HB0 := Lib.hid hb0
  have HX0 := Lib.hid hx0
  clear hb0 hx0
  go_enter Try.func65, Try.ntmps65
  go_wp2_with fail
  go_loopw [13] (fun i wr => i = .int .i64 0 ∧ wr = W0) (fun _ _ => 0)
  case atStart => exact ⟨rfl, rfl⟩
  case round =>
    obtain ⟨rfl, rfl⟩ := hrel
    go_wp2_with fail
    go_ret
    exact ⟨w.heap.size, rfl, ⟨HX0.out, Row.nil _ _ _ _ _, by simp [ob, Value.ownBlock], Nat.le_refl _⟩, HB0.out⟩

end Go.Proofs.Ytglghgjbnoldaaa.E3
