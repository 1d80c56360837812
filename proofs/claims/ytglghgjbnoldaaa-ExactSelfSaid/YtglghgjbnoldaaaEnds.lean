/-
Ends of functions in which ranges over functions stand; a law's result cell.
-/
import Derived.Test.YtglghgjbnoldaaaRange
namespace Go.Proofs.Ytglghgjbnoldaaa
set_option linter.unusedVariables false
set_option linter.unusedSimpArgs false
open Go.RowKit

/-- The marks of the ranges that stood in a function are taken away at its end. -/
theorem end_m {P : Program} {fn : Func} {R : Ending → World → Prop} {tmps : Array Value} : ∀ (Ds : List (Nat × Array Value)) (w : World), (∀ D ∈ Ds, w.heap[D.1]? = some (.deferred (some []))) → (Ds.map (·.1)).Nodup →
    (∀ W, Upd (Ds.map (·.1)) w W → W.heap.size = w.heap.size → ∃ v, (results fn tmps).run P W = .ok v W ∧ R (.returned v) W) → LeavesInM Fence.wide 0 P fn tmps R (Ds.map fun D => { target := .collected D.1, args := D.2 }) .returning w
  | [], w, _, _, h => h w (Upd.refl _ _) rfl
  | D :: Ds, w, hK, hn, h => by
    simp only [List.map_cons, List.nodup_cons] at hn
    refine ⟨by simp, .inl ⟨_, _, rfl, run_takeDeferred (hK D (by simp)), ?_⟩⟩
    refine end_m Ds _ (fun E hE => ?_) hn.2 (fun W hu hz => ?_)
    · have hne : E.1 ≠ D.1 := fun e => hn.1 (by rw [← e]; exact List.mem_map_of_mem (f := (·.1)) hE)
      rw [World.putObj_heap_other hne]
      exact hK E (by simp [hE])
    · refine h W ?_ (by rw [hz]; simp)
      show Upd (D.1 :: Ds.map (·.1)) w W
      exact (Upd.putObj (S := D.1 :: Ds.map (·.1)) (by simp) _).trans' hu (fun k hk => .inl (List.mem_cons_of_mem _ hk))

/-- A law's own cell of the result, false at first; what stood before w stays. -/
structure RB (t : TypeId) (w wk : World) : Prop where
  cell : wk.heap[w.heap.size]? = some (.cells #[.bool false] t)
  below : Below w.heap.size w wk
theorem RB.start (t : TypeId) (w : World) : RB t w (w.alloc (.cells #[.bool false] t)) := ⟨Go.heap_alloc_new w _, (Below.refl _ w).alloc (Nat.le_refl _) _⟩
theorem RB.lt {t : TypeId} {w wk : World} (h : RB t w wk) : w.heap.size < wk.heap.size := block_lt h.cell
theorem RB.upd {t : TypeId} {w wk w' : World} {S : List Nat} (h : RB t w wk) (hu : Upd S wk w') (hS : ∀ k, k ∈ S → w.heap.size < k) : RB t w w' :=
  ⟨upd_far hu h.cell (fun hm => by have := hS _ hm; omega), h.below.trans (hu.belowB h.below.size (fun k hk => by have := hS k hk; omega))⟩
theorem RB.call {t : TypeId} {w wk w' : World} (h : RB t w wk) (hb : Below wk.heap.size wk w') : RB t w w' := h.upd (Upd.ofBelow hb []) (by simp)
theorem RB.drew {t : TypeId} {w wk : World} (h : RB t w wk) (n : Nat) : RB t w (wk.drewN n) := h.upd (Upd.drewN [] wk n) (by simp)
theorem RB.c {t : TypeId} {w wk : World} (h : RB t w wk) : wk.cell? ⟨w.heap.size, 0, none⟩ = some (.bool false) := by rw [cell_of_block h.cell]; rfl
theorem RB.f {t : TypeId} {w wk : World} (h : RB t w wk) : wk.frozen? ⟨w.heap.size, 0, none⟩ = false := frozen_of_block h.cell

/-- A law's end: the cell of the result holds what the law answers; w0: the world ahead of what the law laid before that cell. -/
theorem RB.finW {t : TypeId} {w0 w wk : World} (h : RB t w wk) (h0 : Below w0.heap.size w0 w) {b : Bool} {P : Program} {fn : Func} {tmps : Array Value} {p : Tmp} (hr : fn.results = #[.cell p t]) (hu : P.underlying t = some .bool) (hp : tmps.getD p undef = .pointer (some ⟨w.heap.size, 0, none⟩))
    (Ds : List (Nat × Array Value)) (hK : ∀ D ∈ Ds, w.heap.size < D.1 ∧ wk.heap[D.1]? = some (.deferred (some []))) (hn : (Ds.map (·.1)).Nodup) :
    LeavesInM Fence.wide 0 P fn tmps (fun e w' => e = .returned (.bool b) ∧ Below w0.heap.size w0 w') (Ds.map fun D => { target := .collected D.1, args := D.2 }) .returning (wk.setCell ⟨w.heap.size, 0, none⟩ (.bool b)) := by
  have hs := heap_setCell_same wk w.heap.size 0 _ _ (.bool b) h.cell
  refine end_m Ds _ (fun D hD => ?_) hn (fun W hu2 hz => ?_)
  · have := hK D hD
    exact (Below.heap_setCell _ _ _ _ (by simp only; omega)).trans this.2
  · have hc : W.cell? ⟨w.heap.size, 0, none⟩ = some (.bool b) := by
      rw [cell_of_block (upd_far hu2 hs (fun hm => by
        obtain ⟨D, hD, e⟩ := List.mem_map.1 hm
        have := (hK D hD).1; omega))]; rfl
    refine ⟨_, results_cellb hr hu _ _ hp hc, rfl, ?_⟩
    have hb : Below w.heap.size w W := by
      refine (h.below.setCell (p := ⟨w.heap.size, 0, none⟩) (Nat.le_refl _) _).trans (hu2.belowB (by have := h.below.size; simpa using this) (fun k hk => ?_))
      obtain ⟨D, hD, rfl⟩ := List.mem_map.1 hk
      have := (hK D hD).1; omega
    exact h0.trans (hb.mono h0.size)
theorem RB.fin {t : TypeId} {w wk : World} (h : RB t w wk) {b : Bool} {P : Program} {fn : Func} {tmps : Array Value} {p : Tmp} (hr : fn.results = #[.cell p t]) (hu : P.underlying t = some .bool) (hp : tmps.getD p undef = .pointer (some ⟨w.heap.size, 0, none⟩))
    (Ds : List (Nat × Array Value)) (hK : ∀ D ∈ Ds, w.heap.size < D.1 ∧ wk.heap[D.1]? = some (.deferred (some []))) (hn : (Ds.map (·.1)).Nodup) :
    LeavesInM Fence.wide 0 P fn tmps (fun e w' => e = .returned (.bool b) ∧ Below w.heap.size w w') (Ds.map fun D => { target := .collected D.1, args := D.2 }) .returning (wk.setCell ⟨w.heap.size, 0, none⟩ (.bool b)) :=
  h.finW (Below.refl _ _) hr hu hp Ds hK hn
/-- The same where the cell holds false as at first. -/
theorem RB.fin0 {t : TypeId} {w wk : World} (h : RB t w wk) {P : Program} {fn : Func} {tmps : Array Value} {p : Tmp} (hr : fn.results = #[.cell p t]) (hu : P.underlying t = some .bool) (hp : tmps.getD p undef = .pointer (some ⟨w.heap.size, 0, none⟩)) {b : Bool} (hb : b = false) :
    LeavesInM Fence.wide 0 P fn tmps (fun e w' => e = .returned (.bool b) ∧ Below w.heap.size w w') [] .returning wk := by
  subst hb
  exact end_m [] wk (by simp) (by simp) (fun W hu2 hz => by
    have hc : W.cell? ⟨w.heap.size, 0, none⟩ = some (.bool false) := by rw [cell_of_block (upd_far hu2 h.cell (by simp))]; rfl
    exact ⟨_, results_cellb hr hu _ _ hp hc, rfl, h.below.trans (hu2.below.mono h.below.size)⟩)

end Go.Proofs.Ytglghgjbnoldaaa
