/-
slices.Sort and slices.Compact at []int, in words of owned rows (over the library's laid contracts).
-/
import Derived.Test.YtglghgjbnoldaaaUnique
import Derived.Test.YtglghgjbnoldaaaPure09
import Derived.Test.YtglghgjbnoldaaaShelfM
namespace Go.Proofs.Ytglghgjbnoldaaa
set_option linter.unusedVariables false
set_option linter.unusedSimpArgs false
open Go.RowKit

theorem upd_put {α : Type} [Inhabited α] (enc : α → Value) (w : World) (n blk off : Nat) (d : Array α) (os : Array Obj) : Upd [blk] w (Sort.grow (Sort.putRow enc (Sort.ahead w n) blk off d) os) := by
  refine ⟨rfl, rfl, rfl, ?_, fun k hk hn => ?_⟩
  · simp [Sort.grow, Sort.putRow, Sort.mapBlock, Sort.ahead]
  · have hk2 : k < (Sort.putRow enc (Sort.ahead w n) blk off d).heap.size := by simpa [Sort.putRow, Sort.mapBlock, Sort.ahead] using hk
    rw [Sort.heap_grow_old _ _ hk2]
    simp only [Sort.putRow, Sort.mapBlock, Sort.ahead, Array.getElem?_modify]
    rw [if_neg (by intro e; exact hn (by simp [e]))]

theorem upd_put' {α : Type} [Inhabited α] (enc : α → Value) (w : World) (n blk off : Nat) (d : Array α) : Upd [blk] w (Sort.putRow enc (Sort.ahead w n) blk off d) := by
  refine ⟨rfl, rfl, rfl, ?_, fun k hk hn => ?_⟩
  · simp [Sort.putRow, Sort.mapBlock, Sort.ahead]
  · simp only [Sort.putRow, Sort.mapBlock, Sort.ahead, Array.getElem?_modify]
    rw [if_neg (by intro e; exact hn (by simp [e]))]

theorem row_holds {M : List Nat} {e : TypeId} {B : Nat} {w : World} {l : List Int} {g cap : Nat} (h : Row (Kd.int .i64) M e B w (.slice (some ⟨g, 0, none⟩) l.length cap) l) : Sort.Holds (Value.int .i64) w g 0 l.toArray := by
  intro j hj
  have hj' : j < l.length := by simpa using hj
  obtain ⟨g', cap', cs, hv, _, _, _, _, h6, h7, h8⟩ := h.get (List.getElem?_eq_getElem hj')
  simp at hv
  obtain ⟨rfl, rfl⟩ := hv
  obtain ⟨rfl, _⟩ := at_int h6
  refine ⟨?_, by simpa using h8 j⟩
  have := h7 0 _ rfl
  simpa [Kd.int, hj', getElem!_pos] using this

theorem row_wf {M : List Nat} {e : TypeId} {B : Nat} {w : World} {v : Value} {l : List Int} (h : Row (Kd.int .i64) M e B w v l) : ∀ x ∈ l, (Lit.int .i64 x).wf = true := by
  intro x hx
  obtain ⟨j, hj, rfl⟩ := List.getElem_of_mem hx
  obtain ⟨g', cap', cs, hv, _, _, _, _, h6, _⟩ := h.get (List.getElem?_eq_getElem hj)
  exact (at_int h6).2

/-- A row whose block has been laid anew, of as many cells. -/
theorem row_put {M : List Nat} {e : TypeId} {B : Nat} {w : World} {l l' : List Int} {g cap : Nat} (h : Row (Kd.int .i64) M e B w (.slice (some ⟨g, 0, none⟩) l.length cap) l) (hl : l'.length = l.length) (hw : ∀ x ∈ l', (Lit.int .i64 x).wf = true) (n : Nat) (os : Array Obj) :
    Row (Kd.int .i64) M e B (Sort.grow (Sort.putRow (Value.int .i64) (Sort.ahead w n) g 0 l'.toArray) os) (.slice (some ⟨g, 0, none⟩) l'.length cap) l' := by
  obtain ⟨css, ⟨h0, h1 | ⟨g', cap', cur, hv, hb, hg, hn, hm, hsz, htk⟩⟩, h2, h3⟩ := h.out
  · exact absurd h1.1 (by simp)
  · simp at hv
    obtain ⟨rfl, rfl⟩ := hv
    have hgl := block_lt hg
    have hsz' : cur.size = cap * 1 := hsz
    have hgk : (Sort.grow (Sort.putRow (Value.int .i64) (Sort.ahead w n) g 0 l'.toArray) os).heap[g]? = some (.cells (Sort.putCells (Value.int .i64) 0 l'.toArray cur) e (0, 0)) := by
      rw [Sort.heap_grow_old _ _ (by simpa [Sort.putRow, Sort.mapBlock, Sort.ahead] using hgl)]
      simp only [Sort.putRow, Sort.mapBlock, Sort.ahead, Array.getElem?_modify, if_pos]
      rw [hg]
      rfl
    refine ⟨l'.map (fun x => [.int .i64 x]), ⟨?_, .inr ⟨g, cap, _, rfl, hb, hgk, by omega, hm, ?_, ?_⟩⟩, by simp, fun i cs x h4 h5 => ?_⟩
    · have : ((l'.map (fun x => [Value.int .i64 x])).flatten).length = l'.length := by
        clear hl hw hgk
        induction l' with
        | nil => rfl
        | cons a r ih => simp [ih]
      show _ = l'.length * 1
      rw [this, Nat.mul_one]
    · rw [← hsz]
      simp [Sort.putCells]
    · have e1 : (l'.map (fun x => [Value.int .i64 x])).flatten = l'.map (Value.int .i64) := by
        clear hl hw hgk
        induction l' with
        | nil => rfl
        | cons a r ih => simp [ih]
      rw [e1]
      apply List.ext_getElem?
      intro j
      show (List.take (l'.length * 1) _)[j]? = _
      rw [Nat.mul_one]
      rcases Nat.lt_or_ge j l'.length with hj | hj
      · rw [List.getElem?_take_of_lt hj, List.getElem?_map]
        have hjc : j < cur.size := by omega
        simp only [Sort.putCells, Array.getElem?_toList, Array.getElem?_mapIdx]
        rw [Array.getElem?_eq_getElem hjc]
        simp [hj, getElem!_pos]
      · rw [List.getElem?_take_eq_none hj, List.getElem?_eq_none (by simp; omega)]
    · rw [List.getElem?_map, h5] at h4
      simp at h4
      subst h4
      exact ⟨⟨rfl, hw x (List.mem_of_getElem? h5)⟩⟩

def sortI (l : List Int) : List Int := l.mergeSort fun x y => decide (x ≤ y)
theorem sortI_len (l : List Int) : (sortI l).length = l.length := List.length_mergeSort l
theorem sortI_mem {l : List Int} {x : Int} : x ∈ sortI l ↔ x ∈ l := List.mem_mergeSort

theorem sort_int_calls (v : Value) (l : List Int) (B : Nat) (w : World) (h : Row (Kd.int .i64) [] 3 B w v l) (hlen : l.length ≤ 1099511627776) :
    Calls Try.prog 26 #[v] w fun e w' => e = .returned (.tuple #[]) ∧ Upd (ob v) w w' ∧ Row (Kd.int .i64) [] 3 B w' v (sortI l) := by
  rcases h.form with ⟨rfl, rfl⟩ | ⟨g, cap, rfl, h1, h2, h3, h4⟩
  · refine (Try.slices_Sort_int_none none 0 w).mono ?_
    rintro e w' ⟨he, rfl⟩
    have e0 : sortI [] = [] := List.eq_nil_of_length_eq_zero (by rw [sortI_len]; rfl)
    exact ⟨he, Upd.refl _ _, by rw [e0]; exact h⟩
  · refine (Try.slices_Sort_int g 0 cap l w (row_holds h) h2 (by omega)).mono ?_
    rintro e w' ⟨he, n, os, rfl⟩
    exact ⟨he, upd_put _ w n g 0 _ os, by
      have := row_put h (sortI_len l) (fun x hx => row_wf h x (sortI_mem.1 hx)) n os
      rw [sortI_len] at this
      exact this⟩

end Go.Proofs.Ytglghgjbnoldaaa
