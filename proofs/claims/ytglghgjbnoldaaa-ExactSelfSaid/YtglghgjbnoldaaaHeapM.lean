/-
Rows of flat things: a block known whole, and what stores into it make. No program stands in this text.
-/
import Derived.Test.YtglghgjbnoldaaaHeapP
import Derived.Test.YtglghgjbnoldaaaClone
namespace Go.Proofs.Ytglghgjbnoldaaa
set_option linter.unusedVariables false
set_option linter.unusedSimpArgs false
open Go.RowKit

/-- A kind without pointers. -/
structure Flat (α : Type) where
  n : Nat
  enc : α → List Value
  ok : α → Prop
  len : ∀ x, (enc x).length = n
  one : ∀ x v, v ∈ enc x → v.oneCell' = true
def Flat.kd {α : Type} (E : Flat α) : Kd α where
  sz := E.n
  rep _ _ cs x := cs = E.enc x ∧ E.ok x
  len h := by rw [h.1, E.len]
  one h := by rw [h.1]; exact E.one _
  mono h _ _ := h

theorem Flat.at_ {α : Type} {E : Flat α} {M : List Nat} {w : World} {cs : List Value} {x : α} (h : E.kd.At M w cs x) : cs = E.enc x ∧ E.ok x := h.out
theorem Flat.mk_at {α : Type} (E : Flat α) (M : List Nat) (w : World) (x : α) (h : E.ok x) : E.kd.At M w (E.enc x) x := ⟨⟨rfl, h⟩⟩
theorem Row.flat_any {α : Type} {E : Flat α} {M M' : List Nat} {e : TypeId} {B : Nat} {w : World} {v : Value} {l : List α} (h : Row E.kd M e B w v l) : Row E.kd M' e B w v l := by
  obtain ⟨css, h1, h2, h3⟩ := h.out
  exact ⟨css, h1, h2, fun i cs x a b => ⟨Flat.at_ (h3 i cs x a b)⟩⟩

/-- A block in which a row of flat things stands. -/
structure FBlock {α : Type} (E : Flat α) (e : TypeId) (w : World) (g cap : Nat) (l : List α) : Prop where
  out : ∃ cur, w.heap[g]? = some (.cells cur e) ∧ cur.size = cap * E.n ∧ l.length ≤ cap ∧ cap ≤ maxLen ∧ ∀ (i : Nat) x, l[i]? = some x → E.ok x ∧ ∀ (j : Nat) u, (E.enc x)[j]? = some u → cur[i * E.n + j]? = some u

theorem FBlock.cell {α : Type} {E : Flat α} {e : TypeId} {w : World} {g cap : Nat} {l : List α} (h : FBlock E e w g cap l) {i : Nat} {x : α} (hx : l[i]? = some x) : E.ok x ∧ ∀ (j : Nat) u, (E.enc x)[j]? = some u → w.cell? ⟨g, i * E.n + j, none⟩ = some u := by
  obtain ⟨cur, h1, h2, h3, h4, h5⟩ := h.out
  obtain ⟨ho, hc⟩ := h5 i x hx
  exact ⟨ho, fun j u hj => by rw [cell_of_block h1]; exact hc j u hj⟩
theorem FBlock.frozen {α : Type} {E : Flat α} {e : TypeId} {w : World} {g cap : Nat} {l : List α} (h : FBlock E e w g cap l) (o : Nat) : w.frozen? ⟨g, o, none⟩ = false := by
  obtain ⟨cur, h1, _⟩ := h.out
  exact frozen_of_block h1
theorem FBlock.lt {α : Type} {E : Flat α} {e : TypeId} {w : World} {g cap : Nat} {l : List α} (h : FBlock E e w g cap l) : g < w.heap.size := by
  obtain ⟨cur, h1, _⟩ := h.out
  exact block_lt h1
theorem FBlock.upd {α : Type} {E : Flat α} {e : TypeId} {w w' : World} {g cap : Nat} {l : List α} (h : FBlock E e w g cap l) {S : List Nat} (hu : Upd S w w') (hn : g ∉ S) : FBlock E e w' g cap l := by
  obtain ⟨cur, h1, h2⟩ := h.out
  exact ⟨cur, (hu.block _ (block_lt h1) hn).trans h1, h2⟩
theorem FBlock.drop_last {α : Type} {E : Flat α} {e : TypeId} {w : World} {g cap : Nat} {l : List α} (h : FBlock E e w g cap l) (k : Nat) : FBlock E e w g cap (l.take k) := by
  obtain ⟨cur, h1, h2, h3, h4, h5⟩ := h.out
  refine ⟨cur, h1, h2, by rw [List.length_take]; omega, h4, fun i x hx => ?_⟩
  rw [List.getElem?_take] at hx
  split at hx
  · exact h5 i x hx
  · simp at hx

theorem Row.fblock {α : Type} {E : Flat α} {M : List Nat} {e : TypeId} {B : Nat} {w : World} {g cap n : Nat} {l : List α} (h : Row E.kd M e B w (.slice (some ⟨g, 0, none⟩) n cap) l) : FBlock E e w g cap l ∧ n = l.length ∧ B ≤ g := by
  obtain ⟨css, ⟨h1, h2⟩, h3, h4⟩ := h.out
  rcases h2 with ⟨h2, _⟩ | ⟨g', cap', cur, hv, hB, hg, hn, hm, hz, ht⟩
  · simp at h2
  · simp at hv
    obtain ⟨rfl, rfl, rfl⟩ := hv
    refine ⟨⟨cur, hg, hz, hn, hm, fun i x hx => ?_⟩, rfl, hB⟩
    have hi := (List.getElem?_eq_some_iff.1 hx).1
    obtain ⟨e1, e2⟩ := Flat.at_ (h4 i _ x (List.getElem?_eq_getElem (show i < css.length by omega)) hx)
    refine ⟨e2, fun j u hj => ?_⟩
    have hf := flatten_getElem css (row_len h3 h4) i j _ u (List.getElem?_eq_getElem (show i < css.length by omega)) (by rw [e1]; exact hj)
    rw [← ht, List.getElem?_take] at hf
    split at hf
    · rw [Array.getElem?_toList] at hf; exact hf
    · simp at hf

theorem flat_flatten_len {α : Type} (E : Flat α) : ∀ l : List α, (l.map E.enc).flatten.length = l.length * E.n
  | [] => by simp
  | x :: l => by
    have := flat_flatten_len E l
    simp only [List.map_cons, List.flatten_cons, List.length_append, List.length_cons, this, E.len, Nat.add_mul]
    omega

theorem FBlock.row {α : Type} {E : Flat α} {e : TypeId} {w : World} {g cap : Nat} {l : List α} (h : FBlock E e w g cap l) (M : List Nat) {B : Nat} (hB : B ≤ g) : Row E.kd M e B w (.slice (some ⟨g, 0, none⟩) l.length cap) l := by
  obtain ⟨cur, h1, h2, h3, h4, h5⟩ := h.out
  have hlen : ∀ cs ∈ l.map E.enc, cs.length = E.n := by
    intro cs hcs
    obtain ⟨x, _, rfl⟩ := List.mem_map.1 hcs
    exact E.len x
  have hle : l.length * E.n ≤ cap * E.n := Nat.mul_le_mul_right _ h3
  refine ⟨l.map E.enc, ⟨flat_flatten_len E l, .inr ⟨g, cap, cur, rfl, hB, h1, h3, h4, h2, ?_⟩⟩, by simp, fun i cs x hi hx => ?_⟩
  · apply List.ext_getElem?
    intro k
    show (cur.toList.take (l.length * E.n))[k]? = (l.map E.enc).flatten[k]?
    rw [List.getElem?_take]
    split
    · rename_i hk
      have hkl : k < (l.map E.enc).flatten.length := by rw [flat_flatten_len]; exact hk
      obtain ⟨i, j, cs, e1, e2, e3⟩ := flatten_at (l.map E.enc) hlen k _ (List.getElem?_eq_getElem hkl)
      rw [List.getElem?_map] at e1
      cases hx : l[i]? with
      | none => rw [hx] at e1; simp at e1
      | some x =>
        rw [hx] at e1
        simp at e1
        subst e1
        have := (h5 i x hx).2 j _ e2
        rw [Array.getElem?_toList, e3, this, ← e3, List.getElem?_eq_getElem hkl]
    · rename_i hk
      rw [List.getElem?_eq_none (by rw [flat_flatten_len]; omega)]
  · rw [List.getElem?_map, hx] at hi
    simp at hi
    subst hi
    exact E.mk_at _ _ _ (h5 i x hx).1

/-- Stores into the block: cells laid anew. -/
theorem FBlock.store {α : Type} {E : Flat α} {e : TypeId} {w w' : World} {g cap : Nat} {l l' : List α} (h : FBlock E e w g cap l) (hl : l'.length ≤ l.length)
    (hw : ∀ cur, w.heap[g]? = some (.cells cur e) → cur.size = cap * E.n → (∀ (i : Nat) x, l[i]? = some x → ∀ (j : Nat) u, (E.enc x)[j]? = some u → cur[i * E.n + j]? = some u) → ∃ cur', w'.heap[g]? = some (.cells cur' e) ∧ cur'.size = cur.size ∧ ∀ (i : Nat) x, l'[i]? = some x → E.ok x ∧ ∀ (j : Nat) u, (E.enc x)[j]? = some u → cur'[i * E.n + j]? = some u) : FBlock E e w' g cap l' := by
  obtain ⟨cur, h1, h2, h3, h4, h5⟩ := h.out
  obtain ⟨cur', k1, k2, k3⟩ := hw cur h1 h2 (fun i x hx => (h5 i x hx).2)
  exact ⟨cur', k1, by omega, by omega, h4, k3⟩

end Go.Proofs.Ytglghgjbnoldaaa
