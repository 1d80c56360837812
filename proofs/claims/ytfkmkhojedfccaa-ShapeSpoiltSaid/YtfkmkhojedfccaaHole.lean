/-
Nodes that are copied, one of which may still be turned: it stands as bare cells. No program stands in this text.
-/
import Derived.Test.YtfkmkhojedfccaaNode
import Derived.Test.YtfkmkhojedfccaaClone
namespace Go.Proofs.Ytfkmkhojedfccaa
set_option linter.unusedVariables false
set_option linter.unusedSimpArgs false
open Go.RowKit

/-- A node, or the bare cells of one. -/
def kHole : Kd (Nd ⊕ List Value) where
  sz := 6
  rep F w cs x := match x with
    | .inl x => kNd.rep F w cs x
    | .inr c0 => cs = c0 ∧ c0.length = 6 ∧ ∀ v ∈ c0, v.oneCell' = true
  len {F w cs x} h := by
    cases x with
    | inl x => exact kNd.len h
    | inr c0 => obtain ⟨rfl, h, _⟩ := h; exact h
  one {F w cs x} h := by
    cases x with
    | inl x => exact kNd.one h
    | inr c0 => obtain ⟨rfl, _, h⟩ := h; exact h
  mono {F G w w' cs x} h hF hw := by
    cases x with
    | inl x => exact kNd.mono h hF hw
    | inr c0 => exact h

theorem hole_inl {M : List Nat} {w : World} {cs : List Value} {x : Nd} (h : kNd.At M w cs x) : kHole.At M w cs (.inl x) := ⟨h.out⟩
theorem hole_inr {M : List Nat} {w : World} {cs : List Value} (h6 : cs.length = 6) (h1 : ∀ v ∈ cs, v.oneCell' = true) : kHole.At M w cs (.inr cs) := ⟨⟨rfl, h6, h1⟩⟩

/-- What stands at each place but one is a node; what stands at that one reads as y now. -/
theorem hole_read {M N : List Nat} {e : TypeId} {B : Nat} {w w' : World} {v : Value} {L : List (Nd ⊕ List Value)} {l : List Nd} {k : Nat} {S : List Nat} {g : Nat} (h : Row kHole M e B w v L) (hl : L.length = l.length)
    (hg : ob v = [g]) (hgN : g ∉ N) (hN : ∀ j, j ∈ N → j ∈ g :: M)
    (hel : ∀ i x, i ≠ k → l[i]? = some x → L[i]? = some (.inl x)) (hu : Upd (g :: M) w w') (hcell : ∀ i j, i ≠ k → j < 6 → w'.cell? ⟨g, i * 6 + j, none⟩ = w.cell? ⟨g, i * 6 + j, none⟩)
    (hk : ∀ y, l[k]? = some y → ∃ cs, kNd.At N w' cs y ∧ ∀ j u, cs[j]? = some u → w'.cell? ⟨g, k * 6 + j, none⟩ = some u) : kNd.slice.At N w' [v] l := by
  rcases h.form with ⟨rfl, rfl⟩ | ⟨g', cap, rfl, h1, h2, h3, h4⟩
  · simp at hl
    have : l = [] := List.eq_nil_of_length_eq_zero hl.symm
    subst this
    exact Kd.slice_nil kNd N w' none 0 (by simp [maxLen])
  · obtain rfl : g' = g := by simpa [ob, Value.ownBlock] using hg
    rw [hl] at h3 ⊢
    have hz := hu.size
    refine ⟨⟨some ⟨g', 0, none⟩, cap, rfl, h3, h4, fun i x hx => ⟨g', 0, rfl, ⟨by omega, hgN⟩, by omega, ?_⟩⟩⟩
    by_cases hik : i = k
    · subst hik
      obtain ⟨cs, a, c⟩ := hk x hx
      exact ⟨cs, a.out, fun j u hj => by have := c j u hj; simp only [Nat.zero_add]; exact this⟩
    · obtain ⟨g2, cap2, cs, hv2, _, _, _, _, ha, hc, _⟩ := h.get (hel i x hik hx)
      simp at hv2
      obtain ⟨⟨rfl, _⟩, rfl⟩ := hv2
      have ha' : kNd.At (g' :: M) w cs x := by
        have : kHole.At (ob (.slice (some ⟨g', 0, none⟩) L.length cap) ++ M) w cs (.inl x) := ha
        exact ⟨(this : kHole.At (g' :: M) w cs (.inl x)).out⟩
      refine ⟨cs, (ha'.upd hu (fun j hj => hj) (fun j hj => .inl (hN j hj))).out, fun j u hj => ?_⟩
      have hj6 : j < 6 := by
        have := (List.getElem?_eq_some_iff.1 hj).1
        have hl6 := kNd.len ha'.out
        rw [hl6] at this
        exact this
      have := hc j u hj
      have e := hcell i j hik hj6
      simp only [Nat.zero_add]
      show w'.cell? ⟨g', i * 6 + j, none⟩ = some u
      rw [e]
      exact this

end Go.Proofs.Ytfkmkhojedfccaa
