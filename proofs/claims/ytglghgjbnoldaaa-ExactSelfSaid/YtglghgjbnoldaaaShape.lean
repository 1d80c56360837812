/-
Contracts of shape's functions over lists of nodes: Same, whole.
-/
import Derived.Test.YtglghgjbnoldaaaNode
import Derived.Deep.DeepCutAuto
import Derived.Deep.CutBlock
namespace Go.Proofs.Ytglghgjbnoldaaa
set_option linter.unusedVariables false
set_option linter.unusedSimpArgs false
open Go.RowKit

theorem lists_ne {α : Type} [DecidableEq α] {a b : List α} {k : Nat} {x y : α} (hx : a[k]? = some x) (hy : b[k]? = some y) (h : decide (x = y) = false) : decide (a = b) = false := by
  rw [decide_eq_false_iff_not]
  rintro rfl
  rw [hx] at hy
  cases hy
  simp at h
theorem lists_step {α : Type} [DecidableEq α] {a b : List α} {k : Nat} {x y : α} (hx : a[k]? = some x) (hy : b[k]? = some y) (h : a.take k = b.take k) (he : decide (x = y) = true) : a.take (k + 1) = b.take (k + 1) := by
  have e : x = y := by simpa using he
  subst e
  rw [take_snoc' hx, take_snoc' hy, h]

/-! ### whole -/
/-- What whole answers for what is left of the nodes: their first place, whether a leaf stands ahead, the rights that are owed, the depth. -/
def wholeGo : List Nd → Nat → Bool → List (Int × Int) → Int → Bool
  | [], at_, prev, rights, _ => decide (0 < at_) && rights.isEmpty && prev
  | x :: rest, at_, prev, rights, depth =>
    match (if prev then (match rights.getLast? with
        | none => none
        | some r => if r.1 = (at_ : Int) then some (rights.dropLast, r.2) else none) else some (rights, depth)) with
    | none => false
    | some (rights, depth) =>
      if 64 < depth then false else
      if x.leaf then wholeGo rest (at_ + 1) true rights depth
      else if x.left = (at_ : Int) + 1 then wholeGo rest (at_ + 1) false (rights ++ [(x.right, depth + 1)]) (depth + 1) else false

def kRight : Kd (Int × Int) where
  sz := 2
  rep _ _ cs x := cs = [.int .i64 x.1, .int .i64 x.2]
  len h := by rw [h]; rfl
  one h := by rw [h]; simp [Value.oneCell']
  mono h _ _ := h

theorem right_at {M : List Nat} {e : TypeId} {B : Nat} {w : World} {v : Value} {R : List (Int × Int)} {r : Int × Int} (h : Row kRight M e B w v (R ++ [r])) :
    ∃ g cap, v = .slice (some ⟨g, 0, none⟩) (R.length + 1) cap ∧ B ≤ g ∧ g < w.heap.size ∧ R.length + 1 ≤ cap ∧ cap ≤ maxLen ∧ w.cell? ⟨g, R.length * 2, none⟩ = some (.int .i64 r.1) ∧ w.cell? ⟨g, R.length * 2 + 1, none⟩ = some (.int .i64 r.2) := by
  obtain ⟨g, cap, cs, hv, h1, h2, h3, h4, h5, h6, _⟩ := h.get (i := R.length) (x := r) (by simp)
  have e := h5.out
  subst e
  simp only [List.length_append, List.length_cons, List.length_nil, Nat.zero_add] at hv h3
  exact ⟨g, cap, hv, h1, h2, h3, h4, by simpa [kRight] using h6 0 _ rfl, by simpa [kRight] using h6 1 _ rfl⟩

/-- What holds of the rights that are owed. -/
structure RInv (R : List (Int × Int)) (d : Int) : Prop where
  len : (R.length : Int) ≤ d
  le : d ≤ 65
  each : ∀ (i : Nat) r, R[i]? = some r → (i : Int) + 1 ≤ r.2 ∧ r.2 ≤ 65
theorem RInv.nil : RInv [] 0 := ⟨by simp, by omega, by simp⟩
theorem RInv.pop {R : List (Int × Int)} {r : Int × Int} {d : Int} (h : RInv (R ++ [r]) d) : RInv R r.2 := by
  have h1 := h.each R.length r (by simp)
  exact ⟨by omega, h1.2, fun i q hq => h.each i q (by rw [List.getElem?_append_left (List.getElem?_eq_some_iff.1 hq).1]; exact hq)⟩
theorem RInv.push {R : List (Int × Int)} {d a : Int} (h : RInv R d) (hd : d ≤ 64) : RInv (R ++ [(a, d + 1)]) (d + 1) := by
  have := h.len
  refine ⟨by simp; omega, by omega, fun i q hq => ?_⟩
  rcases Nat.lt_or_ge i R.length with hlt | hge
  · rw [List.getElem?_append_left hlt] at hq; exact h.each i q hq
  · rw [List.getElem?_append_right hge] at hq
    cases hh : i - R.length with
    | zero => rw [hh] at hq; simp at hq; subst hq; simp; omega
    | succ n => rw [hh] at hq; simp at hq

theorem below_alloc1 (w : World) (o : Obj) : Below w.heap.size w (w.alloc o) := (Below.refl _ w).alloc (Nat.le_refl _) _
def prevLeaf (l : List Nd) (k : Nat) : Bool := match k with | 0 => false | j + 1 => ((l[j]?).map (·.leaf)).getD false

theorem prevLeaf_succ {l : List Nd} {k : Nat} {x : Nd} (h : l[k]? = some x) : prevLeaf l (k + 1) = x.leaf := by simp [prevLeaf, h]

end Go.Proofs.Ytglghgjbnoldaaa
