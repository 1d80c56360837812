/-
Nodes of trees: their kind, and the contracts of shape's small functions.
-/
import Derived.Test.YtglghgjbnoldaaaPlain
namespace Go.Proofs.Ytglghgjbnoldaaa
set_option linter.unusedVariables false
set_option linter.unusedSimpArgs false
open Go.RowKit

structure Nd where
  leaf : Bool
  ids : List Int
  pl : Pl
  left : Int
  right : Int
  deriving DecidableEq

def kNd : Kd Nd where
  sz := 6
  rep F w cs x := ∃ vi vn, cs = [.bool x.leaf, vi, vn, .int .i64 x.pl.off, .int .i64 x.left, .int .i64 x.right] ∧ (Kd.int .i64).slice.rep F w [vi] x.ids ∧ (Kd.int .i32).slice.rep F w [vn] x.pl.normal ∧
    (Lit.int .i64 x.pl.off).wf = true ∧ (Lit.int .i64 x.left).wf = true ∧ (Lit.int .i64 x.right).wf = true
  len h := by obtain ⟨vi, vn, rfl, _⟩ := h; rfl
  one h := by
    obtain ⟨vi, vn, rfl, h1, h2, _⟩ := h
    intro v hv
    simp at hv
    rcases hv with rfl | rfl | rfl | rfl | rfl | rfl
    · rfl
    · exact (Kd.int .i64).slice.one h1 _ (by simp)
    · exact (Kd.int .i32).slice.one h2 _ (by simp)
    · rfl
    · rfl
    · rfl
  mono h hF hw := by
    obtain ⟨vi, vn, h0, h1, h2, h3⟩ := h
    exact ⟨vi, vn, h0, Kd.mono _ h1 hF hw, Kd.mono _ h2 hF hw, h3⟩

/-- A node's cells, opened. -/
structure NdAt (M : List Nat) (w : World) (vi vn : Value) (x : Nd) : Prop where
  ids : (Kd.int .i64).slice.At M w [vi] x.ids
  normal : (Kd.int .i32).slice.At M w [vn] x.pl.normal
  wo : (Lit.int .i64 x.pl.off).wf = true
  wl : (Lit.int .i64 x.left).wf = true
  wr : (Lit.int .i64 x.right).wf = true
theorem nd_open {M : List Nat} {w : World} {cs : List Value} {x : Nd} (h : kNd.At M w cs x) : ∃ vi vn, cs = [.bool x.leaf, vi, vn, .int .i64 x.pl.off, .int .i64 x.left, .int .i64 x.right] ∧ NdAt M w vi vn x := by
  obtain ⟨vi, vn, h0, h1, h2, h3, h4, h5⟩ := h.out
  exact ⟨vi, vn, h0, ⟨⟨h1⟩, ⟨h2⟩, h3, h4, h5⟩⟩
theorem NdAt.shut {M : List Nat} {w : World} {vi vn : Value} {x : Nd} (h : NdAt M w vi vn x) : kNd.At M w [.bool x.leaf, vi, vn, .int .i64 x.pl.off, .int .i64 x.left, .int .i64 x.right] x :=
  ⟨⟨vi, vn, rfl, h.ids.out, h.normal.out, h.wo, h.wl, h.wr⟩⟩
theorem NdAt.below {M : List Nat} {w w' : World} {vi vn : Value} {x : Nd} (h : NdAt M w vi vn x) (hu : Below w.heap.size w w') : NdAt M w' vi vn x := ⟨h.ids.below hu, h.normal.below hu, h.wo, h.wl, h.wr⟩

/-- The node at a place. -/
theorem nds_at {M : List Nat} {w : World} {v : Value} {l : List Nd} (h : kNd.slice.At M w [v] l) {i : Nat} {x : Nd} (hx : l[i]? = some x) :
    ∃ b o cap vi vn, v = .slice (some ⟨b, o, none⟩) l.length cap ∧ b < w.heap.size ∧ b ∉ M ∧ l.length ≤ cap ∧ cap ≤ maxLen ∧ NdAt M w vi vn x ∧
      w.cell? ⟨b, o + i * 6, none⟩ = some (.bool x.leaf) ∧ w.cell? ⟨b, o + i * 6 + 1, none⟩ = some vi ∧ w.cell? ⟨b, o + i * 6 + 2, none⟩ = some vn ∧ w.cell? ⟨b, o + i * 6 + 3, none⟩ = some (.int .i64 x.pl.off) ∧
      w.cell? ⟨b, o + i * 6 + 4, none⟩ = some (.int .i64 x.left) ∧ w.cell? ⟨b, o + i * 6 + 5, none⟩ = some (.int .i64 x.right) := by
  obtain ⟨b, o, cap, h1, h2, h3, h4, h5, cs', hr, hc⟩ := Kd.slice_get h hx
  obtain ⟨vi, vn, rfl, hn⟩ := nd_open hr
  exact ⟨b, o, cap, vi, vn, h1, h2, h3, h4, h5, hn, hc 0 _ rfl, hc 1 _ rfl, hc 2 _ rfl, hc 3 _ rfl, hc 4 _ rfl, hc 5 _ rfl⟩

def bareB (x : Nd) (dim : Int) : Bool :=
  if x.leaf then (x.pl.off == 0 && x.pl.normal == []) && x.left == 0 && x.right == 0 else x.ids.isEmpty && planeCheck x.pl dim == 0

theorem slice_form' {k : IntKind} {M : List Nat} {w : World} {v : Value} {l : List Int} (h : (Kd.int k).slice.At M w [v] l) : ∃ ao cap, v = .slice ao l.length cap ∧ l.length ≤ cap ∧ cap ≤ maxLen := Kd.slice_form h

/-- A node's value. -/
def ndV (vi vn : Value) (x : Nd) : Value := .agg #[.bool x.leaf, vi, vn, .int .i64 x.pl.off, .int .i64 x.left, .int .i64 x.right]

def FirstOdd (l : List Nd) (dim : Int) (w : World) (e : Ending) (w' : World) : Prop := ∃ r : Int, e = .returned (.int .i64 r) ∧ decide (0 ≤ r) = l.any (fun x => !bareB x dim) ∧ Below w.heap.size w w'

/-! ### The same nodes -/
def sameNd (x y : Nd) : Bool := x.leaf == y.leaf && x.left == y.left && x.right == y.right && (x.ids == y.ids) && ((x.pl.off == y.pl.off) && (x.pl.normal == y.pl.normal))
theorem sameNd_iff (x y : Nd) : sameNd x y = decide (x = y) := by
  rw [Bool.eq_iff_iff]
  obtain ⟨a, b, ⟨c, d⟩, e, f⟩ := x
  obtain ⟨a', b', ⟨c', d'⟩, e', f'⟩ := y
  simp [sameNd]
  constructor
  · rintro ⟨⟨⟨⟨h1, h2⟩, h3⟩, h4⟩, h5, h6⟩; exact ⟨h1, h4, ⟨h6, h5⟩, h2, h3⟩
  · rintro ⟨h1, h4, ⟨h6, h5⟩, h2, h3⟩; exact ⟨⟨⟨⟨h1, h2⟩, h3⟩, h4⟩, h5, h6⟩

end Go.Proofs.Ytglghgjbnoldaaa
