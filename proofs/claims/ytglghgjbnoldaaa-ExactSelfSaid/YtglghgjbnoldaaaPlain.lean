/-
Contracts of small functions over slices of whole numbers: equality, copies, planes.
-/
import Derived.Test.YtglghgjbnoldaaaRows
import Derived.Test.YtglghgjbnoldaaaRange
import Derived.BigQuiet
import Derived.Deep.QuietTactic
namespace Go.Proofs.Ytglghgjbnoldaaa
set_option linter.unusedVariables false
set_option linter.unusedSimpArgs false
open Go.RowKit

theorem ints_at {k : IntKind} {M : List Nat} {w : World} {v : Value} {l : List Int} (h : (Kd.int k).slice.At M w [v] l) {i : Nat} {x : Int} (hx : l[i]? = some x) :
    ∃ b o cap, v = .slice (some ⟨b, o, none⟩) l.length cap ∧ b < w.heap.size ∧ b ∉ M ∧ l.length ≤ cap ∧ cap ≤ maxLen ∧ w.cell? ⟨b, o + i, none⟩ = some (.int k x) ∧ (Lit.int k x).wf = true := by
  obtain ⟨b, o, cap, h1, h2, h3, h4, h5, cs', hr, hc⟩ := Kd.slice_get h hx
  obtain ⟨rfl, hw⟩ := at_int hr
  exact ⟨b, o, cap, h1, h2, h3, h4, h5, by have := hc 0 _ rfl; simpa [Kd.int] using this, hw⟩
/-- Two lists, told element by element. -/
theorem ints_ne {a b : List Int} {k : Nat} {x y : Int} (hx : a[k]? = some x) (hy : b[k]? = some y) (h : (x != y) = true) : (a == b) = false := by
  rw [beq_eq_false_iff_ne]
  rintro rfl
  rw [hx] at hy
  cases hy
  simp at h
theorem ints_step {a b : List Int} {k : Nat} {x y : Int} (hx : a[k]? = some x) (hy : b[k]? = some y) (h : a.take k = b.take k) (he : (x != y) = false) : a.take (k + 1) = b.take (k + 1) := by
  have e : x = y := by simpa using he
  subst e
  rw [take_snoc' hx, take_snoc' hy, h]

/-- A plane. -/
structure Pl where
  normal : List Int
  off : Int
  deriving DecidableEq

def kPl : Kd Pl where
  sz := 2
  rep F w cs x := ∃ vn, cs = [vn, .int .i64 x.off] ∧ (Kd.int .i32).slice.rep F w [vn] x.normal ∧ (Lit.int .i64 x.off).wf = true
  len h := by obtain ⟨vn, rfl, _⟩ := h; rfl
  one h := by
    obtain ⟨vn, rfl, h2, _⟩ := h
    intro v hv
    simp at hv
    rcases hv with rfl | rfl
    · exact (Kd.int .i32).slice.one h2 _ (by simp)
    · rfl
  mono h hF hw := by
    obtain ⟨vn, h1, h2, h3⟩ := h
    exact ⟨vn, h1, Kd.mono _ h2 hF hw, h3⟩
theorem pl_at {M : List Nat} {w : World} {cs : List Value} {x : Pl} (h : kPl.At M w cs x) : ∃ vn, cs = [vn, .int .i64 x.off] ∧ (Kd.int .i32).slice.At M w [vn] x.normal ∧ (Lit.int .i64 x.off).wf = true := by
  obtain ⟨vn, h1, h2, h3⟩ := h.out
  exact ⟨vn, h1, ⟨h2⟩, h3⟩
theorem pl_mk {M : List Nat} {w : World} {vn : Value} {n : List Int} {o : Int} (h : (Kd.int .i32).slice.At M w [vn] n) (ho : (Lit.int .i64 o).wf = true) : kPl.At M w [vn, .int .i64 o] ⟨n, o⟩ :=
  ⟨⟨vn, rfl, h.out, ho⟩⟩

theorem pl_beq (a b : Pl) : decide (a = b) = ((a.off == b.off) && (a.normal == b.normal)) := by
  rw [Bool.eq_iff_iff]
  cases a; cases b
  simp [and_comm]

def planeCheck (p : Pl) (dim : Int) : Int :=
  if dim < 1 ∨ 1024 < dim then 1 else if (p.normal.length : Int) ≠ dim then 3 else if p.normal.any (fun x => decide (x < -2097152 ∨ 2097152 < x)) then 4 else if p.off < -9007199254740992 ∨ 9007199254740992 < p.off then 1 else 0

theorem i32wf {x : Int} (h : (Lit.int .i32 x).wf = true) : -2147483648 ≤ x ∧ x ≤ 2147483647 := by
  simp [Lit.wf, IntKind.min, IntKind.max, IntKind.signed, IntKind.bits] at h
  omega
theorem i64wf {i : Int} (h : (Lit.int .i64 i).wf = true) : -9223372036854775808 ≤ i ∧ i ≤ 9223372036854775807 := by
  simp [Lit.wf, IntKind.min, IntKind.max, IntKind.signed, IntKind.bits] at h
  omega
theorem any_take {α : Type} {p : α → Bool} {l : List α} {k : Nat} {x : α} (hx : l[k]? = some x) (h : (l.take k).any p = false) (he : p x = false) : (l.take (k + 1)).any p = false := by
  rw [take_snoc' hx, List.any_append, h]
  simp [he]
theorem any_at {α : Type} {p : α → Bool} {l : List α} {k : Nat} {x : α} (hx : l[k]? = some x) (he : p x = true) : l.any p = true :=
  List.any_eq_true.2 ⟨x, List.mem_of_getElem? hx, he⟩

end Go.Proofs.Ytglghgjbnoldaaa
