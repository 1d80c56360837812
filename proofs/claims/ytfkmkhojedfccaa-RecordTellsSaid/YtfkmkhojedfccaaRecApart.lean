/-
The law RecordApart.
-/
import Derived.Test.YtfkmkhojedfccaaRecSame
namespace Go.Proofs.Ytfkmkhojedfccaa
set_option linter.unusedVariables false
set_option linter.unusedSimpArgs false
open Go.RowKit

/-- A row's cells in a block. -/
def rwObj (v : Value) (x : Rw) (t : TypeId) : Obj := .cells #[.bool x.leaf, .int .i64 x.count, .int .i64 x.place, v, .int .i64 x.pl.off, .int .i64 x.right] t
structure RwCells (w : World) (b : Nat) (v : Value) (x : Rw) : Prop where
  c0 : w.cell? ⟨b, 0, none⟩ = some (.bool x.leaf)
  c1 : w.cell? ⟨b, 1, none⟩ = some (.int .i64 x.count)
  c2 : w.cell? ⟨b, 2, none⟩ = some (.int .i64 x.place)
  c3 : w.cell? ⟨b, 3, none⟩ = some v
  c4 : w.cell? ⟨b, 4, none⟩ = some (.int .i64 x.pl.off)
  c5 : w.cell? ⟨b, 5, none⟩ = some (.int .i64 x.right)
theorem rw_cells {w : World} {b : Nat} {v : Value} {x : Rw} {t : TypeId} (h : w.heap[b]? = some (rwObj v x t)) : RwCells w b v x := by
  unfold rwObj at h
  constructor <;> (rw [cell_of_block h]; rfl)

end Go.Proofs.Ytfkmkhojedfccaa
