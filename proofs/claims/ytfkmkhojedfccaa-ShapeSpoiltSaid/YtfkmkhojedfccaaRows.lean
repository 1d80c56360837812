/-
  No cell of these rows narrows 'for every input' (looked for: loops, veiled, ifaces, maps, wideKeys, modest, calm, conditions, laid).
  DERIVED. THE GIVEN ROWS OF THIS SEAT. 5 by the template 'for every input the law returns true; each argument reads behind the call as it read before'; 0 by the template 'total and deterministic' (their statements: YtfkmkhojedfccaaTotals.lean).
  GIVEN WITH THE SEED: the statements are not yours to turn. If you find one false, say at which input.
  Laid BY PROGRAM, IN A SANDBOX (cutbox-rows.mjs): the forced cells as the released guide's own fill.sh prints them over the translation 1a0b63091bde6e8a… (all of the seat's roots in one cut). By AI agents, Wed Nov 11 2026. No macro, syntax, notation, axiom, sorry.
-/
import Derived.Test.YtfkmkhojedfccaaChecked
import GoSem.Claim
import GoSem.ClaimJoined
import GoSem.ClaimMapViews
import Derived.JoinedTies
import Derived.KernelRfl
namespace Go.Proofs.Ytfkmkhojedfccaa
/- THE CELL 'sum', in the pinned program and in every row, IS THE sha256 OF THE DUMP (.gsa) THAT YtfkmkhojedfccaaProg.lean LOADS. Nothing in Lean hashes anything: it is a label: what it is worth is what the hold of that sum in a sandbox is worth. -/
noncomputable def Try.pinned : Pinned := { name := "ytfkmkhojedfccaa", sum := "1a0b63091bde6e8a4cdadc05150368b3ee9e2cab0844e5bee687a8bf4b682e31", checked := Try.checked }
namespace Rows
def none {H : Type} : Left H := { results := [], args := [] }

/-- 'shelterbeltlaw15.RecordTells': WHATEVER THE INPUT: true; the input reads as it did. -/
def recordTellsSpec : ChangeSpec := { name := "recordTells", fn := fun _ => fun
  | [d1, d2, d3] => { results := [.lit (.bool true)], args := [d1, d2, d3] }
  | _ => none }
def recordTellsRow : OpenClaim := { program := "ytfkmkhojedfccaa", sum := "1a0b63091bde6e8a4cdadc05150368b3ee9e2cab0844e5bee687a8bf4b682e31", func := "shelterbelt/shelterbeltlaw15.RecordTells", spec := "recordTells", inPlace := ["internal/abi.NoEscape", "internal/bytealg.MakeNoZero"], unfollowed := true, recurses := true, apart := false }
def RecordTellsSaid : Prop := recordTellsRow.holds Try.pinned (OpenSpec.ofChange recordTellsSpec)

/-- ITS FALSE NEIGHBOUR: 'it returns false'. Refute it at one input. -/
def recordTellsWrong : ChangeSpec := { name := "recordTells", fn := fun _ => fun
  | [d1, d2, d3] => { results := [.lit (.bool false)], args := [d1, d2, d3] }
  | _ => none }
def RecordTellsWrongFalsely : Prop := recordTellsRow.holds Try.pinned (OpenSpec.ofChange recordTellsWrong)

/-- 'shelterbeltlaw15.RecordBack': WHATEVER THE INPUT: true; the input reads as it did. -/
def recordBackSpec : ChangeSpec := { name := "recordBack", fn := fun _ => fun
  | [d1, d2, d3] => { results := [.lit (.bool true)], args := [d1, d2, d3] }
  | _ => none }
def recordBackRow : OpenClaim := { program := "ytfkmkhojedfccaa", sum := "1a0b63091bde6e8a4cdadc05150368b3ee9e2cab0844e5bee687a8bf4b682e31", func := "shelterbelt/shelterbeltlaw15.RecordBack", spec := "recordBack", inPlace := ["internal/abi.NoEscape", "internal/bytealg.MakeNoZero"], unfollowed := true, recurses := true, apart := false }
def RecordBackSaid : Prop := recordBackRow.holds Try.pinned (OpenSpec.ofChange recordBackSpec)

/-- ITS FALSE NEIGHBOUR: 'it returns false'. Refute it at one input. -/
def recordBackWrong : ChangeSpec := { name := "recordBack", fn := fun _ => fun
  | [d1, d2, d3] => { results := [.lit (.bool false)], args := [d1, d2, d3] }
  | _ => none }
def RecordBackWrongFalsely : Prop := recordBackRow.holds Try.pinned (OpenSpec.ofChange recordBackWrong)

/-- 'shelterbeltlaw14.ShapeSpoilt': WHATEVER THE INPUT: true; the input reads as it did. -/
def shapeSpoiltSpec : ChangeSpec := { name := "shapeSpoilt", fn := fun _ => fun
  | [d1, d2, d3, d4, d5, d6] => { results := [.lit (.bool true)], args := [d1, d2, d3, d4, d5, d6] }
  | _ => none }
def shapeSpoiltRow : OpenClaim := { program := "ytfkmkhojedfccaa", sum := "1a0b63091bde6e8a4cdadc05150368b3ee9e2cab0844e5bee687a8bf4b682e31", func := "shelterbelt/shelterbeltlaw14.ShapeSpoilt", spec := "shapeSpoilt", unfollowed := true, recurses := true, apart := false }
def ShapeSpoiltSaid : Prop := shapeSpoiltRow.holds Try.pinned (OpenSpec.ofChange shapeSpoiltSpec)

/-- ITS FALSE NEIGHBOUR: 'it returns false'. Refute it at one input. -/
def shapeSpoiltWrong : ChangeSpec := { name := "shapeSpoilt", fn := fun _ => fun
  | [d1, d2, d3, d4, d5, d6] => { results := [.lit (.bool false)], args := [d1, d2, d3, d4, d5, d6] }
  | _ => none }
def ShapeSpoiltWrongFalsely : Prop := shapeSpoiltRow.holds Try.pinned (OpenSpec.ofChange shapeSpoiltWrong)

/-- 'shelterbeltlaw14.ShapeGrown': WHATEVER THE INPUT: true; the input reads as it did. -/
def shapeGrownSpec : ChangeSpec := { name := "shapeGrown", fn := fun _ => fun
  | [d1, d2, d3, d4] => { results := [.lit (.bool true)], args := [d1, d2, d3, d4] }
  | _ => none }
def shapeGrownRow : OpenClaim := { program := "ytfkmkhojedfccaa", sum := "1a0b63091bde6e8a4cdadc05150368b3ee9e2cab0844e5bee687a8bf4b682e31", func := "shelterbelt/shelterbeltlaw14.ShapeGrown", spec := "shapeGrown", unfollowed := true, recurses := true, apart := false }
def ShapeGrownSaid : Prop := shapeGrownRow.holds Try.pinned (OpenSpec.ofChange shapeGrownSpec)

/-- ITS FALSE NEIGHBOUR: 'it returns false'. Refute it at one input. -/
def shapeGrownWrong : ChangeSpec := { name := "shapeGrown", fn := fun _ => fun
  | [d1, d2, d3, d4] => { results := [.lit (.bool false)], args := [d1, d2, d3, d4] }
  | _ => none }
def ShapeGrownWrongFalsely : Prop := shapeGrownRow.holds Try.pinned (OpenSpec.ofChange shapeGrownWrong)

/-- 'shelterbeltlaw20.ForestBuilds': WHATEVER THE INPUT: true; the input reads as it did. -/
def forestBuildsSpec : ChangeSpec := { name := "forestBuilds", fn := fun _ => fun
  | [d1, d2, d3] => { results := [.lit (.bool true)], args := [d1, d2, d3] }
  | _ => none }
def forestBuildsRow : OpenClaim := { program := "ytfkmkhojedfccaa", sum := "1a0b63091bde6e8a4cdadc05150368b3ee9e2cab0844e5bee687a8bf4b682e31", func := "shelterbelt/shelterbeltlaw20.ForestBuilds", spec := "forestBuilds", unfollowed := true, recurses := true, apart := false }
def ForestBuildsSaid : Prop := forestBuildsRow.holds Try.pinned (OpenSpec.ofChange forestBuildsSpec)

/-- ITS FALSE NEIGHBOUR: 'it returns false'. Refute it at one input. -/
def forestBuildsWrong : ChangeSpec := { name := "forestBuilds", fn := fun _ => fun
  | [d1, d2, d3] => { results := [.lit (.bool false)], args := [d1, d2, d3] }
  | _ => none }
def ForestBuildsWrongFalsely : Prop := forestBuildsRow.holds Try.pinned (OpenSpec.ofChange forestBuildsWrong)

/- THE SECOND FORM. 'bulk': how many values and letters a reading holds, each counted each time it is reached (what is shared counts as often as it is met; a slice's spare places count too). A statement '..UptoSaid' is the law's where the arguments, and the package variables that the reading takes, are together of bulk at most 1048576: NARROWER than '..Said'. Prove '..Said' where nothing that the law and all that it calls make is longer than what came in: it says more and counts as full. Else prove '..UptoSaid'. A law counts once. -/
mutual
def uptoBulk {H : Type} : DataW H → Nat
  | .lit (.string bytes) => bytes.length + 1
  | .lit _ => 1
  | .nil => 1
  | .ptr d => uptoBulk d + 1
  | .slice elems spare => uptoBulkAll elems + uptoBulkAll spare + 1
  | .agg parts => uptoBulkAll parts + 1
  | .iface _ d => uptoBulk d + 1
  | .map entries => uptoBulkEntries entries + 1
  | .held _ => 1
def uptoBulkAll {H : Type} : List (DataW H) → Nat
  | [] => 0
  | d :: r => uptoBulk d + uptoBulkAll r
def uptoBulkEntries {H : Type} : List (Lit × DataW H) → Nat
  | [] => 0
  | x :: r => uptoBulkEntry x + uptoBulkEntries r
def uptoBulkEntry {H : Type} : Lit × DataW H → Nat
  | (.string bytes, d) => bytes.length + uptoBulk d + 1
  | (_, d) => uptoBulk d + 1
 end
def uptoSmall : (H : Type) → List (DataW H) → Bool := fun _ ds => decide (uptoBulkAll ds ≤ 1048576)
def OpenSpec.upto (s : _root_.Go.ChangeSpec) : _root_.Go.OpenSpec := { _root_.Go.OpenSpec.ofChange s with cond := some uptoSmall }

/-- 'shelterbeltlaw15.RecordTells', WHERE WHAT IT READS IS OF BULK AT MOST 1048576: true; the input reads as it did. -/
def recordTellsUptoRow : OpenClaim := { program := "ytfkmkhojedfccaa", sum := "1a0b63091bde6e8a4cdadc05150368b3ee9e2cab0844e5bee687a8bf4b682e31", func := "shelterbelt/shelterbeltlaw15.RecordTells", spec := "recordTells", inPlace := ["internal/abi.NoEscape", "internal/bytealg.MakeNoZero"], unfollowed := true, recurses := true, apart := false, narrowed := true }
def RecordTellsUptoSaid : Prop := recordTellsUptoRow.holds Try.pinned (OpenSpec.upto recordTellsSpec)

/-- 'shelterbeltlaw15.RecordBack', WHERE WHAT IT READS IS OF BULK AT MOST 1048576: true; the input reads as it did. -/
def recordBackUptoRow : OpenClaim := { program := "ytfkmkhojedfccaa", sum := "1a0b63091bde6e8a4cdadc05150368b3ee9e2cab0844e5bee687a8bf4b682e31", func := "shelterbelt/shelterbeltlaw15.RecordBack", spec := "recordBack", inPlace := ["internal/abi.NoEscape", "internal/bytealg.MakeNoZero"], unfollowed := true, recurses := true, apart := false, narrowed := true }
def RecordBackUptoSaid : Prop := recordBackUptoRow.holds Try.pinned (OpenSpec.upto recordBackSpec)

/-- 'shelterbeltlaw14.ShapeSpoilt', WHERE WHAT IT READS IS OF BULK AT MOST 1048576: true; the input reads as it did. -/
def shapeSpoiltUptoRow : OpenClaim := { program := "ytfkmkhojedfccaa", sum := "1a0b63091bde6e8a4cdadc05150368b3ee9e2cab0844e5bee687a8bf4b682e31", func := "shelterbelt/shelterbeltlaw14.ShapeSpoilt", spec := "shapeSpoilt", unfollowed := true, recurses := true, apart := false, narrowed := true }
def ShapeSpoiltUptoSaid : Prop := shapeSpoiltUptoRow.holds Try.pinned (OpenSpec.upto shapeSpoiltSpec)

/-- 'shelterbeltlaw14.ShapeGrown', WHERE WHAT IT READS IS OF BULK AT MOST 1048576: true; the input reads as it did. -/
def shapeGrownUptoRow : OpenClaim := { program := "ytfkmkhojedfccaa", sum := "1a0b63091bde6e8a4cdadc05150368b3ee9e2cab0844e5bee687a8bf4b682e31", func := "shelterbelt/shelterbeltlaw14.ShapeGrown", spec := "shapeGrown", unfollowed := true, recurses := true, apart := false, narrowed := true }
def ShapeGrownUptoSaid : Prop := shapeGrownUptoRow.holds Try.pinned (OpenSpec.upto shapeGrownSpec)

/-- 'shelterbeltlaw20.ForestBuilds', WHERE WHAT IT READS IS OF BULK AT MOST 1048576: true; the input reads as it did. -/
def forestBuildsUptoRow : OpenClaim := { program := "ytfkmkhojedfccaa", sum := "1a0b63091bde6e8a4cdadc05150368b3ee9e2cab0844e5bee687a8bf4b682e31", func := "shelterbelt/shelterbeltlaw20.ForestBuilds", spec := "forestBuilds", unfollowed := true, recurses := true, apart := false, narrowed := true }
def ForestBuildsUptoSaid : Prop := forestBuildsUptoRow.holds Try.pinned (OpenSpec.upto forestBuildsSpec)

end Rows
end Go.Proofs.Ytfkmkhojedfccaa
