/-
  No cell of these rows narrows 'for every input' (looked for: loops, veiled, ifaces, maps, wideKeys, modest, calm, conditions, laid).
  DERIVED. THE GIVEN ROWS OF THIS SEAT. 8 by the template 'for every input the law returns true; each argument reads behind the call as it read before'; 0 by the template 'total and deterministic' (their statements: YteafbhpjjibdeaaTotals.lean).
  GIVEN WITH THE SEED: the statements are not yours to turn. If you find one false, say at which input.
  Laid BY PROGRAM, IN A SANDBOX (cutbox-rows.mjs): the forced cells as the released guide's own fill.sh prints them over the translation d5261e7badb39141… (all of the seat's roots in one cut). By AI agents, Wed Nov 11 2026. No macro, syntax, notation, axiom, sorry.
-/
import Derived.Test.YteafbhpjjibdeaaChecked
import GoSem.Claim
import GoSem.ClaimJoined
import GoSem.ClaimMapViews
import Derived.JoinedTies
import Derived.KernelRfl
namespace Go.Proofs.Yteafbhpjjibdeaa
/- THE CELL 'sum', in the pinned program and in every row, IS THE sha256 OF THE DUMP (.gsa) THAT YteafbhpjjibdeaaProg.lean LOADS. Nothing in Lean hashes anything: it is a label: what it is worth is what the hold of that sum in a sandbox is worth. -/
noncomputable def Try.pinned : Pinned := { name := "yteafbhpjjibdeaa", sum := "d5261e7badb39141a10f42b39b391d1c63740e3dc27d6c373a9de3e10322019f", checked := Try.checked }
namespace Rows
def none {H : Type} : Left H := { results := [], args := [] }

/-- 'shelterbeltlaw09.MarksUnique': WHATEVER THE INPUT: true; the input reads as it did. -/
def marksUniqueSpec : ChangeSpec := { name := "marksUnique", fn := fun _ => fun
  | [d] => { results := [.lit (.bool true)], args := [d] }
  | _ => none }
def marksUniqueRow : OpenClaim := { program := "yteafbhpjjibdeaa", sum := "d5261e7badb39141a10f42b39b391d1c63740e3dc27d6c373a9de3e10322019f", func := "shelterbelt/shelterbeltlaw09.MarksUnique", spec := "marksUnique", unfollowed := true, recurses := true, apart := false }
def MarksUniqueSaid : Prop := marksUniqueRow.holds Try.pinned (OpenSpec.ofChange marksUniqueSpec)

/-- ITS FALSE NEIGHBOUR: 'it returns false'. Refute it at one input. -/
def marksUniqueWrong : ChangeSpec := { name := "marksUnique", fn := fun _ => fun
  | [d] => { results := [.lit (.bool false)], args := [d] }
  | _ => none }
def MarksUniqueWrongFalsely : Prop := marksUniqueRow.holds Try.pinned (OpenSpec.ofChange marksUniqueWrong)

/-- 'shelterbeltlaw09.MarksCover': WHATEVER THE INPUT: true; the input reads as it did. -/
def marksCoverSpec : ChangeSpec := { name := "marksCover", fn := fun _ => fun
  | [d1, d2] => { results := [.lit (.bool true)], args := [d1, d2] }
  | _ => none }
def marksCoverRow : OpenClaim := { program := "yteafbhpjjibdeaa", sum := "d5261e7badb39141a10f42b39b391d1c63740e3dc27d6c373a9de3e10322019f", func := "shelterbelt/shelterbeltlaw09.MarksCover", spec := "marksCover", unfollowed := true, recurses := true, apart := false }
def MarksCoverSaid : Prop := marksCoverRow.holds Try.pinned (OpenSpec.ofChange marksCoverSpec)

/-- ITS FALSE NEIGHBOUR: 'it returns false'. Refute it at one input. -/
def marksCoverWrong : ChangeSpec := { name := "marksCover", fn := fun _ => fun
  | [d1, d2] => { results := [.lit (.bool false)], args := [d1, d2] }
  | _ => none }
def MarksCoverWrongFalsely : Prop := marksCoverRow.holds Try.pinned (OpenSpec.ofChange marksCoverWrong)

/-- 'shelterbeltlaw09.MarksPlay': WHATEVER THE INPUT: true; the input reads as it did. -/
def marksPlaySpec : ChangeSpec := { name := "marksPlay", fn := fun _ => fun
  | [d1, d2] => { results := [.lit (.bool true)], args := [d1, d2] }
  | _ => none }
def marksPlayRow : OpenClaim := { program := "yteafbhpjjibdeaa", sum := "d5261e7badb39141a10f42b39b391d1c63740e3dc27d6c373a9de3e10322019f", func := "shelterbelt/shelterbeltlaw09.MarksPlay", spec := "marksPlay", unfollowed := true, recurses := true, apart := false }
def MarksPlaySaid : Prop := marksPlayRow.holds Try.pinned (OpenSpec.ofChange marksPlaySpec)

/-- ITS FALSE NEIGHBOUR: 'it returns false'. Refute it at one input. -/
def marksPlayWrong : ChangeSpec := { name := "marksPlay", fn := fun _ => fun
  | [d1, d2] => { results := [.lit (.bool false)], args := [d1, d2] }
  | _ => none }
def MarksPlayWrongFalsely : Prop := marksPlayRow.holds Try.pinned (OpenSpec.ofChange marksPlayWrong)

/-- 'shelterbeltlaw23.StorePlays': WHATEVER THE INPUT: true; the input reads as it did. -/
def storePlaysSpec : ChangeSpec := { name := "storePlays", fn := fun _ => fun
  | [d] => { results := [.lit (.bool true)], args := [d] }
  | _ => none }
def storePlaysRow : OpenClaim := { program := "yteafbhpjjibdeaa", sum := "d5261e7badb39141a10f42b39b391d1c63740e3dc27d6c373a9de3e10322019f", func := "shelterbelt/shelterbeltlaw23.StorePlays", spec := "storePlays", inPlace := ["maps.clone"], unfollowed := true, recurses := true, apart := false }
def StorePlaysSaid : Prop := storePlaysRow.holds Try.pinned (OpenSpec.ofChange storePlaysSpec)

/-- ITS FALSE NEIGHBOUR: 'it returns false'. Refute it at one input. -/
def storePlaysWrong : ChangeSpec := { name := "storePlays", fn := fun _ => fun
  | [d] => { results := [.lit (.bool false)], args := [d] }
  | _ => none }
def StorePlaysWrongFalsely : Prop := storePlaysRow.holds Try.pinned (OpenSpec.ofChange storePlaysWrong)

/-- 'shelterbeltlaw23.StoreFull': WHATEVER THE INPUT: true; the input reads as it did. -/
def storeFullSpec : ChangeSpec := { name := "storeFull", fn := fun _ => fun
  | [d1, d2, d3] => { results := [.lit (.bool true)], args := [d1, d2, d3] }
  | _ => none }
def storeFullRow : OpenClaim := { program := "yteafbhpjjibdeaa", sum := "d5261e7badb39141a10f42b39b391d1c63740e3dc27d6c373a9de3e10322019f", func := "shelterbelt/shelterbeltlaw23.StoreFull", spec := "storeFull", inPlace := ["maps.clone"], unfollowed := true, recurses := true, apart := false }
def StoreFullSaid : Prop := storeFullRow.holds Try.pinned (OpenSpec.ofChange storeFullSpec)

/-- ITS FALSE NEIGHBOUR: 'it returns false'. Refute it at one input. -/
def storeFullWrong : ChangeSpec := { name := "storeFull", fn := fun _ => fun
  | [d1, d2, d3] => { results := [.lit (.bool false)], args := [d1, d2, d3] }
  | _ => none }
def StoreFullWrongFalsely : Prop := storeFullRow.holds Try.pinned (OpenSpec.ofChange storeFullWrong)

/-- 'shelterbeltlaw23.StoreCounts': WHATEVER THE INPUT: true; the input reads as it did. -/
def storeCountsSpec : ChangeSpec := { name := "storeCounts", fn := fun _ => fun
  | [d] => { results := [.lit (.bool true)], args := [d] }
  | _ => none }
def storeCountsRow : OpenClaim := { program := "yteafbhpjjibdeaa", sum := "d5261e7badb39141a10f42b39b391d1c63740e3dc27d6c373a9de3e10322019f", func := "shelterbelt/shelterbeltlaw23.StoreCounts", spec := "storeCounts", inPlace := ["maps.clone"], unfollowed := true, recurses := true, apart := false }
def StoreCountsSaid : Prop := storeCountsRow.holds Try.pinned (OpenSpec.ofChange storeCountsSpec)

/-- ITS FALSE NEIGHBOUR: 'it returns false'. Refute it at one input. -/
def storeCountsWrong : ChangeSpec := { name := "storeCounts", fn := fun _ => fun
  | [d] => { results := [.lit (.bool false)], args := [d] }
  | _ => none }
def StoreCountsWrongFalsely : Prop := storeCountsRow.holds Try.pinned (OpenSpec.ofChange storeCountsWrong)

/-- 'shelterbeltlaw09.MarksOrder': WHATEVER THE INPUT: true; the input reads as it did. -/
def marksOrderSpec : ChangeSpec := { name := "marksOrder", fn := fun _ => fun
  | [d1, d2, d3] => { results := [.lit (.bool true)], args := [d1, d2, d3] }
  | _ => none }
def marksOrderRow : OpenClaim := { program := "yteafbhpjjibdeaa", sum := "d5261e7badb39141a10f42b39b391d1c63740e3dc27d6c373a9de3e10322019f", func := "shelterbelt/shelterbeltlaw09.MarksOrder", spec := "marksOrder", unfollowed := true, recurses := true, apart := false }
def MarksOrderSaid : Prop := marksOrderRow.holds Try.pinned (OpenSpec.ofChange marksOrderSpec)

/-- ITS FALSE NEIGHBOUR: 'it returns false'. Refute it at one input. -/
def marksOrderWrong : ChangeSpec := { name := "marksOrder", fn := fun _ => fun
  | [d1, d2, d3] => { results := [.lit (.bool false)], args := [d1, d2, d3] }
  | _ => none }
def MarksOrderWrongFalsely : Prop := marksOrderRow.holds Try.pinned (OpenSpec.ofChange marksOrderWrong)

/-- 'shelterbeltlaw09.MarksBreak': WHATEVER THE INPUT: true; the input reads as it did. -/
def marksBreakSpec : ChangeSpec := { name := "marksBreak", fn := fun _ => fun
  | [d1, d2, d3] => { results := [.lit (.bool true)], args := [d1, d2, d3] }
  | _ => none }
def marksBreakRow : OpenClaim := { program := "yteafbhpjjibdeaa", sum := "d5261e7badb39141a10f42b39b391d1c63740e3dc27d6c373a9de3e10322019f", func := "shelterbelt/shelterbeltlaw09.MarksBreak", spec := "marksBreak", unfollowed := true, recurses := true, apart := false }
def MarksBreakSaid : Prop := marksBreakRow.holds Try.pinned (OpenSpec.ofChange marksBreakSpec)

/-- ITS FALSE NEIGHBOUR: 'it returns false'. Refute it at one input. -/
def marksBreakWrong : ChangeSpec := { name := "marksBreak", fn := fun _ => fun
  | [d1, d2, d3] => { results := [.lit (.bool false)], args := [d1, d2, d3] }
  | _ => none }
def MarksBreakWrongFalsely : Prop := marksBreakRow.holds Try.pinned (OpenSpec.ofChange marksBreakWrong)

/- THE SECOND FORM. 'bulk': how many values and letters a reading holds, each counted each time it is reached (what is shared counts as often as it is met; a slice's spare places count too). A statement '..UptoSaid' is the law's where the arguments, and the package variables that the reading takes, are together of bulk at most 1048576: NARROWER than '..Said'. Prove '..Said' where nothing that the law and all that it calls make is longer than what came in: it says more and counts as full. Else prove '..UptoSaid'. A law counts once. -/
mutual
def uptoBulk {H : Type} : DataW H → Nat
  | .lit (.string bytes) => bytes.length + 1
  | .lit _ => 1
  | .nil => 1
  | .ptr d => uptoBulk d + 1
  | .slice elems spare => uptoBulkAll elems + uptoBulkAll spare + 1
  | .agg parts => uptoBulkAll parts + 1
  | .iface _ d => uptoBulk d + 1
  | .map entries => uptoBulkEntries entries + 1
  | .held _ => 1
def uptoBulkAll {H : Type} : List (DataW H) → Nat
  | [] => 0
  | d :: r => uptoBulk d + uptoBulkAll r
def uptoBulkEntries {H : Type} : List (Lit × DataW H) → Nat
  | [] => 0
  | x :: r => uptoBulkEntry x + uptoBulkEntries r
def uptoBulkEntry {H : Type} : Lit × DataW H → Nat
  | (.string bytes, d) => bytes.length + uptoBulk d + 1
  | (_, d) => uptoBulk d + 1
 end
def uptoSmall : (H : Type) → List (DataW H) → Bool := fun _ ds => decide (uptoBulkAll ds ≤ 1048576)
def OpenSpec.upto (s : _root_.Go.ChangeSpec) : _root_.Go.OpenSpec := { _root_.Go.OpenSpec.ofChange s with cond := some uptoSmall }

/-- 'shelterbeltlaw09.MarksUnique', WHERE WHAT IT READS IS OF BULK AT MOST 1048576: true; the input reads as it did. -/
def marksUniqueUptoRow : OpenClaim := { program := "yteafbhpjjibdeaa", sum := "d5261e7badb39141a10f42b39b391d1c63740e3dc27d6c373a9de3e10322019f", func := "shelterbelt/shelterbeltlaw09.MarksUnique", spec := "marksUnique", unfollowed := true, recurses := true, apart := false, narrowed := true }
def MarksUniqueUptoSaid : Prop := marksUniqueUptoRow.holds Try.pinned (OpenSpec.upto marksUniqueSpec)

/-- 'shelterbeltlaw09.MarksCover', WHERE WHAT IT READS IS OF BULK AT MOST 1048576: true; the input reads as it did. -/
def marksCoverUptoRow : OpenClaim := { program := "yteafbhpjjibdeaa", sum := "d5261e7badb39141a10f42b39b391d1c63740e3dc27d6c373a9de3e10322019f", func := "shelterbelt/shelterbeltlaw09.MarksCover", spec := "marksCover", unfollowed := true, recurses := true, apart := false, narrowed := true }
def MarksCoverUptoSaid : Prop := marksCoverUptoRow.holds Try.pinned (OpenSpec.upto marksCoverSpec)

/-- 'shelterbeltlaw09.MarksPlay', WHERE WHAT IT READS IS OF BULK AT MOST 1048576: true; the input reads as it did. -/
def marksPlayUptoRow : OpenClaim := { program := "yteafbhpjjibdeaa", sum := "d5261e7badb39141a10f42b39b391d1c63740e3dc27d6c373a9de3e10322019f", func := "shelterbelt/shelterbeltlaw09.MarksPlay", spec := "marksPlay", unfollowed := true, recurses := true, apart := false, narrowed := true }
def MarksPlayUptoSaid : Prop := marksPlayUptoRow.holds Try.pinned (OpenSpec.upto marksPlaySpec)

/-- 'shelterbeltlaw23.StorePlays', WHERE WHAT IT READS IS OF BULK AT MOST 1048576: true; the input reads as it did. -/
def storePlaysUptoRow : OpenClaim := { program := "yteafbhpjjibdeaa", sum := "d5261e7badb39141a10f42b39b391d1c63740e3dc27d6c373a9de3e10322019f", func := "shelterbelt/shelterbeltlaw23.StorePlays", spec := "storePlays", inPlace := ["maps.clone"], unfollowed := true, recurses := true, apart := false, narrowed := true }
def StorePlaysUptoSaid : Prop := storePlaysUptoRow.holds Try.pinned (OpenSpec.upto storePlaysSpec)

/-- 'shelterbeltlaw23.StoreFull', WHERE WHAT IT READS IS OF BULK AT MOST 1048576: true; the input reads as it did. -/
def storeFullUptoRow : OpenClaim := { program := "yteafbhpjjibdeaa", sum := "d5261e7badb39141a10f42b39b391d1c63740e3dc27d6c373a9de3e10322019f", func := "shelterbelt/shelterbeltlaw23.StoreFull", spec := "storeFull", inPlace := ["maps.clone"], unfollowed := true, recurses := true, apart := false, narrowed := true }
def StoreFullUptoSaid : Prop := storeFullUptoRow.holds Try.pinned (OpenSpec.upto storeFullSpec)

/-- 'shelterbeltlaw23.StoreCounts', WHERE WHAT IT READS IS OF BULK AT MOST 1048576: true; the input reads as it did. -/
def storeCountsUptoRow : OpenClaim := { program := "yteafbhpjjibdeaa", sum := "d5261e7badb39141a10f42b39b391d1c63740e3dc27d6c373a9de3e10322019f", func := "shelterbelt/shelterbeltlaw23.StoreCounts", spec := "storeCounts", inPlace := ["maps.clone"], unfollowed := true, recurses := true, apart := false, narrowed := true }
def StoreCountsUptoSaid : Prop := storeCountsUptoRow.holds Try.pinned (OpenSpec.upto storeCountsSpec)

/-- 'shelterbeltlaw09.MarksOrder', WHERE WHAT IT READS IS OF BULK AT MOST 1048576: true; the input reads as it did. -/
def marksOrderUptoRow : OpenClaim := { program := "yteafbhpjjibdeaa", sum := "d5261e7badb39141a10f42b39b391d1c63740e3dc27d6c373a9de3e10322019f", func := "shelterbelt/shelterbeltlaw09.MarksOrder", spec := "marksOrder", unfollowed := true, recurses := true, apart := false, narrowed := true }
def MarksOrderUptoSaid : Prop := marksOrderUptoRow.holds Try.pinned (OpenSpec.upto marksOrderSpec)

/-- 'shelterbeltlaw09.MarksBreak', WHERE WHAT IT READS IS OF BULK AT MOST 1048576: true; the input reads as it did. -/
def marksBreakUptoRow : OpenClaim := { program := "yteafbhpjjibdeaa", sum := "d5261e7badb39141a10f42b39b391d1c63740e3dc27d6c373a9de3e10322019f", func := "shelterbelt/shelterbeltlaw09.MarksBreak", spec := "marksBreak", unfollowed := true, recurses := true, apart := false, narrowed := true }
def MarksBreakUptoSaid : Prop := marksBreakUptoRow.holds Try.pinned (OpenSpec.upto marksBreakSpec)

end Rows
end Go.Proofs.Yteafbhpjjibdeaa
