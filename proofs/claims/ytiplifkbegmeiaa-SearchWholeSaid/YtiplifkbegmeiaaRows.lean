/-
  No cell of these rows narrows 'for every input' (looked for: loops, veiled, ifaces, maps, wideKeys, modest, calm, conditions, laid).
  DERIVED. THE GIVEN ROWS OF THIS SEAT. 7 by the template 'for every input the law returns true; each argument reads behind the call as it read before'; 0 by the template 'total and deterministic' (their statements: YtiplifkbegmeiaaTotals.lean).
  GIVEN WITH THE SEED: the statements are not yours to turn. If you find one false, say at which input.
  Laid BY PROGRAM, IN A SANDBOX (cutbox-rows.mjs): the forced cells as the released guide's own fill.sh prints them over the translation 4f86010005f2f037… (all of the seat's roots in one cut). By AI agents, Wed Nov 11 2026. No macro, syntax, notation, axiom, sorry.
-/
import Derived.Test.YtiplifkbegmeiaaChecked
import GoSem.Claim
import GoSem.ClaimJoined
import GoSem.ClaimMapViews
import Derived.JoinedTies
import Derived.KernelRfl
namespace Go.Proofs.Ytiplifkbegmeiaa
/- THE CELL 'sum', in the pinned program and in every row, IS THE sha256 OF THE DUMP (.gsa) THAT YtiplifkbegmeiaaProg.lean LOADS. Nothing in Lean hashes anything: it is a label: what it is worth is what the hold of that sum in a sandbox is worth. -/
noncomputable def Try.pinned : Pinned := { name := "ytiplifkbegmeiaa", sum := "4f86010005f2f037c3075a2413109374e80782efd2d953209a8424a0af795561", checked := Try.checked }
namespace Rows
def none {H : Type} : Left H := { results := [], args := [] }

/-- 'shelterbeltlaw21.SearchGathers': WHATEVER THE INPUT: true; the input reads as it did. -/
def searchGathersSpec : ChangeSpec := { name := "searchGathers", fn := fun _ => fun
  | [d1, d2, d3] => { results := [.lit (.bool true)], args := [d1, d2, d3] }
  | _ => none }
def searchGathersRow : OpenClaim := { program := "ytiplifkbegmeiaa", sum := "4f86010005f2f037c3075a2413109374e80782efd2d953209a8424a0af795561", func := "shelterbelt/shelterbeltlaw21.SearchGathers", spec := "searchGathers", unfollowed := true, recurses := true, apart := false }
def SearchGathersSaid : Prop := searchGathersRow.holds Try.pinned (OpenSpec.ofChange searchGathersSpec)

/-- ITS FALSE NEIGHBOUR: 'it returns false'. Refute it at one input. -/
def searchGathersWrong : ChangeSpec := { name := "searchGathers", fn := fun _ => fun
  | [d1, d2, d3] => { results := [.lit (.bool false)], args := [d1, d2, d3] }
  | _ => none }
def SearchGathersWrongFalsely : Prop := searchGathersRow.holds Try.pinned (OpenSpec.ofChange searchGathersWrong)

/-- 'shelterbeltlaw21.SearchEnough': WHATEVER THE INPUT: true; the input reads as it did. -/
def searchEnoughSpec : ChangeSpec := { name := "searchEnough", fn := fun _ => fun
  | [d1, d2, d3] => { results := [.lit (.bool true)], args := [d1, d2, d3] }
  | _ => none }
def searchEnoughRow : OpenClaim := { program := "ytiplifkbegmeiaa", sum := "4f86010005f2f037c3075a2413109374e80782efd2d953209a8424a0af795561", func := "shelterbelt/shelterbeltlaw21.SearchEnough", spec := "searchEnough", unfollowed := true, recurses := true, apart := false }
def SearchEnoughSaid : Prop := searchEnoughRow.holds Try.pinned (OpenSpec.ofChange searchEnoughSpec)

/-- ITS FALSE NEIGHBOUR: 'it returns false'. Refute it at one input. -/
def searchEnoughWrong : ChangeSpec := { name := "searchEnough", fn := fun _ => fun
  | [d1, d2, d3] => { results := [.lit (.bool false)], args := [d1, d2, d3] }
  | _ => none }
def SearchEnoughWrongFalsely : Prop := searchEnoughRow.holds Try.pinned (OpenSpec.ofChange searchEnoughWrong)

/-- 'shelterbeltlaw21.SearchMore': WHATEVER THE INPUT: true; the input reads as it did. -/
def searchMoreSpec : ChangeSpec := { name := "searchMore", fn := fun _ => fun
  | [d1, d2, d3, d4] => { results := [.lit (.bool true)], args := [d1, d2, d3, d4] }
  | _ => none }
def searchMoreRow : OpenClaim := { program := "ytiplifkbegmeiaa", sum := "4f86010005f2f037c3075a2413109374e80782efd2d953209a8424a0af795561", func := "shelterbelt/shelterbeltlaw21.SearchMore", spec := "searchMore", unfollowed := true, recurses := true, apart := false }
def SearchMoreSaid : Prop := searchMoreRow.holds Try.pinned (OpenSpec.ofChange searchMoreSpec)

/-- ITS FALSE NEIGHBOUR: 'it returns false'. Refute it at one input. -/
def searchMoreWrong : ChangeSpec := { name := "searchMore", fn := fun _ => fun
  | [d1, d2, d3, d4] => { results := [.lit (.bool false)], args := [d1, d2, d3, d4] }
  | _ => none }
def SearchMoreWrongFalsely : Prop := searchMoreRow.holds Try.pinned (OpenSpec.ofChange searchMoreWrong)

/-- 'shelterbeltlaw21.SearchAll': WHATEVER THE INPUT: true; the input reads as it did. -/
def searchAllSpec : ChangeSpec := { name := "searchAll", fn := fun _ => fun
  | [d1, d2, d3] => { results := [.lit (.bool true)], args := [d1, d2, d3] }
  | _ => none }
def searchAllRow : OpenClaim := { program := "ytiplifkbegmeiaa", sum := "4f86010005f2f037c3075a2413109374e80782efd2d953209a8424a0af795561", func := "shelterbelt/shelterbeltlaw21.SearchAll", spec := "searchAll", unfollowed := true, recurses := true, apart := false }
def SearchAllSaid : Prop := searchAllRow.holds Try.pinned (OpenSpec.ofChange searchAllSpec)

/-- ITS FALSE NEIGHBOUR: 'it returns false'. Refute it at one input. -/
def searchAllWrong : ChangeSpec := { name := "searchAll", fn := fun _ => fun
  | [d1, d2, d3] => { results := [.lit (.bool false)], args := [d1, d2, d3] }
  | _ => none }
def SearchAllWrongFalsely : Prop := searchAllRow.holds Try.pinned (OpenSpec.ofChange searchAllWrong)

/-- 'shelterbeltlaw21.SearchLeaves': WHATEVER THE INPUT: true; the input reads as it did. -/
def searchLeavesSpec : ChangeSpec := { name := "searchLeaves", fn := fun _ => fun
  | [d1, d2, d3] => { results := [.lit (.bool true)], args := [d1, d2, d3] }
  | _ => none }
def searchLeavesRow : OpenClaim := { program := "ytiplifkbegmeiaa", sum := "4f86010005f2f037c3075a2413109374e80782efd2d953209a8424a0af795561", func := "shelterbelt/shelterbeltlaw21.SearchLeaves", spec := "searchLeaves", unfollowed := true, recurses := true, apart := false }
def SearchLeavesSaid : Prop := searchLeavesRow.holds Try.pinned (OpenSpec.ofChange searchLeavesSpec)

/-- ITS FALSE NEIGHBOUR: 'it returns false'. Refute it at one input. -/
def searchLeavesWrong : ChangeSpec := { name := "searchLeaves", fn := fun _ => fun
  | [d1, d2, d3] => { results := [.lit (.bool false)], args := [d1, d2, d3] }
  | _ => none }
def SearchLeavesWrongFalsely : Prop := searchLeavesRow.holds Try.pinned (OpenSpec.ofChange searchLeavesWrong)

/-- 'shelterbeltlaw21.SearchWhole': WHATEVER THE INPUT: true; the input reads as it did. -/
def searchWholeSpec : ChangeSpec := { name := "searchWhole", fn := fun _ => fun
  | [d1, d2] => { results := [.lit (.bool true)], args := [d1, d2] }
  | _ => none }
def searchWholeRow : OpenClaim := { program := "ytiplifkbegmeiaa", sum := "4f86010005f2f037c3075a2413109374e80782efd2d953209a8424a0af795561", func := "shelterbelt/shelterbeltlaw21.SearchWhole", spec := "searchWhole", unfollowed := true, recurses := true, apart := false }
def SearchWholeSaid : Prop := searchWholeRow.holds Try.pinned (OpenSpec.ofChange searchWholeSpec)

/-- ITS FALSE NEIGHBOUR: 'it returns false'. Refute it at one input. -/
def searchWholeWrong : ChangeSpec := { name := "searchWhole", fn := fun _ => fun
  | [d1, d2] => { results := [.lit (.bool false)], args := [d1, d2] }
  | _ => none }
def SearchWholeWrongFalsely : Prop := searchWholeRow.holds Try.pinned (OpenSpec.ofChange searchWholeWrong)

/-- 'shelterbeltlaw21.SearchFirst': WHATEVER THE INPUT: true; the input reads as it did. -/
def searchFirstSpec : ChangeSpec := { name := "searchFirst", fn := fun _ => fun
  | [d1, d2] => { results := [.lit (.bool true)], args := [d1, d2] }
  | _ => none }
def searchFirstRow : OpenClaim := { program := "ytiplifkbegmeiaa", sum := "4f86010005f2f037c3075a2413109374e80782efd2d953209a8424a0af795561", func := "shelterbelt/shelterbeltlaw21.SearchFirst", spec := "searchFirst", unfollowed := true, recurses := true, apart := false }
def SearchFirstSaid : Prop := searchFirstRow.holds Try.pinned (OpenSpec.ofChange searchFirstSpec)

/-- ITS FALSE NEIGHBOUR: 'it returns false'. Refute it at one input. -/
def searchFirstWrong : ChangeSpec := { name := "searchFirst", fn := fun _ => fun
  | [d1, d2] => { results := [.lit (.bool false)], args := [d1, d2] }
  | _ => none }
def SearchFirstWrongFalsely : Prop := searchFirstRow.holds Try.pinned (OpenSpec.ofChange searchFirstWrong)

/- THE SECOND FORM. 'bulk': how many values and letters a reading holds, each counted each time it is reached (what is shared counts as often as it is met; a slice's spare places count too). A statement '..UptoSaid' is the law's where the arguments, and the package variables that the reading takes, are together of bulk at most 1048576: NARROWER than '..Said'. Prove '..Said' where nothing that the law and all that it calls make is longer than what came in: it says more and counts as full. Else prove '..UptoSaid'. A law counts once. -/
mutual
def uptoBulk {H : Type} : DataW H → Nat
  | .lit (.string bytes) => bytes.length + 1
  | .lit _ => 1
  | .nil => 1
  | .ptr d => uptoBulk d + 1
  | .slice elems spare => uptoBulkAll elems + uptoBulkAll spare + 1
  | .agg parts => uptoBulkAll parts + 1
  | .iface _ d => uptoBulk d + 1
  | .map entries => uptoBulkEntries entries + 1
  | .held _ => 1
def uptoBulkAll {H : Type} : List (DataW H) → Nat
  | [] => 0
  | d :: r => uptoBulk d + uptoBulkAll r
def uptoBulkEntries {H : Type} : List (Lit × DataW H) → Nat
  | [] => 0
  | x :: r => uptoBulkEntry x + uptoBulkEntries r
def uptoBulkEntry {H : Type} : Lit × DataW H → Nat
  | (.string bytes, d) => bytes.length + uptoBulk d + 1
  | (_, d) => uptoBulk d + 1
 end
def uptoSmall : (H : Type) → List (DataW H) → Bool := fun _ ds => decide (uptoBulkAll ds ≤ 1048576)
def OpenSpec.upto (s : _root_.Go.ChangeSpec) : _root_.Go.OpenSpec := { _root_.Go.OpenSpec.ofChange s with cond := some uptoSmall }

/-- 'shelterbeltlaw21.SearchGathers', WHERE WHAT IT READS IS OF BULK AT MOST 1048576: true; the input reads as it did. -/
def searchGathersUptoRow : OpenClaim := { program := "ytiplifkbegmeiaa", sum := "4f86010005f2f037c3075a2413109374e80782efd2d953209a8424a0af795561", func := "shelterbelt/shelterbeltlaw21.SearchGathers", spec := "searchGathers", unfollowed := true, recurses := true, apart := false, narrowed := true }
def SearchGathersUptoSaid : Prop := searchGathersUptoRow.holds Try.pinned (OpenSpec.upto searchGathersSpec)

/-- 'shelterbeltlaw21.SearchEnough', WHERE WHAT IT READS IS OF BULK AT MOST 1048576: true; the input reads as it did. -/
def searchEnoughUptoRow : OpenClaim := { program := "ytiplifkbegmeiaa", sum := "4f86010005f2f037c3075a2413109374e80782efd2d953209a8424a0af795561", func := "shelterbelt/shelterbeltlaw21.SearchEnough", spec := "searchEnough", unfollowed := true, recurses := true, apart := false, narrowed := true }
def SearchEnoughUptoSaid : Prop := searchEnoughUptoRow.holds Try.pinned (OpenSpec.upto searchEnoughSpec)

/-- 'shelterbeltlaw21.SearchMore', WHERE WHAT IT READS IS OF BULK AT MOST 1048576: true; the input reads as it did. -/
def searchMoreUptoRow : OpenClaim := { program := "ytiplifkbegmeiaa", sum := "4f86010005f2f037c3075a2413109374e80782efd2d953209a8424a0af795561", func := "shelterbelt/shelterbeltlaw21.SearchMore", spec := "searchMore", unfollowed := true, recurses := true, apart := false, narrowed := true }
def SearchMoreUptoSaid : Prop := searchMoreUptoRow.holds Try.pinned (OpenSpec.upto searchMoreSpec)

/-- 'shelterbeltlaw21.SearchAll', WHERE WHAT IT READS IS OF BULK AT MOST 1048576: true; the input reads as it did. -/
def searchAllUptoRow : OpenClaim := { program := "ytiplifkbegmeiaa", sum := "4f86010005f2f037c3075a2413109374e80782efd2d953209a8424a0af795561", func := "shelterbelt/shelterbeltlaw21.SearchAll", spec := "searchAll", unfollowed := true, recurses := true, apart := false, narrowed := true }
def SearchAllUptoSaid : Prop := searchAllUptoRow.holds Try.pinned (OpenSpec.upto searchAllSpec)

/-- 'shelterbeltlaw21.SearchLeaves', WHERE WHAT IT READS IS OF BULK AT MOST 1048576: true; the input reads as it did. -/
def searchLeavesUptoRow : OpenClaim := { program := "ytiplifkbegmeiaa", sum := "4f86010005f2f037c3075a2413109374e80782efd2d953209a8424a0af795561", func := "shelterbelt/shelterbeltlaw21.SearchLeaves", spec := "searchLeaves", unfollowed := true, recurses := true, apart := false, narrowed := true }
def SearchLeavesUptoSaid : Prop := searchLeavesUptoRow.holds Try.pinned (OpenSpec.upto searchLeavesSpec)

/-- 'shelterbeltlaw21.SearchWhole', WHERE WHAT IT READS IS OF BULK AT MOST 1048576: true; the input reads as it did. -/
def searchWholeUptoRow : OpenClaim := { program := "ytiplifkbegmeiaa", sum := "4f86010005f2f037c3075a2413109374e80782efd2d953209a8424a0af795561", func := "shelterbelt/shelterbeltlaw21.SearchWhole", spec := "searchWhole", unfollowed := true, recurses := true, apart := false, narrowed := true }
def SearchWholeUptoSaid : Prop := searchWholeUptoRow.holds Try.pinned (OpenSpec.upto searchWholeSpec)

/-- 'shelterbeltlaw21.SearchFirst', WHERE WHAT IT READS IS OF BULK AT MOST 1048576: true; the input reads as it did. -/
def searchFirstUptoRow : OpenClaim := { program := "ytiplifkbegmeiaa", sum := "4f86010005f2f037c3075a2413109374e80782efd2d953209a8424a0af795561", func := "shelterbelt/shelterbeltlaw21.SearchFirst", spec := "searchFirst", unfollowed := true, recurses := true, apart := false, narrowed := true }
def SearchFirstUptoSaid : Prop := searchFirstUptoRow.holds Try.pinned (OpenSpec.upto searchFirstSpec)

end Rows
end Go.Proofs.Ytiplifkbegmeiaa
