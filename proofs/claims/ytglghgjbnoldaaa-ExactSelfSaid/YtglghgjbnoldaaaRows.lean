/-
  No cell of these rows narrows 'for every input' (looked for: loops, veiled, ifaces, maps, wideKeys, modest, calm, conditions, laid).
  DERIVED. THE GIVEN ROWS OF THIS SEAT. 5 by the template 'for every input the law returns true; each argument reads behind the call as it read before'; 0 by the template 'total and deterministic' (their statements: YtglghgjbnoldaaaTotals.lean).
  GIVEN WITH THE SEED: the statements are not yours to turn. If you find one false, say at which input.
  Laid BY PROGRAM, IN A SANDBOX (cutbox-rows.mjs): the forced cells as the released guide's own fill.sh prints them over the translation 451c617266b16db8… (all of the seat's roots in one cut). By AI agents, Wed Nov 11 2026. No macro, syntax, notation, axiom, sorry.
-/
import Derived.Test.YtglghgjbnoldaaaChecked
import GoSem.Claim
import GoSem.ClaimJoined
import GoSem.ClaimMapViews
import Derived.JoinedTies
import Derived.KernelRfl
namespace Go.Proofs.Ytglghgjbnoldaaa
/- THE CELL 'sum', in the pinned program and in every row, IS THE sha256 OF THE DUMP (.gsa) THAT YtglghgjbnoldaaaProg.lean LOADS. Nothing in Lean hashes anything: it is a label: what it is worth is what the hold of that sum in a sandbox is worth. -/
noncomputable def Try.pinned : Pinned := { name := "ytglghgjbnoldaaa", sum := "451c617266b16db82fa6566f61c7a954ca9225ac84218a42fba30b1bbbe25d38", checked := Try.checked }
namespace Rows
def none {H : Type} : Left H := { results := [], args := [] }

/-- 'shelterbeltlaw22.ExactRanks': WHATEVER THE INPUT: true; the input reads as it did. -/
def exactRanksSpec : ChangeSpec := { name := "exactRanks", fn := fun _ => fun
  | [d1, d2, d3, d4, d5] => { results := [.lit (.bool true)], args := [d1, d2, d3, d4, d5] }
  | _ => none }
def exactRanksRow : OpenClaim := { program := "ytglghgjbnoldaaa", sum := "451c617266b16db82fa6566f61c7a954ca9225ac84218a42fba30b1bbbe25d38", func := "shelterbelt/shelterbeltlaw22.ExactRanks", spec := "exactRanks", unfollowed := true, recurses := true, plainKeys := false, apart := false }
def ExactRanksSaid : Prop := exactRanksRow.holds Try.pinned (OpenSpec.ofChange exactRanksSpec)

/-- ITS FALSE NEIGHBOUR: 'it returns false'. Refute it at one input. -/
def exactRanksWrong : ChangeSpec := { name := "exactRanks", fn := fun _ => fun
  | [d1, d2, d3, d4, d5] => { results := [.lit (.bool false)], args := [d1, d2, d3, d4, d5] }
  | _ => none }
def ExactRanksWrongFalsely : Prop := exactRanksRow.holds Try.pinned (OpenSpec.ofChange exactRanksWrong)

/-- 'shelterbeltlaw22.ExactEach': WHATEVER THE INPUT: true; the input reads as it did. -/
def exactEachSpec : ChangeSpec := { name := "exactEach", fn := fun _ => fun
  | [d1, d2, d3, d4, d5] => { results := [.lit (.bool true)], args := [d1, d2, d3, d4, d5] }
  | _ => none }
def exactEachRow : OpenClaim := { program := "ytglghgjbnoldaaa", sum := "451c617266b16db82fa6566f61c7a954ca9225ac84218a42fba30b1bbbe25d38", func := "shelterbelt/shelterbeltlaw22.ExactEach", spec := "exactEach", unfollowed := true, recurses := true, plainKeys := false, apart := false }
def ExactEachSaid : Prop := exactEachRow.holds Try.pinned (OpenSpec.ofChange exactEachSpec)

/-- ITS FALSE NEIGHBOUR: 'it returns false'. Refute it at one input. -/
def exactEachWrong : ChangeSpec := { name := "exactEach", fn := fun _ => fun
  | [d1, d2, d3, d4, d5] => { results := [.lit (.bool false)], args := [d1, d2, d3, d4, d5] }
  | _ => none }
def ExactEachWrongFalsely : Prop := exactEachRow.holds Try.pinned (OpenSpec.ofChange exactEachWrong)

/-- 'shelterbeltlaw22.ExactBrute': WHATEVER THE INPUT: true; the input reads as it did. -/
def exactBruteSpec : ChangeSpec := { name := "exactBrute", fn := fun _ => fun
  | [d1, d2, d3, d4] => { results := [.lit (.bool true)], args := [d1, d2, d3, d4] }
  | _ => none }
def exactBruteRow : OpenClaim := { program := "ytglghgjbnoldaaa", sum := "451c617266b16db82fa6566f61c7a954ca9225ac84218a42fba30b1bbbe25d38", func := "shelterbelt/shelterbeltlaw22.ExactBrute", spec := "exactBrute", unfollowed := true, recurses := true, plainKeys := false, apart := false }
def ExactBruteSaid : Prop := exactBruteRow.holds Try.pinned (OpenSpec.ofChange exactBruteSpec)

/-- ITS FALSE NEIGHBOUR: 'it returns false'. Refute it at one input. -/
def exactBruteWrong : ChangeSpec := { name := "exactBrute", fn := fun _ => fun
  | [d1, d2, d3, d4] => { results := [.lit (.bool false)], args := [d1, d2, d3, d4] }
  | _ => none }
def ExactBruteWrongFalsely : Prop := exactBruteRow.holds Try.pinned (OpenSpec.ofChange exactBruteWrong)

/-- 'shelterbeltlaw22.ExactFewer': WHATEVER THE INPUT: true; the input reads as it did. -/
def exactFewerSpec : ChangeSpec := { name := "exactFewer", fn := fun _ => fun
  | [d1, d2, d3, d4, d5, d6, d7] => { results := [.lit (.bool true)], args := [d1, d2, d3, d4, d5, d6, d7] }
  | _ => none }
def exactFewerRow : OpenClaim := { program := "ytglghgjbnoldaaa", sum := "451c617266b16db82fa6566f61c7a954ca9225ac84218a42fba30b1bbbe25d38", func := "shelterbelt/shelterbeltlaw22.ExactFewer", spec := "exactFewer", unfollowed := true, recurses := true, plainKeys := false, apart := false }
def ExactFewerSaid : Prop := exactFewerRow.holds Try.pinned (OpenSpec.ofChange exactFewerSpec)

/-- ITS FALSE NEIGHBOUR: 'it returns false'. Refute it at one input. -/
def exactFewerWrong : ChangeSpec := { name := "exactFewer", fn := fun _ => fun
  | [d1, d2, d3, d4, d5, d6, d7] => { results := [.lit (.bool false)], args := [d1, d2, d3, d4, d5, d6, d7] }
  | _ => none }
def ExactFewerWrongFalsely : Prop := exactFewerRow.holds Try.pinned (OpenSpec.ofChange exactFewerWrong)

/-- 'shelterbeltlaw22.ExactSelf': WHATEVER THE INPUT: true; the input reads as it did. -/
def exactSelfSpec : ChangeSpec := { name := "exactSelf", fn := fun _ => fun
  | [d1, d2, d3] => { results := [.lit (.bool true)], args := [d1, d2, d3] }
  | _ => none }
def exactSelfRow : OpenClaim := { program := "ytglghgjbnoldaaa", sum := "451c617266b16db82fa6566f61c7a954ca9225ac84218a42fba30b1bbbe25d38", func := "shelterbelt/shelterbeltlaw22.ExactSelf", spec := "exactSelf", unfollowed := true, recurses := true, plainKeys := false, apart := false }
def ExactSelfSaid : Prop := exactSelfRow.holds Try.pinned (OpenSpec.ofChange exactSelfSpec)

/-- ITS FALSE NEIGHBOUR: 'it returns false'. Refute it at one input. -/
def exactSelfWrong : ChangeSpec := { name := "exactSelf", fn := fun _ => fun
  | [d1, d2, d3] => { results := [.lit (.bool false)], args := [d1, d2, d3] }
  | _ => none }
def ExactSelfWrongFalsely : Prop := exactSelfRow.holds Try.pinned (OpenSpec.ofChange exactSelfWrong)

/- THE SECOND FORM. 'bulk': how many values and letters a reading holds, each counted each time it is reached (what is shared counts as often as it is met; a slice's spare places count too). A statement '..UptoSaid' is the law's where the arguments, and the package variables that the reading takes, are together of bulk at most 1048576: NARROWER than '..Said'. Prove '..Said' where nothing that the law and all that it calls make is longer than what came in: it says more and counts as full. Else prove '..UptoSaid'. A law counts once. -/
mutual
def uptoBulk {H : Type} : DataW H → Nat
  | .lit (.string bytes) => bytes.length + 1
  | .lit _ => 1
  | .nil => 1
  | .ptr d => uptoBulk d + 1
  | .slice elems spare => uptoBulkAll elems + uptoBulkAll spare + 1
  | .agg parts => uptoBulkAll parts + 1
  | .iface _ d => uptoBulk d + 1
  | .map entries => uptoBulkEntries entries + 1
  | .held _ => 1
def uptoBulkAll {H : Type} : List (DataW H) → Nat
  | [] => 0
  | d :: r => uptoBulk d + uptoBulkAll r
def uptoBulkEntries {H : Type} : List (Lit × DataW H) → Nat
  | [] => 0
  | x :: r => uptoBulkEntry x + uptoBulkEntries r
def uptoBulkEntry {H : Type} : Lit × DataW H → Nat
  | (.string bytes, d) => bytes.length + uptoBulk d + 1
  | (_, d) => uptoBulk d + 1
 end
def uptoSmall : (H : Type) → List (DataW H) → Bool := fun _ ds => decide (uptoBulkAll ds ≤ 1048576)
def OpenSpec.upto (s : _root_.Go.ChangeSpec) : _root_.Go.OpenSpec := { _root_.Go.OpenSpec.ofChange s with cond := some uptoSmall }

/-- 'shelterbeltlaw22.ExactRanks', WHERE WHAT IT READS IS OF BULK AT MOST 1048576: true; the input reads as it did. -/
def exactRanksUptoRow : OpenClaim := { program := "ytglghgjbnoldaaa", sum := "451c617266b16db82fa6566f61c7a954ca9225ac84218a42fba30b1bbbe25d38", func := "shelterbelt/shelterbeltlaw22.ExactRanks", spec := "exactRanks", unfollowed := true, recurses := true, plainKeys := false, apart := false, narrowed := true }
def ExactRanksUptoSaid : Prop := exactRanksUptoRow.holds Try.pinned (OpenSpec.upto exactRanksSpec)

/-- 'shelterbeltlaw22.ExactEach', WHERE WHAT IT READS IS OF BULK AT MOST 1048576: true; the input reads as it did. -/
def exactEachUptoRow : OpenClaim := { program := "ytglghgjbnoldaaa", sum := "451c617266b16db82fa6566f61c7a954ca9225ac84218a42fba30b1bbbe25d38", func := "shelterbelt/shelterbeltlaw22.ExactEach", spec := "exactEach", unfollowed := true, recurses := true, plainKeys := false, apart := false, narrowed := true }
def ExactEachUptoSaid : Prop := exactEachUptoRow.holds Try.pinned (OpenSpec.upto exactEachSpec)

/-- 'shelterbeltlaw22.ExactBrute', WHERE WHAT IT READS IS OF BULK AT MOST 1048576: true; the input reads as it did. -/
def exactBruteUptoRow : OpenClaim := { program := "ytglghgjbnoldaaa", sum := "451c617266b16db82fa6566f61c7a954ca9225ac84218a42fba30b1bbbe25d38", func := "shelterbelt/shelterbeltlaw22.ExactBrute", spec := "exactBrute", unfollowed := true, recurses := true, plainKeys := false, apart := false, narrowed := true }
def ExactBruteUptoSaid : Prop := exactBruteUptoRow.holds Try.pinned (OpenSpec.upto exactBruteSpec)

/-- 'shelterbeltlaw22.ExactFewer', WHERE WHAT IT READS IS OF BULK AT MOST 1048576: true; the input reads as it did. -/
def exactFewerUptoRow : OpenClaim := { program := "ytglghgjbnoldaaa", sum := "451c617266b16db82fa6566f61c7a954ca9225ac84218a42fba30b1bbbe25d38", func := "shelterbelt/shelterbeltlaw22.ExactFewer", spec := "exactFewer", unfollowed := true, recurses := true, plainKeys := false, apart := false, narrowed := true }
def ExactFewerUptoSaid : Prop := exactFewerUptoRow.holds Try.pinned (OpenSpec.upto exactFewerSpec)

/-- 'shelterbeltlaw22.ExactSelf', WHERE WHAT IT READS IS OF BULK AT MOST 1048576: true; the input reads as it did. -/
def exactSelfUptoRow : OpenClaim := { program := "ytglghgjbnoldaaa", sum := "451c617266b16db82fa6566f61c7a954ca9225ac84218a42fba30b1bbbe25d38", func := "shelterbelt/shelterbeltlaw22.ExactSelf", spec := "exactSelf", unfollowed := true, recurses := true, plainKeys := false, apart := false, narrowed := true }
def ExactSelfUptoSaid : Prop := exactSelfUptoRow.holds Try.pinned (OpenSpec.upto exactSelfSpec)

end Rows
end Go.Proofs.Ytglghgjbnoldaaa
