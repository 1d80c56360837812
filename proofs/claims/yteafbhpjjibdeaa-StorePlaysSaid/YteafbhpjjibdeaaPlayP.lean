/-
What MarksPlay and MarksOrder share: the end of a law whose result is a slot; what a set holds behind a list of numbers that are met.
-/
import Derived.Test.YteafbhpjjibdeaaRefSet
import Derived.Test.YteafbhpjjibdeaaEnds
import Derived.Test.YteafbhpjjibdeaaWalk
namespace Go.Proofs.Yteafbhpjjibdeaa
set_option linter.unusedVariables false
set_option linter.unusedSimpArgs false
open Go.RowKit

attribute [local go_sem] Oper.semAt_some

/-- The end of a law whose result is a slot of its frame. -/
theorem fin_tmp {w wk : World} (h : Below w.heap.size w wk) {b : Bool} {P : Program} {fn : Func} {tmps : Array Value} {p : Tmp} (hr : fn.results = #[.tmp p]) (hp : tmps.getD p undef = .bool b)
    (Ds : List (Nat × Array Value)) (hK : ∀ D ∈ Ds, w.heap.size ≤ D.1 ∧ wk.heap[D.1]? = some (.deferred (some []))) (hn : (Ds.map (·.1)).Nodup) :
    LeavesInM Fence.wide 0 P fn tmps (fun e w' => e = .returned (.bool b) ∧ Below w.heap.size w w') (Ds.map fun D => { target := .collected D.1, args := D.2 }) .returning wk :=
  end_m Ds wk (fun D hD => (hK D hD).2) hn (fun W hu hz => ⟨.bool b, by rw [results_tmp hr, hp], rfl, h.trans (hu.belowB h.size (fun k hk => by
    obtain ⟨D, hD, rfl⟩ := List.mem_map.1 hk
    exact (hK D hD).1))⟩)

def playStep (n : Nat) (S : List Int) (x : Int) : List Int := if addsTo n S x then S ++ [x] else S
def playOf (n : Nat) (l : List Int) : List Int := l.foldl (playStep n) []
theorem playOf_snoc (n : Nat) {l : List Int} {k : Nat} {x : Int} (hx : l[k]? = some x) : playOf n (l.take (k + 1)) = playStep n (playOf n (l.take k)) x := by
  rw [take_snoc' hx]; simp [playOf, List.foldl_append]
theorem playStep_len (n : Nat) (S : List Int) (x : Int) : (playStep n S x).length ≤ S.length + 1 := by
  unfold playStep; split <;> simp
theorem playOf_len (n : Nat) (l : List Int) : ∀ k, (playOf n (l.take k)).length ≤ k
  | 0 => by simp [playOf]
  | k + 1 => by
    by_cases h : k < l.length
    · rw [playOf_snoc n (List.getElem?_eq_getElem h)]
      have := playStep_len n (playOf n (l.take k)) l[k]
      have := playOf_len n l k
      omega
    · have := playOf_len n l k
      rw [List.take_of_length_le (by omega)] at this ⊢
      omega
theorem i64_wf {x : Int} (h1 : -9223372036854775808 ≤ x) (h2 : x ≤ 9223372036854775807) : (Lit.int .i64 x).wf = true := by
  simp [Lit.wf, IntKind.min, IntKind.max, IntKind.signed, IntKind.bits]
  omega

end Go.Proofs.Yteafbhpjjibdeaa
