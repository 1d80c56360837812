/-
The document's answers: ref14.Check.
-/
import Derived.Test.YtfkmkhojedfccaaTree
namespace Go.Proofs.Ytfkmkhojedfccaa
set_option linter.unusedVariables false
set_option linter.unusedSimpArgs false
open Go.RowKit

def refCheck (l : List Nd) (n dim : Int) : Int :=
  if n < 0 ∨ n > 1048576 ∨ dim < 1 ∨ dim > 1024 then 1
  else if (treeGo l dim 65 0 0).2.2 = false then 14
  else if (treeGo l dim 65 0 0).2.1 ≠ l.length then 14
  else if coversRef n (leavesOf l) = false then 14
  else 0

set_option maxHeartbeats 1000000 in
theorem ref_check_calls (v : Value) (l : List Nd) (n dim : Int) (M : List Nat) (w : World) (h : kNd.slice.At M w [v] l) (hlen : l.length ≤ 1099511627776) (hfl : (leavesOf l).flatten.length ≤ 1099511627776) :
    Calls Try.prog 19 #[v, .int .i64 n, .int .i64 dim] w fun e w' => e = .returned (.int .i64 (refCheck l n dim)) ∧ Below w.heap.size w w' := by
  by_cases hr : n < 0 ∨ n > 1048576 ∨ dim < 1 ∨ dim > 1024
  · have e : refCheck l n dim = 1 := by simp [refCheck, hr]
    rw [e]
    clear h e
    go_enter Try.func19, Try.ntmps19
    go_wp2_with fail
    all_goals
      go_ret
      exact ⟨rfl, Below.refl _ _⟩
  · have e1 : refCheck l n dim = if (treeGo l dim 65 0 0).2.2 = false then 14 else if (treeGo l dim 65 0 0).2.1 ≠ l.length then 14 else if coversRef n (leavesOf l) = false then 14 else 0 := by unfold refCheck; rw [if_neg hr]
    rw [e1]
    obtain ⟨ao, cap, rfl, hl, hcap⟩ := Kd.slice_form h
    unfold maxLen at hcap
    have HT := tree_calls _ l dim hlen 65 0 0 M w h (by omega) (by omega)
    generalize htr : treeGo l dim 65 0 0 = t at *
    obtain ⟨tl, fin, ok⟩ := t
    simp only at HT e1 ⊢
    generalize hres : (if ok = false then (14 : Int) else if fin ≠ l.length then 14 else if coversRef n (leavesOf l) = false then 14 else 0) = res
    have HRES := Lib.hid hres
    have HTT := Lib.hid HT
    have H := Lib.hid h
    have h1 : 0 ≤ n := by omega
    have h2 : n ≤ 1048576 := by omega
    have h3 : 1 ≤ dim := by omega
    have h4 : dim ≤ 1024 := by omega
    clear h HT e1 hres hr htr
    go_enter Try.func19, Try.ntmps19
    go_wp2_with fail
    refine HTT.out.mono ?_
    rintro e w1 ⟨v1, rfl, hb1, _⟩
    have HB1 := Lib.hid hb1
    clear hb1
    cases ok with
    | false =>
      have e : res = 14 := by rw [← HRES.out]; rfl
      have HE := Lib.hid e
      clear e
      go_wp2_with fail
      go_ret
      rw [HE.out]
      exact ⟨rfl, HB1.out⟩
    | true =>
      by_cases hfin : fin = l.length
      · subst hfin
        have HL := Lib.hid (ref_leaves_calls _ l M w1 (H.out.below HB1.out) hlen)
        obtain ⟨r3, hr3⟩ : ∃ r, coversRef n (leavesOf l) = r := ⟨_, rfl⟩
        have hres3 : (if r3 = false then (14 : Int) else 0) = res := by rw [← HRES.out, hr3]; simp
        have HR3 := Lib.hid hr3
        have HRES3 := Lib.hid hres3
        clear hr3 hres3
        go_wp2_with fail
        refine HL.out.mono ?_
        rintro e w2 ⟨v2, rfl, hb2, hrow⟩
        have HB2 := Lib.hid (HB1.out.trans (hb2.mono HB1.out.size))
        have HC := ref_covers_calls v2 n (leavesOf l) [] w2 (hrow.read (by simp)) hfl (by omega) (by omega)
        rw [HR3.out] at HC
        have HCC := Lib.hid HC
        clear HC hb2 hrow
        go_wp2_with fail
        refine HCC.out.mono ?_
        rintro e w3 ⟨rfl, hb3⟩
        have HB3 := Lib.hid (HB2.out.trans (hb3.mono HB2.out.size))
        clear hb3
        cases r3 with
        | false =>
          have e : res = 14 := by rw [← HRES3.out]; rfl
          have HE := Lib.hid e
          clear e
          go_wp2_with fail
          go_ret
          rw [HE.out]
          exact ⟨rfl, HB3.out⟩
        | true =>
          have e : res = 0 := by rw [← HRES3.out]; rfl
          have HE := Lib.hid e
          clear e
          go_wp2_with fail
          go_ret
          rw [HE.out]
          exact ⟨rfl, HB3.out⟩
      · have e : res = 14 := by rw [← HRES.out]; simp [hfin]
        have HE := Lib.hid e
        have q : ((fin : Int) != (l.length : Int)) = true := by rw [bne_iff_ne]; omega
        clear e hfin
        go_wp2_with fail
        go_ret
        rw [HE.out]
        exact ⟨rfl, HB1.out⟩

end Go.Proofs.Ytfkmkhojedfccaa
