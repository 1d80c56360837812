/-
shape.Check.
-/
import Derived.Test.YtfkmkhojedfccaaCovers
namespace Go.Proofs.Ytfkmkhojedfccaa
set_option linter.unusedVariables false
set_option linter.unusedSimpArgs false
open Go.RowKit

def checkNd (l : List Nd) (n dim : Int) : Int :=
  if n < 0 ∨ n > 1048576 ∨ dim < 1 ∨ dim > 1024 then 1
  else if l.any (fun x => !bareB x dim) then 14
  else if wholeGo l 0 false [] 0 = false then 14
  else if covers n (leavesOf l) = false then 14
  else 0

set_option maxHeartbeats 1000000 in
theorem shape_check_calls (v : Value) (l : List Nd) (n dim : Int) (M : List Nat) (w : World) (h : kNd.slice.At M w [v] l) (hs : ∀ x ∈ l, x.ids.length ≤ 1099511627776) :
    Calls Try.prog 21 #[v, .int .i64 n, .int .i64 dim] w fun e w' => e = .returned (.int .i64 (checkNd l n dim)) ∧ Below w.heap.size w w' := by
  by_cases hr : n < 0 ∨ n > 1048576 ∨ dim < 1 ∨ dim > 1024
  · have e : checkNd l n dim = 1 := by simp [checkNd, hr]
    rw [e]
    have hb := below_alloc1 w (.cells #[.int .i64 dim] 3)
    have HB := Lib.hid hb
    have c5 : (w.alloc (.cells #[.int .i64 dim] 3)).cell? ⟨w.heap.size, 0, none⟩ = some (.int .i64 dim) := by rw [cell_of_block (Go.heap_alloc_new w _)]; rfl
    clear h hs e hb
    go_enter Try.func21, Try.ntmps21
    go_wp2_with fail
    all_goals
      go_ret
      exact ⟨rfl, HB.out⟩
  · obtain ⟨W0, hW0⟩ : ∃ W0, w.alloc (.cells #[.int .i64 dim] 3) = W0 := ⟨_, rfl⟩
    have hb0 : Below w.heap.size w W0 := by rw [← hW0]; exact below_alloc1 w _
    have hd0 : W0.heap[w.heap.size]? = some (.cells #[.int .i64 dim] 3) := by rw [← hW0]; exact Go.heap_alloc_new w _
    have c5 : W0.cell? ⟨w.heap.size, 0, none⟩ = some (.int .i64 dim) := by rw [cell_of_block hd0]; rfl
    have hsz := hb0.size
    have HC := Lib.hid (containsFunc_calls v l dim M w.heap.size W0 (h.below hb0) c5)
    have H := Lib.hid h
    have HS := Lib.hid hs
    have HB0 := Lib.hid hb0
    have e1 : checkNd l n dim = if l.any (fun x => !bareB x dim) then 14 else if wholeGo l 0 false [] 0 = false then 14 else if covers n (leavesOf l) = false then 14 else 0 := by unfold checkNd; rw [if_neg hr]
    rw [e1]
    generalize hres : (if l.any (fun x => !bareB x dim) then (14 : Int) else if wholeGo l 0 false [] 0 = false then 14 else if covers n (leavesOf l) = false then 14 else 0) = res
    have HRES := Lib.hid hres
    obtain ⟨r1, hr1⟩ : ∃ r, l.any (fun x => !bareB x dim) = r := ⟨_, rfl⟩
    rw [hr1] at HC HRES
    have h1 : 0 ≤ n := by omega
    have h2 : n ≤ 1048576 := by omega
    have h3 : 1 ≤ dim := by omega
    have h4 : dim ≤ 1024 := by omega
    clear h hs hb0 hd0 e1 hres hr1 hr
    go_enter Try.func21, Try.ntmps21
    go_wp2_with fail
    refine HC.out.mono ?_
    rintro e w1 ⟨rfl, hb1⟩
    cases r1 with
    | true =>
      have e : res = 14 := by rw [← HRES.out]; rfl
      have HE := Lib.hid e
      have HB1 := Lib.hid (HB0.out.trans (hb1.mono hsz))
      clear e hb1
      go_wp2_with fail
      go_ret
      rw [HE.out]
      exact ⟨rfl, HB1.out⟩
    | false =>
      have hres2 : (if wholeGo l 0 false [] 0 = false then (14 : Int) else if covers n (leavesOf l) = false then 14 else 0) = res := HRES.out
      have HB1 := Lib.hid (HB0.out.trans (hb1.mono hsz))
      have HW := Lib.hid (whole_calls v l M w1 (H.out.below HB1.out))
      obtain ⟨r2, hr2⟩ : ∃ r, wholeGo l 0 false [] 0 = r := ⟨_, rfl⟩
      rw [hr2] at HW hres2
      have HRES2 := Lib.hid hres2
      clear hres2 hr2 hb1
      go_wp2_with fail
      refine HW.out.mono ?_
      rintro e w2 ⟨rfl, hb2⟩
      have HB2 := Lib.hid (HB1.out.trans (hb2.mono HB1.out.size))
      cases r2 with
      | false =>
        have e : res = 14 := by rw [← HRES2.out]; rfl
        have HE := Lib.hid e
        clear e hb2
        go_wp2_with fail
        go_ret
        rw [HE.out]
        exact ⟨rfl, HB2.out⟩
      | true =>
        have hres3 : (if covers n (leavesOf l) = false then (14 : Int) else 0) = res := HRES2.out
        have HL := Lib.hid (shape_leaves_calls v l [] w2 (H.out.below HB2.out).all (by simp) HS.out)
        obtain ⟨r3, hr3⟩ : ∃ r, covers n (leavesOf l) = r := ⟨_, rfl⟩
        rw [hr3] at hres3
        have HR3 := Lib.hid hr3
        have HRES3 := Lib.hid hres3
        clear hres3 hr3 hb2
        go_wp2_with fail
        refine HL.out.mono ?_
        rintro e w3 ⟨bx, rfl, hb3, hit⟩
        have HB3 := Lib.hid (HB2.out.trans (hb3.mono HB2.out.size))
        have HCO := Lib.hid (covers_calls n (by omega) _ _ _ w3 (enters_it Try.func93 rfl rfl) _ hit)
        rw [HR3.out] at HCO
        clear hb3 hit
        go_wp2_with fail
        refine HCO.out.mono ?_
        rintro e w4 ⟨rfl, hb4⟩
        have HB4 := Lib.hid (HB3.out.trans (hb4.mono HB3.out.size))
        clear hb4
        cases r3 with
        | false =>
          have e : res = 14 := by rw [← HRES3.out]; rfl
          have HE := Lib.hid e
          clear e
          go_wp2_with fail
          go_ret
          rw [HE.out]
          exact ⟨rfl, HB4.out⟩
        | true =>
          have e : res = 0 := by rw [← HRES3.out]; rfl
          have HE := Lib.hid e
          clear e
          go_wp2_with fail
          go_ret
          rw [HE.out]
          exact ⟨rfl, HB4.out⟩

end Go.Proofs.Ytfkmkhojedfccaa
