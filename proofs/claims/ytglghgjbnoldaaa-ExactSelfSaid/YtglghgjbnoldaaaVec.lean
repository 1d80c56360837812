/-
Vectors: vec.Check, Dot, plane.Margin; the document's.
-/
import Derived.Test.YtglghgjbnoldaaaSame
import Derived.IntWalk
namespace Go.Proofs.Ytglghgjbnoldaaa
set_option linter.unusedVariables false
set_option linter.unusedSimpArgs false
open Go.RowKit

def coordBad (x : Int) : Bool := decide (x < -1048576 ∨ 1048576 < x)
def vecCheck (v : List Int) (dim : Int) : Int := if dim < 1 ∨ 1024 < dim then 1 else if (v.length : Int) ≠ dim then 3 else if v.any coordBad then 4 else 0

theorem vcheck1_calls (x : Int) (w : World) : Calls Try.prog 50 #[.int .i32 x] w fun e w' => e = .returned (.bool (coordBad x)) ∧ w = w' := by
  obtain ⟨r, hr⟩ : ∃ r, coordBad x = r := ⟨_, rfl⟩
  rw [hr]
  have HR := Lib.hid hr
  clear hr
  go_enter Try.func50, Try.ntmps50
  go_wp2_with fail
  all_goals
    go_ret
    refine ⟨?_, rfl⟩
    rw [← HR.out, coordBad]
    congr 2
    first | (simp; done) | (simp; omega)

def FirstBad (l : List Int) (w : World) (e : Ending) (w' : World) : Prop := ∃ r : Int, e = .returned (.int .i64 r) ∧ decide (0 ≤ r) = l.any coordBad ∧ w = w'

set_option maxHeartbeats 1000000 in
theorem indexFunc32_calls (v : Value) (l : List Int) (M : List Nat) (w : World) (h : (Kd.int .i32).slice.At M w [v] l) :
    Calls Try.prog 76 #[v, .func (.func 50) #[] #[]] w (FirstBad l w) := by
  obtain ⟨ao, cap, rfl, hl, hcap⟩ := Kd.slice_form h
  have H := Lib.hid h
  clear h
  unfold maxLen at hcap
  go_enter Try.func76, Try.ntmps76
  go_wp2
  go_loopw [8] (fun i wr => ∃ k : Nat, k ≤ l.length ∧ i = .int .i64 k ∧ Hid ((l.take k).any coordBad = false) ∧ wr = w) (fun i _ => l.length - (intOf i).toNat)
  case atStart => exact ⟨0, Nat.zero_le _, rfl, rfl, rfl⟩
  case round =>
    obtain ⟨k, hk, rfl, hq, rfl⟩ := hrel
    by_cases hlt : k < l.length
    · obtain ⟨x, hx⟩ : ∃ x, l[k]? = some x := ⟨_, List.getElem?_eq_getElem hlt⟩
      obtain ⟨b, o, c, hv, _, _, _, _, c0, _⟩ := ints_at H.out hx
      simp at hv
      obtain ⟨rfl, rfl⟩ := hv
      have HC := Lib.hid (vcheck1_calls x wr)
      have HX := Lib.hid hx
      clear hx
      generalize hz : coordBad x = z at HC
      have HZ := Lib.hid hz
      clear hz
      go_wp2_with fail
      refine HC.out.mono ?_
      rintro e w1 ⟨rfl, rfl⟩
      clear HC
      cases z with
      | true =>
        go_wp2_with fail
        go_ret
        exact ⟨k, rfl, by rw [any_at HX.out HZ.out]; simp, rfl⟩
      | false =>
        go_wp2_with fail
        go_roundw
        case rel => exact ⟨k + 1, by omega, by go_num, any_take HX.out hq HZ.out, by first | rfl | trivial⟩
        case measure => simp [intOf]; omega
    · have e : l.take k = l := List.take_of_length_le (by omega)
      rw [e] at hq
      have HQ := Lib.hid hq.out
      clear e hq
      go_wp2
      go_ret
      exact ⟨-1, rfl, by rw [HQ.out]; rfl, rfl⟩

theorem containsFunc32_calls (v : Value) (l : List Int) (M : List Nat) (w : World) (h : (Kd.int .i32).slice.At M w [v] l) :
    Calls Try.prog 49 #[v, .func (.func 50) #[] #[]] w fun e w' => e = .returned (.bool (l.any coordBad)) ∧ w = w' := by
  have HC := Lib.hid (indexFunc32_calls v l M w h)
  clear h
  obtain ⟨r, hr⟩ : ∃ r, l.any coordBad = r := ⟨_, rfl⟩
  rw [hr]
  have HR := Lib.hid hr
  clear hr
  go_enter Try.func49, Try.ntmps49
  go_wp2_with fail
  refine HC.out.mono ?_
  rintro e w1 ⟨i, rfl, hi, rfl⟩
  have HI := Lib.hid hi
  clear hi
  go_wp2_with fail
  go_ret
  refine ⟨?_, rfl⟩
  rw [← HR.out, ← HI.out]
  rfl

set_option maxHeartbeats 1000000 in
theorem vec_check_calls (v : Value) (l : List Int) (dim : Int) (M : List Nat) (w : World) (h : (Kd.int .i32).slice.At M w [v] l) :
    Calls Try.prog 32 #[v, .int .i64 dim] w fun e w' => e = .returned (.int .i64 (vecCheck l dim)) ∧ w = w' := by
  have HC := Lib.hid (containsFunc32_calls v l M w h)
  obtain ⟨ao, cap, rfl, hl, hcap⟩ := Kd.slice_form h
  unfold maxLen at hcap
  clear h
  by_cases hd : dim < 1 ∨ 1024 < dim
  · have e : vecCheck l dim = 1 := by unfold vecCheck; rw [if_pos hd]
    rw [e]
    clear e
    rcases (show dim < 1 ∨ ¬ dim < 1 ∧ 1024 < dim by omega) with hd | ⟨hd0, hd⟩
    all_goals
      go_enter Try.func32, Try.ntmps32
      go_wp2_with fail
      go_ret
      exact ⟨rfl, rfl⟩
  · have hd1 : 1 ≤ dim := by omega
    have hd2 : dim ≤ 1024 := by omega
    by_cases hlen : (l.length : Int) = dim
    · have e : vecCheck l dim = if l.any coordBad then 4 else 0 := by unfold vecCheck; rw [if_neg hd, if_neg (by simp [hlen])]
      rw [e]
      have hne : ((l.length : Int) != dim) = false := by simp [hlen]
      generalize l.any coordBad = r at *
      clear e hd hlen
      go_enter Try.func32, Try.ntmps32
      go_wp2_with fail
      refine HC.out.mono ?_
      rintro e w1 ⟨rfl, rfl⟩
      cases r
      all_goals
        go_wp2_with fail
        go_ret
        exact ⟨rfl, rfl⟩
    · have e : vecCheck l dim = 3 := by unfold vecCheck; rw [if_neg hd, if_pos hlen]
      rw [e]
      have hne : ((l.length : Int) != dim) = true := by simpa using hlen
      clear e hd hlen
      go_enter Try.func32, Try.ntmps32
      go_wp2_with fail
      go_ret
      exact ⟨rfl, rfl⟩

set_option maxHeartbeats 1000000 in
theorem ref03_check_calls (v : Value) (l : List Int) (dim : Int) (M : List Nat) (w : World) (h : (Kd.int .i32).slice.At M w [v] l) :
    Calls Try.prog 31 #[v, .int .i64 dim] w fun e w' => e = .returned (.int .i64 (vecCheck l dim)) ∧ w = w' := by
  obtain ⟨ao, cap, rfl, hl, hcap⟩ := Kd.slice_form h
  unfold maxLen at hcap
  have H := Lib.hid h
  clear h
  by_cases hd : dim < 1 ∨ 1024 < dim
  · have e : vecCheck l dim = 1 := by unfold vecCheck; rw [if_pos hd]
    rw [e]
    clear e
    rcases (show dim < 1 ∨ ¬ dim < 1 ∧ 1024 < dim by omega) with hd | ⟨hd0, hd⟩
    all_goals
      go_enter Try.func31, Try.ntmps31
      go_wp2_with fail
      go_ret
      exact ⟨rfl, rfl⟩
  · have hd1 : 1 ≤ dim := by omega
    have hd2 : dim ≤ 1024 := by omega
    by_cases hlen : (l.length : Int) = dim
    · have e : vecCheck l dim = if l.any coordBad then 4 else 0 := by unfold vecCheck; rw [if_neg hd, if_neg (by simp [hlen])]
      have hne : ((l.length : Int) != dim) = false := by simp [hlen]
      generalize vecCheck l dim = r at e ⊢
      have HE := Lib.hid e
      clear e hd hlen
      go_enter Try.func31, Try.ntmps31
      go_wp2_with fail
      go_loopw [5] (fun i wr => ∃ k : Nat, k ≤ l.length ∧ i = .int .i64 k ∧ Hid ((l.take k).any coordBad = false) ∧ wr = w) (fun i _ => l.length - (intOf i).toNat)
      case atStart => exact ⟨0, Nat.zero_le _, rfl, rfl, rfl⟩
      case round =>
        obtain ⟨k, hk, rfl, hq, rfl⟩ := hrel
        by_cases hlt : k < l.length
        · obtain ⟨x, hx⟩ : ∃ x, l[k]? = some x := ⟨_, List.getElem?_eq_getElem hlt⟩
          obtain ⟨b1, o1, c1, hv1, _, _, _, _, g1, gw⟩ := ints_at H.out hx
          simp at hv1
          obtain ⟨rfl, rfl⟩ := hv1
          obtain ⟨gw1, gw2⟩ := i32wf gw
          have HX := Lib.hid hx
          clear hx gw
          by_cases hb : x < -1048576
          · have HBD := Lib.hid (show coordBad x = true by unfold coordBad; simp; omega)
            go_wp2_with fail
            go_ret
            rw [HE.out, if_pos (any_at HX.out HBD.out)]
            exact ⟨rfl, rfl⟩
          · by_cases hb2 : 1048576 < x
            · have HBD := Lib.hid (show coordBad x = true by unfold coordBad; simp; omega)
              go_wp2_with fail
              go_ret
              rw [HE.out, if_pos (any_at HX.out HBD.out)]
              exact ⟨rfl, rfl⟩
            · have HBD := Lib.hid (show coordBad x = false by unfold coordBad; simp; omega)
              go_wp2_with fail
              go_roundw
              case rel => exact ⟨k + 1, by omega, by go_num, any_take HX.out hq HBD.out, by first | rfl | trivial⟩
              case measure => simp [intOf]; omega
        · have e : l.take k = l := List.take_of_length_le (by omega)
          rw [e] at hq
          go_wp2_with fail
          go_ret
          rw [HE.out, hq.out]
          exact ⟨rfl, rfl⟩
    · have e : vecCheck l dim = 3 := by unfold vecCheck; rw [if_neg hd, if_pos hlen]
      rw [e]
      have hne : ((l.length : Int) != dim) = true := by simpa using hlen
      clear e hd hlen
      go_enter Try.func31, Try.ntmps31
      go_wp2_with fail
      go_ret
      exact ⟨rfl, rfl⟩

/-! ### Sums of products -/
def dotI : List Int → List Int → Int
  | x :: a, y :: b => x * y + dotI a b
  | _, _ => 0
theorem dotI_nil_r (a : List Int) : dotI a [] = 0 := by cases a <;> rfl
theorem dotI_snoc : ∀ (a b : List Int) (x y : Int), a.length = b.length → dotI (a ++ [x]) (b ++ [y]) = dotI a b + x * y
  | [], [], x, y, _ => by simp [dotI]
  | [], _ :: _, _, _, h => by simp at h
  | _ :: _, [], _, _, h => by simp at h
  | p :: a, q :: b, x, y, h => by
    have := dotI_snoc a b x y (by simpa using h)
    simp only [List.cons_append, dotI, this]
    omega
theorem dotI_min : ∀ (a b : List Int), dotI (a.take (min a.length b.length)) (b.take (min a.length b.length)) = dotI a b
  | [], b => by simp [dotI]
  | _ :: _, [] => by simp [dotI]
  | x :: a, y :: b => by
    have := dotI_min a b
    simp only [List.length_cons]
    rw [Nat.succ_min_succ, List.take_succ_cons, List.take_succ_cons]
    simp only [dotI, this]
theorem mul_bd {x y : Int} (hx : -2097152 ≤ x ∧ x ≤ 2097152) (hy : -2097152 ≤ y ∧ y ≤ 2097152) : -4398046511104 ≤ x * y ∧ x * y ≤ 4398046511104 := by
  have h1 : 0 ≤ (2097152 - x) * (2097152 - y) := Int.mul_nonneg (by omega) (by omega)
  have h2 : 0 ≤ (2097152 + x) * (2097152 + y) := Int.mul_nonneg (by omega) (by omega)
  have h3 : 0 ≤ (2097152 - x) * (2097152 + y) := Int.mul_nonneg (by omega) (by omega)
  have h4 : 0 ≤ (2097152 + x) * (2097152 - y) := Int.mul_nonneg (by omega) (by omega)
  have e1 : (2097152 - x) * (2097152 - y) = 4398046511104 - 2097152 * x - 2097152 * y + x * y := by simp only [Int.sub_mul, Int.mul_sub]; omega
  have e2 : (2097152 + x) * (2097152 + y) = 4398046511104 + 2097152 * x + 2097152 * y + x * y := by simp only [Int.add_mul, Int.mul_add]; omega
  have e3 : (2097152 - x) * (2097152 + y) = 4398046511104 - 2097152 * x + 2097152 * y - x * y := by simp only [Int.sub_mul, Int.mul_add]; omega
  have e4 : (2097152 + x) * (2097152 - y) = 4398046511104 + 2097152 * x - 2097152 * y - x * y := by simp only [Int.add_mul, Int.mul_sub]; omega
  omega
def Bd21 (l : List Int) : Prop := ∀ x ∈ l, -2097152 ≤ x ∧ x ≤ 2097152
theorem dotI_bd : ∀ (a b : List Int), Bd21 a → Bd21 b → -(4398046511104 * (a.length : Int)) ≤ dotI a b ∧ dotI a b ≤ 4398046511104 * (a.length : Int)
  | [], b, _, _ => by simp [dotI]
  | x :: a, [], _, _ => by simp only [dotI, List.length_cons]; omega
  | x :: a, y :: b, ha, hb => by
    have h1 := dotI_bd a b (fun z hz => ha z (by simp [hz])) (fun z hz => hb z (by simp [hz]))
    have h2 := mul_bd (ha x (by simp)) (hb y (by simp))
    simp only [dotI, List.length_cons]
    omega

theorem both_calls (v1 v2 : Value) (a b : List Int) (M : List Nat) (w : World) (h1 : (Kd.int .i32).slice.At M w [v1] a) (h2 : (Kd.int .i32).slice.At M w [v2] b) :
    Calls Try.prog 53 #[v1, v2] w fun e w' => e = .returned (.int .i64 ((min a.length b.length : Nat) : Int)) ∧ w = w' := by
  obtain ⟨ao1, cap1, rfl, hl1, hcap1⟩ := Kd.slice_form h1
  obtain ⟨ao2, cap2, rfl, hl2, hcap2⟩ := Kd.slice_form h2
  unfold maxLen at hcap1 hcap2
  clear h1 h2
  obtain ⟨m, hm⟩ : ∃ m : Nat, min a.length b.length = m := ⟨_, rfl⟩
  rw [hm]
  have HM := Lib.hid hm
  clear hm
  go_enter Try.func53, Try.ntmps53
  go_wp2_with fail
  all_goals
    go_ret
    refine ⟨?_, rfl⟩
    refine congrArg (fun n => Ending.returned (Value.int .i64 n)) ?_
    rw [← HM.out]
    omega

/-- A plane's margin of a vector. -/
def marg (p : Pl) (v : List Int) : Int := 2 * dotI p.normal v - p.off
theorem Bd21.normal {p : Pl} {dim : Int} (h : planeCheck p dim = 0) : Bd21 p.normal ∧ (p.normal.length : Int) = dim ∧ dim ≤ 1024 ∧ -9007199254740992 ≤ p.off ∧ p.off ≤ 9007199254740992 := by
  unfold planeCheck at h
  split at h
  · simp at h
  · split at h
    · simp at h
    · rename_i h1
      split at h
      · simp at h
      · rename_i h2
        split at h
        · simp at h
        · rename_i h3
          refine ⟨fun x hx => ?_, by omega, by omega, by omega, by omega⟩
          have := List.any_eq_false.1 (Bool.eq_false_iff.2 h2) x hx
          simp at this
          omega
theorem Bd21.vec {v : List Int} {dim : Int} (h : vecCheck v dim = 0) : Bd21 v ∧ (v.length : Int) = dim ∧ 1 ≤ dim ∧ dim ≤ 1024 := by
  unfold vecCheck at h
  split at h
  · simp at h
  · split at h
    · simp at h
    · rename_i h1
      split at h
      · simp at h
      · rename_i h2
        refine ⟨fun x hx => ?_, by omega, by omega, by omega⟩
        have := List.any_eq_false.1 (Bool.eq_false_iff.2 h2) x hx
        simp [coordBad] at this
        omega
theorem marg_bd {p : Pl} {v : List Int} {dim : Int} (h : planeCheck p dim = 0) (hv : Bd21 v) : -(18014398509481984 : Int) ≤ marg p v ∧ marg p v ≤ 18014398509481984 := by
  obtain ⟨h1, h2, h3, h4, h5⟩ := Bd21.normal h
  have := dotI_bd p.normal v h1 hv
  unfold marg
  omega

end Go.Proofs.Ytglghgjbnoldaaa
