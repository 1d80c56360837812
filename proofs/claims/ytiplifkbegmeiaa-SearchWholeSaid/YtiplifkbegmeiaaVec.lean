/-
Vectors: vec.Check, Dot, plane.Margin; the document's.
-/
import Derived.Test.YtiplifkbegmeiaaSame
import Derived.IntWalk
namespace Go.Proofs.Ytiplifkbegmeiaa
set_option linter.unusedVariables false
set_option linter.unusedSimpArgs false
open Go.RowKit

def coordBad (x : Int) : Bool := decide (x < -1048576 ∨ 1048576 < x)
def vecCheck (v : List Int) (dim : Int) : Int := if dim < 1 ∨ 1024 < dim then 1 else if (v.length : Int) ≠ dim then 3 else if v.any coordBad then 4 else 0

theorem vcheck1_calls (x : Int) (w : World) : Calls Try.prog 60 #[.int .i32 x] w fun e w' => e = .returned (.bool (coordBad x)) ∧ w = w' := by
  obtain ⟨r, hr⟩ : ∃ r, coordBad x = r := ⟨_, rfl⟩
  rw [hr]
  have HR := Lib.hid hr
  clear hr
  go_enter Try.func60, Try.ntmps60
  go_wp2_with fail
  all_goals
    go_ret
    refine ⟨?_, rfl⟩
    rw [← HR.out, coordBad]
    congr 2
    first | (simp; done) | (simp; omega)

def FirstBad (l : List Int) (w : World) (e : Ending) (w' : World) : Prop := ∃ r : Int, e = .returned (.int .i64 r) ∧ decide (0 ≤ r) = l.any coordBad ∧ w = w'

set_option maxHeartbeats 1000000 in
theorem indexFunc32_calls (v : Value) (l : List Int) (M : List Nat) (w : World) (h : (Kd.int .i32).slice.At M w [v] l) :
    Calls Try.prog 80 #[v, .func (.func 60) #[] #[]] w (FirstBad l w) := by
  obtain ⟨ao, cap, rfl, hl, hcap⟩ := Kd.slice_form h
  have H := Lib.hid h
  clear h
  unfold maxLen at hcap
  go_enter Try.func80, Try.ntmps80
  go_wp2
  go_loopw [8] (fun i wr => ∃ k : Nat, k ≤ l.length ∧ i = .int .i64 k ∧ Hid ((l.take k).any coordBad = false) ∧ wr = w) (fun i _ => l.length - (intOf i).toNat)
  case atStart => exact ⟨0, Nat.zero_le _, rfl, rfl, rfl⟩
  case round =>
    obtain ⟨k, hk, rfl, hq, rfl⟩ := hrel
    by_cases hlt : k < l.length
    · obtain ⟨x, hx⟩ : ∃ x, l[k]? = some x := ⟨_, List.getElem?_eq_getElem hlt⟩
      obtain ⟨b, o, c, hv, _, _, _, _, c0, _⟩ := ints_at H.out hx
      simp at hv
      obtain ⟨rfl, rfl⟩ := hv
      have HC := Lib.hid (vcheck1_calls x wr)
      have HX := Lib.hid hx
      clear hx
      generalize hz : coordBad x = z at HC
      have HZ := Lib.hid hz
      clear hz
      go_wp2_with fail
      refine HC.out.mono ?_
      rintro e w1 ⟨rfl, rfl⟩
      clear HC
      cases z with
      | true =>
        go_wp2_with fail
        go_ret
        exact ⟨k, rfl, by rw [any_at HX.out HZ.out]; simp, rfl⟩
      | false =>
        go_wp2_with fail
        go_roundw
        case rel => exact ⟨k + 1, by omega, by go_num, any_take HX.out hq HZ.out, by first | rfl | trivial⟩
        case measure => simp [intOf]; omega
    · have e : l.take k = l := List.take_of_length_le (by omega)
      rw [e] at hq
      have HQ := Lib.hid hq.out
      clear e hq
      go_wp2
      go_ret
      exact ⟨-1, rfl, by rw [HQ.out]; rfl, rfl⟩

theorem containsFunc32_calls (v : Value) (l : List Int) (M : List Nat) (w : World) (h : (Kd.int .i32).slice.At M w [v] l) :
    Calls Try.prog 59 #[v, .func (.func 60) #[] #[]] w fun e w' => e = .returned (.bool (l.any coordBad)) ∧ w = w' := by
  have HC := Lib.hid (indexFunc32_calls v l M w h)
  clear h
  obtain ⟨r, hr⟩ : ∃ r, l.any coordBad = r := ⟨_, rfl⟩
  rw [hr]
  have HR := Lib.hid hr
  clear hr
  go_enter Try.func59, Try.ntmps59
  go_wp2_with fail
  refine HC.out.mono ?_
  rintro e w1 ⟨i, rfl, hi, rfl⟩
  have HI := Lib.hid hi
  clear hi
  go_wp2_with fail
  go_ret
  refine ⟨?_, rfl⟩
  rw [← HR.out, ← HI.out]
  rfl

set_option maxHeartbeats 1000000 in
theorem vec_check_calls (v : Value) (l : List Int) (dim : Int) (M : List Nat) (w : World) (h : (Kd.int .i32).slice.At M w [v] l) :
    Calls Try.prog 35 #[v, .int .i64 dim] w fun e w' => e = .returned (.int .i64 (vecCheck l dim)) ∧ w = w' := by
  have HC := Lib.hid (containsFunc32_calls v l M w h)
  obtain ⟨ao, cap, rfl, hl, hcap⟩ := Kd.slice_form h
  unfold maxLen at hcap
  clear h
  by_cases hd : dim < 1 ∨ 1024 < dim
  · have e : vecCheck l dim = 1 := by unfold vecCheck; rw [if_pos hd]
    rw [e]
    clear e
    rcases (show dim < 1 ∨ ¬ dim < 1 ∧ 1024 < dim by omega) with hd | ⟨hd0, hd⟩
    all_goals
      go_enter Try.func35, Try.ntmps35
      go_wp2_with fail
      go_ret
      exact ⟨rfl, rfl⟩
  · have hd1 : 1 ≤ dim := by omega
    have hd2 : dim ≤ 1024 := by omega
    by_cases hlen : (l.length : Int) = dim
    · have e : vecCheck l dim = if l.any coordBad then 4 else 0 := by unfold vecCheck; rw [if_neg hd, if_neg (by simp [hlen])]
      rw [e]
      have hne : ((l.length : Int) != dim) = false := by simp [hlen]
      generalize l.any coordBad = r at *
      clear e hd hlen
      go_enter Try.func35, Try.ntmps35
      go_wp2_with fail
      refine HC.out.mono ?_
      rintro e w1 ⟨rfl, rfl⟩
      cases r
      all_goals
        go_wp2_with fail
        go_ret
        exact ⟨rfl, rfl⟩
    · have e : vecCheck l dim = 3 := by unfold vecCheck; rw [if_neg hd, if_pos hlen]
      rw [e]
      have hne : ((l.length : Int) != dim) = true := by simpa using hlen
      clear e hd hlen
      go_enter Try.func35, Try.ntmps35
      go_wp2_with fail
      go_ret
      exact ⟨rfl, rfl⟩

set_option maxHeartbeats 1000000 in
theorem ref03_check_calls (v : Value) (l : List Int) (dim : Int) (M : List Nat) (w : World) (h : (Kd.int .i32).slice.At M w [v] l) :
    Calls Try.prog 21 #[v, .int .i64 dim] w fun e w' => e = .returned (.int .i64 (vecCheck l dim)) ∧ w = w' := by
  obtain ⟨ao, cap, rfl, hl, hcap⟩ := Kd.slice_form h
  unfold maxLen at hcap
  have H := Lib.hid h
  clear h
  by_cases hd : dim < 1 ∨ 1024 < dim
  · have e : vecCheck l dim = 1 := by unfold vecCheck; rw [if_pos hd]
    rw [e]
    clear e
    rcases (show dim < 1 ∨ ¬ dim < 1 ∧ 1024 < dim by omega) with hd | ⟨hd0, hd⟩
    all_goals
      go_enter Try.func21, Try.ntmps21
      go_wp2_with fail
      go_ret
      exact ⟨rfl, rfl⟩
  · have hd1 : 1 ≤ dim := by omega
    have hd2 : dim ≤ 1024 := by omega
    by_cases hlen : (l.length : Int) = dim
    · have e : vecCheck l dim = if l.any coordBad then 4 else 0 := by unfold vecCheck; rw [if_neg hd, if_neg (by simp [hlen])]
      have hne : ((l.length : Int) != dim) = false := by simp [hlen]
      generalize vecCheck l dim = r at e ⊢
      have HE := Lib.hid e
      clear e hd hlen
      go_enter Try.func21, Try.ntmps21
      go_wp2_with fail
      go_loopw [5] (fun i wr => ∃ k : Nat, k ≤ l.length ∧ i = .int .i64 k ∧ Hid ((l.take k).any coordBad = false) ∧ wr = w) (fun i _ => l.length - (intOf i).toNat)
      case atStart => exact ⟨0, Nat.zero_le _, rfl, rfl, rfl⟩
      case round =>
        obtain ⟨k, hk, rfl, hq, rfl⟩ := hrel
        by_cases hlt : k < l.length
        · obtain ⟨x, hx⟩ : ∃ x, l[k]? = some x := ⟨_, List.getElem?_eq_getElem hlt⟩
          obtain ⟨b1, o1, c1, hv1, _, _, _, _, g1, gw⟩ := ints_at H.out hx
          simp at hv1
          obtain ⟨rfl, rfl⟩ := hv1
          obtain ⟨gw1, gw2⟩ := i32wf gw
          have HX := Lib.hid hx
          clear hx gw
          by_cases hb : x < -1048576
          · have HBD := Lib.hid (show coordBad x = true by unfold coordBad; simp; omega)
            go_wp2_with fail
            go_ret
            rw [HE.out, if_pos (any_at HX.out HBD.out)]
            exact ⟨rfl, rfl⟩
          · by_cases hb2 : 1048576 < x
            · have HBD := Lib.hid (show coordBad x = true by unfold coordBad; simp; omega)
              go_wp2_with fail
              go_ret
              rw [HE.out, if_pos (any_at HX.out HBD.out)]
              exact ⟨rfl, rfl⟩
            · have HBD := Lib.hid (show coordBad x = false by unfold coordBad; simp; omega)
              go_wp2_with fail
              go_roundw
              case rel => exact ⟨k + 1, by omega, by go_num, any_take HX.out hq HBD.out, by first | rfl | trivial⟩
              case measure => simp [intOf]; omega
        · have e : l.take k = l := List.take_of_length_le (by omega)
          rw [e] at hq
          go_wp2_with fail
          go_ret
          rw [HE.out, hq.out]
          exact ⟨rfl, rfl⟩
    · have e : vecCheck l dim = 3 := by unfold vecCheck; rw [if_neg hd, if_pos hlen]
      rw [e]
      have hne : ((l.length : Int) != dim) = true := by simpa using hlen
      clear e hd hlen
      go_enter Try.func21, Try.ntmps21
      go_wp2_with fail
      go_ret
      exact ⟨rfl, rfl⟩

/-! ### Sums of products -/
def dotI : List Int → List Int → Int
  | x :: a, y :: b => x * y + dotI a b
  | _, _ => 0
theorem dotI_nil_r (a : List Int) : dotI a [] = 0 := by cases a <;> rfl
theorem dotI_snoc : ∀ (a b : List Int) (x y : Int), a.length = b.length → dotI (a ++ [x]) (b ++ [y]) = dotI a b + x * y
  | [], [], x, y, _ => by simp [dotI]
  | [], _ :: _, _, _, h => by simp at h
  | _ :: _, [], _, _, h => by simp at h
  | p :: a, q :: b, x, y, h => by
    have := dotI_snoc a b x y (by simpa using h)
    simp only [List.cons_append, dotI, this]
    omega
theorem dotI_min : ∀ (a b : List Int), dotI (a.take (min a.length b.length)) (b.take (min a.length b.length)) = dotI a b
  | [], b => by simp [dotI]
  | _ :: _, [] => by simp [dotI]
  | x :: a, y :: b => by
    have := dotI_min a b
    simp only [List.length_cons]
    rw [Nat.succ_min_succ, List.take_succ_cons, List.take_succ_cons]
    simp only [dotI, this]
theorem mul_bd {x y : Int} (hx : -2097152 ≤ x ∧ x ≤ 2097152) (hy : -2097152 ≤ y ∧ y ≤ 2097152) : -4398046511104 ≤ x * y ∧ x * y ≤ 4398046511104 := by
  have h1 : 0 ≤ (2097152 - x) * (2097152 - y) := Int.mul_nonneg (by omega) (by omega)
  have h2 : 0 ≤ (2097152 + x) * (2097152 + y) := Int.mul_nonneg (by omega) (by omega)
  have h3 : 0 ≤ (2097152 - x) * (2097152 + y) := Int.mul_nonneg (by omega) (by omega)
  have h4 : 0 ≤ (2097152 + x) * (2097152 - y) := Int.mul_nonneg (by omega) (by omega)
  have e1 : (2097152 - x) * (2097152 - y) = 4398046511104 - 2097152 * x - 2097152 * y + x * y := by simp only [Int.sub_mul, Int.mul_sub]; omega
  have e2 : (2097152 + x) * (2097152 + y) = 4398046511104 + 2097152 * x + 2097152 * y + x * y := by simp only [Int.add_mul, Int.mul_add]; omega
  have e3 : (2097152 - x) * (2097152 + y) = 4398046511104 - 2097152 * x + 2097152 * y - x * y := by simp only [Int.sub_mul, Int.mul_add]; omega
  have e4 : (2097152 + x) * (2097152 - y) = 4398046511104 + 2097152 * x - 2097152 * y - x * y := by simp only [Int.add_mul, Int.mul_sub]; omega
  omega
def Bd21 (l : List Int) : Prop := ∀ x ∈ l, -2097152 ≤ x ∧ x ≤ 2097152
theorem dotI_bd : ∀ (a b : List Int), Bd21 a → Bd21 b → -(4398046511104 * (a.length : Int)) ≤ dotI a b ∧ dotI a b ≤ 4398046511104 * (a.length : Int)
  | [], b, _, _ => by simp [dotI]
  | x :: a, [], _, _ => by simp only [dotI, List.length_cons]; omega
  | x :: a, y :: b, ha, hb => by
    have h1 := dotI_bd a b (fun z hz => ha z (by simp [hz])) (fun z hz => hb z (by simp [hz]))
    have h2 := mul_bd (ha x (by simp)) (hb y (by simp))
    simp only [dotI, List.length_cons]
    omega

theorem both_calls (v1 v2 : Value) (a b : List Int) (M : List Nat) (w : World) (h1 : (Kd.int .i32).slice.At M w [v1] a) (h2 : (Kd.int .i32).slice.At M w [v2] b) :
    Calls Try.prog 88 #[v1, v2] w fun e w' => e = .returned (.int .i64 ((min a.length b.length : Nat) : Int)) ∧ w = w' := by
  obtain ⟨ao1, cap1, rfl, hl1, hcap1⟩ := Kd.slice_form h1
  obtain ⟨ao2, cap2, rfl, hl2, hcap2⟩ := Kd.slice_form h2
  unfold maxLen at hcap1 hcap2
  clear h1 h2
  obtain ⟨m, hm⟩ : ∃ m : Nat, min a.length b.length = m := ⟨_, rfl⟩
  rw [hm]
  have HM := Lib.hid hm
  clear hm
  go_enter Try.func88, Try.ntmps88
  go_wp2_with fail
  all_goals
    go_ret
    refine ⟨?_, rfl⟩
    refine congrArg (fun n => Ending.returned (Value.int .i64 n)) ?_
    rw [← HM.out]
    omega

set_option maxHeartbeats 2000000 in
theorem dot_calls (v1 v2 : Value) (a b : List Int) (M : List Nat) (w : World) (h1 : (Kd.int .i32).slice.At M w [v1] a) (h2 : (Kd.int .i32).slice.At M w [v2] b) (ha : Bd21 a) (hb : Bd21 b) (hl : a.length ≤ 1024) :
    Calls Try.prog 76 #[v1, v2] w fun e w' => e = .returned (.int .i64 (dotI a b)) ∧ ∃ n, w' = w.drewN n := by
  have HB := Lib.hid (both_calls v1 v2 a b M w h1 h2)
  have H1 := Lib.hid h1
  have H2 := Lib.hid h2
  obtain ⟨ao1, cap1, rfl, hl1, hcap1⟩ := Kd.slice_form h1
  obtain ⟨ao2, cap2, rfl, hl2, hcap2⟩ := Kd.slice_form h2
  unfold maxLen at hcap1 hcap2
  have HA := Lib.hid ha
  have HBB := Lib.hid hb
  obtain ⟨m, hm⟩ : ∃ m : Nat, min a.length b.length = m := ⟨_, rfl⟩
  rw [hm] at HB
  have HD : Hid (dotI (a.take m) (b.take m) = dotI a b) := Lib.hid (by rw [← hm]; exact dotI_min a b)
  obtain ⟨r, hr⟩ : ∃ r, dotI a b = r := ⟨_, rfl⟩
  rw [hr] at HD ⊢
  have hm1 : m ≤ a.length := by omega
  have hm2 : m ≤ b.length := by omega
  have hm3 : (m : Int) ≤ 1024 := by omega
  clear h1 h2 ha hb hm hr
  go_enter Try.func76, Try.ntmps76
  go_wp2_with fail
  refine HB.out.mono ?_
  rintro e w1 ⟨rfl, rfl⟩
  clear HB
  go_wp2_with fail
  go_loopw [5, 10] (fun s i wr => ∃ k q : Nat, k ≤ m ∧ i = .int .i64 k ∧ s = .int .i64 (dotI (a.take k) (b.take k)) ∧ wr = w.drewN q) (fun _ i _ => m - (intOf i).toNat)
  case atStart => exact ⟨0, 0, Nat.zero_le _, rfl, by simp [dotI], rfl⟩
  case round =>
    obtain ⟨k, q, hk, rfl, rfl, rfl⟩ := hrel
    by_cases hlt : k < m
    · obtain ⟨x, hx⟩ : ∃ x, a[k]? = some x := ⟨_, List.getElem?_eq_getElem (by omega)⟩
      obtain ⟨y, hy⟩ : ∃ x, b[k]? = some x := ⟨_, List.getElem?_eq_getElem (by omega)⟩
      obtain ⟨b1, o1, c1, hv1, _, _, _, _, g1, gw1⟩ := ints_at H1.out hx
      obtain ⟨b2, o2, c2, hv2, _, _, _, _, g2, gw2⟩ := ints_at H2.out hy
      simp at hv1 hv2
      obtain ⟨rfl, rfl⟩ := hv1
      obtain ⟨rfl, rfl⟩ := hv2
      have hsn : dotI (a.take (k + 1)) (b.take (k + 1)) = dotI (a.take k) (b.take k) + x * y := by
        rw [take_snoc' hx, take_snoc' hy]
        exact dotI_snoc _ _ _ _ (by rw [List.length_take, List.length_take]; omega)
      have hbx := HA.out x (List.mem_of_getElem? hx)
      have hby := HBB.out y (List.mem_of_getElem? hy)
      have hbd := dotI_bd (a.take k) (b.take k) (fun z hz => HA.out z (List.mem_of_mem_take hz)) (fun z hz => HBB.out z (List.mem_of_mem_take hz))
      rw [List.length_take] at hbd
      have hmb := mul_bd hbx hby
      generalize dotI (a.take k) (b.take k) = s at *
      have HSN := Lib.hid hsn
      have hw1 : IntKind.i64.wrap (x * y) = x * y := IntWalk.i64_in _ ⟨by omega, by omega⟩
      have hw2 : IntKind.i64.wrap (s + x * y) = s + x * y := IntWalk.i64_in _ ⟨by omega, by omega⟩
      have i0 : (0 : Int) ≤ (k : Int) := by omega
      have i1 : (k : Int) < (a.length : Int) := by omega
      have i2 : (k : Int) < (b.length : Int) := by omega
      clear hx hy hsn hbd hmb gw1 gw2
      go_wp2_with fail
      go_quiet (fail)
      clear hw1 hw2
      go_wp2_with fail
      go_roundw
      case rel => exact ⟨k + 1, _, by omega, by go_num, by rw [HSN.out], rfl⟩
      case measure => simp [intOf]; omega
    · have hkm : k = m := by omega
      have HQ : Hid (dotI (a.take k) (b.take k) = r) := Lib.hid (by rw [hkm]; exact HD.out)
      clear hkm
      generalize dotI (a.take k) (b.take k) = s at *
      go_wp2_with fail
      go_ret
      exact ⟨by have := HQ.out; subst this; rfl, _, rfl⟩

set_option maxHeartbeats 2000000 in
theorem ref03_dot_calls (v1 v2 : Value) (a b : List Int) (M : List Nat) (w : World) (h1 : (Kd.int .i32).slice.At M w [v1] a) (h2 : (Kd.int .i32).slice.At M w [v2] b) (ha : Bd21 a) (hb : Bd21 b) (hl : a.length ≤ 1024) :
    Calls Try.prog 62 #[v1, v2] w fun e w' => e = .returned (.int .i64 (dotI a b)) ∧ ∃ n, w' = w.drewN n := by
  have H1 := Lib.hid h1
  have H2 := Lib.hid h2
  obtain ⟨ao1, cap1, rfl, hl1, hcap1⟩ := Kd.slice_form h1
  obtain ⟨ao2, cap2, rfl, hl2, hcap2⟩ := Kd.slice_form h2
  unfold maxLen at hcap1 hcap2
  have HA := Lib.hid ha
  have HBB := Lib.hid hb
  obtain ⟨m, hm⟩ : ∃ m : Nat, min a.length b.length = m := ⟨_, rfl⟩
  have HD : Hid (dotI (a.take m) (b.take m) = dotI a b) := Lib.hid (by rw [← hm]; exact dotI_min a b)
  obtain ⟨r, hr⟩ : ∃ r, dotI a b = r := ⟨_, rfl⟩
  rw [hr] at HD ⊢
  have hm1 : m ≤ a.length := by omega
  have hm2 : m ≤ b.length := by omega
  have hm3 : (m : Int) ≤ 1024 := by omega
  have HMM := Lib.hid hm
  clear h1 h2 ha hb hm hr
  go_enter Try.func62, Try.ntmps62
  go_wp2_with fail
  go_loopw [5, 6] (fun s i wr => ∃ k q : Nat, k ≤ m ∧ i = .int .i64 k ∧ s = .int .i64 (dotI (a.take k) (b.take k)) ∧ wr = w.drewN q) (fun _ i _ => m - (intOf i).toNat)
  case atStart => exact ⟨0, 0, Nat.zero_le _, rfl, by simp [dotI], rfl⟩
  case round =>
    obtain ⟨k, q, hk, rfl, rfl, rfl⟩ := hrel
    by_cases hlt : k < m
    · obtain ⟨x, hx⟩ : ∃ x, a[k]? = some x := ⟨_, List.getElem?_eq_getElem (by omega)⟩
      obtain ⟨y, hy⟩ : ∃ x, b[k]? = some x := ⟨_, List.getElem?_eq_getElem (by omega)⟩
      obtain ⟨b1, o1, c1, hv1, _, _, _, _, g1, gw1⟩ := ints_at H1.out hx
      obtain ⟨b2, o2, c2, hv2, _, _, _, _, g2, gw2⟩ := ints_at H2.out hy
      simp at hv1 hv2
      obtain ⟨rfl, rfl⟩ := hv1
      obtain ⟨rfl, rfl⟩ := hv2
      have hsn : dotI (a.take (k + 1)) (b.take (k + 1)) = dotI (a.take k) (b.take k) + x * y := by
        rw [take_snoc' hx, take_snoc' hy]
        exact dotI_snoc _ _ _ _ (by rw [List.length_take, List.length_take]; omega)
      have hbx := HA.out x (List.mem_of_getElem? hx)
      have hby := HBB.out y (List.mem_of_getElem? hy)
      have hbd := dotI_bd (a.take k) (b.take k) (fun z hz => HA.out z (List.mem_of_mem_take hz)) (fun z hz => HBB.out z (List.mem_of_mem_take hz))
      rw [List.length_take] at hbd
      have hmb := mul_bd hbx hby
      generalize dotI (a.take k) (b.take k) = s at *
      have HSN := Lib.hid hsn
      have hw1 : IntKind.i64.wrap (x * y) = x * y := IntWalk.i64_in _ ⟨by omega, by omega⟩
      have hw2 : IntKind.i64.wrap (s + x * y) = s + x * y := IntWalk.i64_in _ ⟨by omega, by omega⟩
      have i0 : (0 : Int) ≤ (k : Int) := by omega
      have i1 : (k : Int) < (a.length : Int) := by omega
      have i2 : (k : Int) < (b.length : Int) := by omega
      clear hx hy hsn hbd hmb gw1 gw2
      go_wp2_with fail
      go_quiet (fail)
      clear hw1 hw2
      go_wp2_with fail
      go_roundw
      case rel => exact ⟨k + 1, _, by omega, by go_num, by rw [HSN.out], rfl⟩
      case measure => simp [intOf]; omega
    · have hkm : k = m := by omega
      have HQ : Hid (dotI (a.take k) (b.take k) = r) := Lib.hid (by rw [hkm]; exact HD.out)
      have hor : (a.length : Int) ≤ (k : Int) ∨ (k : Int) < (a.length : Int) ∧ (b.length : Int) ≤ (k : Int) := by have := HMM.out; omega
      clear hkm
      generalize dotI (a.take k) (b.take k) = s at *
      rcases hor with hor | ⟨hor, hor2⟩
      all_goals
        go_wp2_with fail
        go_ret
        exact ⟨by have := HQ.out; subst this; rfl, _, rfl⟩

/-- A plane's margin of a vector. -/
def marg (p : Pl) (v : List Int) : Int := 2 * dotI p.normal v - p.off
theorem Bd21.normal {p : Pl} {dim : Int} (h : planeCheck p dim = 0) : Bd21 p.normal ∧ (p.normal.length : Int) = dim ∧ dim ≤ 1024 ∧ -9007199254740992 ≤ p.off ∧ p.off ≤ 9007199254740992 := by
  unfold planeCheck at h
  split at h
  · simp at h
  · split at h
    · simp at h
    · rename_i h1
      split at h
      · simp at h
      · rename_i h2
        split at h
        · simp at h
        · rename_i h3
          refine ⟨fun x hx => ?_, by omega, by omega, by omega, by omega⟩
          have := List.any_eq_false.1 (Bool.eq_false_iff.2 h2) x hx
          simp at this
          omega
theorem Bd21.vec {v : List Int} {dim : Int} (h : vecCheck v dim = 0) : Bd21 v ∧ (v.length : Int) = dim ∧ 1 ≤ dim ∧ dim ≤ 1024 := by
  unfold vecCheck at h
  split at h
  · simp at h
  · split at h
    · simp at h
    · rename_i h1
      split at h
      · simp at h
      · rename_i h2
        refine ⟨fun x hx => ?_, by omega, by omega, by omega⟩
        have := List.any_eq_false.1 (Bool.eq_false_iff.2 h2) x hx
        simp [coordBad] at this
        omega
theorem marg_bd {p : Pl} {v : List Int} {dim : Int} (h : planeCheck p dim = 0) (hv : Bd21 v) : -(18014398509481984 : Int) ≤ marg p v ∧ marg p v ≤ 18014398509481984 := by
  obtain ⟨h1, h2, h3, h4, h5⟩ := Bd21.normal h
  have := dotI_bd p.normal v h1 hv
  unfold marg
  omega

set_option maxHeartbeats 1000000 in
theorem margin_calls (vn v : Value) (p : Pl) (x : List Int) (dim : Int) (M : List Nat) (w : World) (h1 : (Kd.int .i32).slice.At M w [vn] p.normal) (h2 : (Kd.int .i32).slice.At M w [v] x) (hp : planeCheck p dim = 0) (hx : Bd21 x) :
    Calls Try.prog 53 #[.agg #[vn, .int .i64 p.off], v] w fun e w' => e = .returned (.int .i64 (marg p x)) ∧ Below w.heap.size w w' := by
  obtain ⟨q1, q2, q3, q4, q5⟩ := Bd21.normal hp
  obtain ⟨W0, hW0⟩ : ∃ W0, w.alloc (.cells #[vn, .int .i64 p.off] 56) = W0 := ⟨_, rfl⟩
  have hu0 : Upd [] w W0 := by rw [← hW0]; exact Upd.alloc [] w _
  have hx0 : W0.heap[w.heap.size]? = some (.cells #[vn, .int .i64 p.off] 56) := by rw [← hW0]; exact Go.heap_alloc_new w _
  obtain ⟨ao1, cap1, rfl, hl1, hcap1⟩ := Kd.slice_form h1
  have a0 : W0.cell? ⟨w.heap.size, 0, none⟩ = some (.slice ao1 p.normal.length cap1) := by rw [cell_of_block hx0]; rfl
  have a1 : W0.cell? ⟨w.heap.size, 1, none⟩ = some (.int .i64 p.off) := by rw [cell_of_block hx0]; rfl
  have HD : Hid (∀ W, Upd [] W0 W → Calls Try.prog 76 #[.slice ao1 p.normal.length cap1, v] W fun e w' => e = .returned (.int .i64 (dotI p.normal x)) ∧ ∃ n, w' = W.drewN n) :=
    Lib.hid (fun W hu => dot_calls _ _ p.normal x M W (h1.below (hu0.trans hu).below) (h2.below (hu0.trans hu).below) q1 hx (by omega))
  have hbd := dotI_bd p.normal x q1 hx
  have HB0 := Lib.hid hu0
  obtain ⟨r, hr⟩ : ∃ r, marg p x = r := ⟨_, rfl⟩
  rw [hr]
  unfold marg at hr
  generalize dotI p.normal x = s at *
  have HR := Lib.hid hr
  have hw1 : IntKind.i64.wrap (2 * s) = 2 * s := IntWalk.i64_in _ ⟨by omega, by omega⟩
  have hw2 : IntKind.i64.wrap (2 * s - p.off) = 2 * s - p.off := IntWalk.i64_in _ ⟨by omega, by omega⟩
  clear h1 h2 hp hx hu0 hx0 hr hbd q1
  go_enter Try.func53, Try.ntmps53
  go_wp2_with fail
  go_quiet ((go_at_call 76; exact Calls.quiet_of (HD.out _ (Upd.drewN [] W0 _))))
  rw [HR.out]
  clear hw1 hw2
  go_wp2_with fail
  go_ret
  exact ⟨rfl, (HB0.out.trans (Upd.drewN [] _ _)).below⟩

set_option maxHeartbeats 1000000 in
theorem ref11_margin_calls (vn v : Value) (p : Pl) (x : List Int) (dim : Int) (M : List Nat) (w : World) (h1 : (Kd.int .i32).slice.At M w [vn] p.normal) (h2 : (Kd.int .i32).slice.At M w [v] x) (hp : planeCheck p dim = 0) (hx : Bd21 x) :
    Calls Try.prog 41 #[.agg #[vn, .int .i64 p.off], v] w fun e w' => e = .returned (.int .i64 (marg p x)) ∧ Below w.heap.size w w' := by
  obtain ⟨q1, q2, q3, q4, q5⟩ := Bd21.normal hp
  obtain ⟨W0, hW0⟩ : ∃ W0, w.alloc (.cells #[vn, .int .i64 p.off] 56) = W0 := ⟨_, rfl⟩
  have hu0 : Upd [] w W0 := by rw [← hW0]; exact Upd.alloc [] w _
  have hx0 : W0.heap[w.heap.size]? = some (.cells #[vn, .int .i64 p.off] 56) := by rw [← hW0]; exact Go.heap_alloc_new w _
  obtain ⟨ao1, cap1, rfl, hl1, hcap1⟩ := Kd.slice_form h1
  have HX0 := Lib.hid hx0
  have a0 : W0.cell? ⟨w.heap.size, 0, none⟩ = some (.slice ao1 p.normal.length cap1) := by rw [cell_of_block hx0]; rfl
  have HD := Lib.hid (ref03_dot_calls _ _ p.normal x M W0 (h1.below hu0.below) (h2.below hu0.below) q1 hx (by omega))
  have hbd := dotI_bd p.normal x q1 hx
  have HB0 := Lib.hid hu0
  obtain ⟨r, hr⟩ : ∃ r, marg p x = r := ⟨_, rfl⟩
  rw [hr]
  unfold marg at hr
  generalize dotI p.normal x = s at *
  have HR := Lib.hid hr
  have s1 : -4503599627370496 ≤ s := by omega
  have s2 : s ≤ 4503599627370496 := by omega
  clear h1 h2 hp hx hu0 hx0 hr hbd q1
  go_enter Try.func41, Try.ntmps41
  go_wp2_with fail
  refine HD.out.mono ?_
  rintro e w1 ⟨rfl, n, rfl⟩
  clear hW0 a0 HD
  have a1 : W0.cell? ⟨w.heap.size, 1, none⟩ = some (.int .i64 p.off) := by rw [cell_of_block HX0.out]; rfl
  go_wp2_with fail
  go_ret
  refine ⟨?_, (HB0.out.trans (Upd.drewN [] _ _)).below⟩
  refine congrArg (fun n => Ending.returned (Value.int .i64 n)) ?_
  rw [← HR.out]
  omega

end Go.Proofs.Ytiplifkbegmeiaa
