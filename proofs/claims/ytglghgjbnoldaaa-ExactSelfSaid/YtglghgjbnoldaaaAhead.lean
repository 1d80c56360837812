/-
cmp.Compare, cmp.Or, order.Ahead; whose turn comes first.
-/
import Derived.Test.YtglghgjbnoldaaaHeapP
import Derived.Test.YtglghgjbnoldaaaUnique
import Derived.Deep.RegionHeld3
import Derived.Sort.QuietTacIn
namespace Go.Proofs.Ytglghgjbnoldaaa
set_option linter.unusedVariables false
set_option linter.unusedSimpArgs false
open Go.RowKit

def cmpI (x y : Int) : Int := if x < y then -1 else if y < x then 1 else 0

theorem nan64_calls (x : Int) (w : World) : Calls Try.prog 74 #[.int .i64 x] w fun e w' => e = .returned (.bool false) ∧ w = w' := by
  go_enter Try.func74, Try.ntmps74
  go_wp2_with fail
  go_ret
  exact ⟨by simp, rfl⟩
theorem nanI_calls (x : Int) (w : World) : Calls Try.prog 75 #[.int .i64 x] w fun e w' => e = .returned (.bool false) ∧ w = w' := by
  go_enter Try.func75, Try.ntmps75
  go_wp2_with fail
  go_ret
  exact ⟨by simp, rfl⟩
theorem cmp64_calls (x y : Int) (w : World) : Calls Try.prog 47 #[.int .i64 x, .int .i64 y] w fun e w' => e = .returned (.int .i64 (cmpI x y)) ∧ w = w' := by
  obtain ⟨r, hr⟩ : ∃ r, cmpI x y = r := ⟨_, rfl⟩
  rw [hr]
  have HR := Lib.hid hr
  clear hr
  have H1 := Lib.hid (nan64_calls x w)
  have H2 := Lib.hid (nan64_calls y w)
  by_cases h1 : x < y
  · have hq := HR.out
    unfold cmpI at hq
    rw [if_pos h1] at hq
    subst hq
    go_enter Try.func47, Try.ntmps47
    go_wp2_with fail
    refine H1.out.mono ?_
    rintro e w' ⟨rfl, rfl⟩
    go_wp2_with fail
    refine H2.out.mono ?_
    rintro e w' ⟨rfl, rfl⟩
    go_wp2_with fail
    go_ret
    exact ⟨rfl, rfl⟩
  · by_cases h2 : y < x
    · have hq := HR.out
      unfold cmpI at hq
      rw [if_neg h1, if_pos h2] at hq
      subst hq
      go_enter Try.func47, Try.ntmps47
      go_wp2_with fail
      refine H1.out.mono ?_
      rintro e w' ⟨rfl, rfl⟩
      go_wp2_with fail
      refine H2.out.mono ?_
      rintro e w' ⟨rfl, rfl⟩
      go_wp2_with fail
      go_ret
      exact ⟨rfl, rfl⟩
    · have hq := HR.out
      unfold cmpI at hq
      rw [if_neg h1, if_neg h2] at hq
      subst hq
      go_enter Try.func47, Try.ntmps47
      go_wp2_with fail
      refine H1.out.mono ?_
      rintro e w' ⟨rfl, rfl⟩
      go_wp2_with fail
      refine H2.out.mono ?_
      rintro e w' ⟨rfl, rfl⟩
      go_wp2_with fail
      go_ret
      exact ⟨rfl, rfl⟩
theorem cmpI_calls (x y : Int) (w : World) : Calls Try.prog 48 #[.int .i64 x, .int .i64 y] w fun e w' => e = .returned (.int .i64 (cmpI x y)) ∧ w = w' := by
  obtain ⟨r, hr⟩ : ∃ r, cmpI x y = r := ⟨_, rfl⟩
  rw [hr]
  have HR := Lib.hid hr
  clear hr
  have H1 := Lib.hid (nanI_calls x w)
  have H2 := Lib.hid (nanI_calls y w)
  by_cases h1 : x < y
  · have hq := HR.out
    unfold cmpI at hq
    rw [if_pos h1] at hq
    subst hq
    go_enter Try.func48, Try.ntmps48
    go_wp2_with fail
    refine H1.out.mono ?_
    rintro e w' ⟨rfl, rfl⟩
    go_wp2_with fail
    refine H2.out.mono ?_
    rintro e w' ⟨rfl, rfl⟩
    go_wp2_with fail
    go_ret
    exact ⟨rfl, rfl⟩
  · by_cases h2 : y < x
    · have hq := HR.out
      unfold cmpI at hq
      rw [if_neg h1, if_pos h2] at hq
      subst hq
      go_enter Try.func48, Try.ntmps48
      go_wp2_with fail
      refine H1.out.mono ?_
      rintro e w' ⟨rfl, rfl⟩
      go_wp2_with fail
      refine H2.out.mono ?_
      rintro e w' ⟨rfl, rfl⟩
      go_wp2_with fail
      go_ret
      exact ⟨rfl, rfl⟩
    · have hq := HR.out
      unfold cmpI at hq
      rw [if_neg h1, if_neg h2] at hq
      subst hq
      go_enter Try.func48, Try.ntmps48
      go_wp2_with fail
      refine H1.out.mono ?_
      rintro e w' ⟨rfl, rfl⟩
      go_wp2_with fail
      refine H2.out.mono ?_
      rintro e w' ⟨rfl, rfl⟩
      go_wp2_with fail
      go_ret
      exact ⟨rfl, rfl⟩

/-- The first that is not nought. -/
def orI : List Int → Int
  | [] => 0
  | x :: l => if x ≠ 0 then x else orI l
theorem orI_drop {l : List Int} {k : Nat} {x : Int} (hx : l[k]? = some x) : orI (l.drop k) = if x ≠ 0 then x else orI (l.drop (k + 1)) := by
  have hk := (List.getElem?_eq_some_iff.1 hx).1
  rw [List.drop_eq_getElem_cons hk, (List.getElem?_eq_some_iff.1 hx).2]
  rfl

set_option maxHeartbeats 1000000 in
theorem or_calls (v : Value) (l : List Int) (M : List Nat) (w : World) (h : (Kd.int .i64).slice.At M w [v] l) :
    Calls Try.prog 46 #[v] w fun e w' => e = .returned (.int .i64 (orI l)) ∧ w = w' := by
  obtain ⟨ao, cap, rfl, hl, hcap⟩ := Kd.slice_form h
  unfold maxLen at hcap
  have H := Lib.hid h
  clear h
  obtain ⟨r, hr⟩ : ∃ r, orI l = r := ⟨_, rfl⟩
  rw [hr]
  have HR := Lib.hid hr
  clear hr
  go_enter Try.func46, Try.ntmps46
  go_wp2_with fail
  go_loopw [8] (fun i wr => ∃ k : Nat, k ≤ l.length ∧ i = .int .i64 k ∧ Hid (orI (l.drop k) = r) ∧ wr = w) (fun i _ => l.length - (intOf i).toNat)
  case atStart => exact ⟨0, Nat.zero_le _, rfl, Lib.hid (by simpa using HR.out), rfl⟩
  case round =>
    obtain ⟨k, hk, rfl, hq, rfl⟩ := hrel
    by_cases hlt : k < l.length
    · obtain ⟨x, hx⟩ : ∃ x, l[k]? = some x := ⟨_, List.getElem?_eq_getElem hlt⟩
      obtain ⟨b, o, c, hv, _, _, _, _, c0, _⟩ := ints_at H.out hx
      simp at hv
      obtain ⟨rfl, rfl⟩ := hv
      have hd := orI_drop hx
      rw [hq.out] at hd
      have hi1 : (k : Int) < (l.length : Int) := by omega
      have hi0 : (0 : Int) ≤ (k : Int) := by omega
      by_cases h0 : x = 0
      · rw [if_neg (by simp [h0])] at hd
        have HD := Lib.hid hd.symm
        subst h0
        clear hd hx hq
        go_wp2_with fail
        go_roundw
        case rel => exact ⟨k + 1, by omega, by go_num, HD, by first | rfl | trivial⟩
        case measure => simp [intOf]; omega
      · rw [if_pos h0] at hd
        have hb : (x != 0) = true := by simpa using h0
        subst hd
        clear hx hq h0
        go_wp2_with fail
        go_ret
        exact ⟨rfl, rfl⟩
    · have hq' := hq.out
      rw [List.drop_eq_nil_of_le (by omega)] at hq'
      simp only [orI] at hq'
      subst hq'
      clear hq
      go_wp2_with fail
      go_ret
      exact ⟨rfl, rfl⟩

theorem two_at {N : List Nat} {w : World} {b : Nat} {x y : Int} {t : TypeId} {fr : Nat × Nat} (h : w.heap[b]? = some (.cells #[.int .i64 x, .int .i64 y] t fr)) (hn : b ∉ N) (hx : (Lit.int .i64 x).wf = true) (hy : (Lit.int .i64 y).wf = true) :
    (Kd.int .i64).slice.At N w [.slice (some ⟨b, 0, none⟩) 2 2] [x, y] := by
  have hb := block_lt h
  refine ⟨⟨some ⟨b, 0, none⟩, 2, rfl, Nat.le_refl _, by simp [maxLen], fun i z hz => ?_⟩⟩
  match i, hz with
  | 0, hz =>
    simp at hz; subst hz
    refine ⟨b, 0, rfl, ⟨hb, hn⟩, hb, [.int .i64 x], ⟨rfl, hx⟩, fun j u hj => ?_⟩
    match j, hj with
    | 0, hj => simp at hj; subst hj; rw [cell_of_block h]; rfl
  | 1, hz =>
    simp at hz; subst hz
    refine ⟨b, 0, rfl, ⟨hb, hn⟩, hb, [.int .i64 y], ⟨rfl, hy⟩, fun j u hj => ?_⟩
    match j, hj with
    | 0, hj => simp at hj; subst hj; rw [cell_of_block h]; rfl
theorem cmpI_wf (x y : Int) : (Lit.int .i64 (cmpI x y)).wf = true := by
  unfold cmpI
  split
  · decide
  · split <;> decide

end Go.Proofs.Ytglghgjbnoldaaa
