/-
Forests: the document's Few, Check; layout.Check, search.Check.
-/
import Derived.Test.YtglghgjbnoldaaaPure09
import Derived.Test.YtglghgjbnoldaaaData
import Derived.Deep.RegionHeld3
namespace Go.Proofs.Ytglghgjbnoldaaa
set_option linter.unusedVariables false
set_option linter.unusedSimpArgs false
open Go.RowKit

/-! ### ref10 -/
def few10Go : Nat → Nat → List (List Int) → Bool
  | _, _, [] => true
  | k, n, x :: l => if 6000 < n + x.length ∨ 300 < k then false else few10Go (k + 1) (n + x.length) l
def few10 (l : List (List Int)) : Bool := few10Go 0 0 l
theorem few10_go : ∀ (l : List (List Int)) (k n : Nat), few10Go k n l = true → (l = [] ∨ k + l.length ≤ 301) ∧ (l = [] ∨ n + l.flatten.length ≤ 6000)
  | [], k, n, _ => by simp
  | x :: l, k, n, h => by
    unfold few10Go at h
    split at h
    · simp at h
    · rename_i hc
      obtain ⟨h1, h2⟩ := few10_go l _ _ h
      refine ⟨.inr ?_, .inr ?_⟩
      · rcases h1 with rfl | h1
        · simp; omega
        · simp; omega
      · rcases h2 with rfl | h2
        · simp; omega
        · simp at h2 ⊢; omega

theorem drop_at' {α : Type} {l : List α} {k : Nat} {x : α} (hx : l[k]? = some x) : l.drop k = x :: l.drop (k + 1) := by
  obtain ⟨h1, h2⟩ := List.getElem?_eq_some_iff.1 hx
  rw [List.drop_eq_getElem_cons h1, h2]

set_option maxHeartbeats 1000000 in
theorem few10_calls (v : Value) (l : List (List Int)) (M : List Nat) (w : World) (h : (Kd.int .i32).slice.slice.At M w [v] l) (hs : ∀ x ∈ l, x.length ≤ 70368744177664) :
    Calls Try.prog 23 #[v] w fun e w' => e = .returned (.bool (few10 l)) ∧ w = w' := by
  obtain ⟨ao, cap, rfl, hl, hcap⟩ := Kd.slice_form h
  have H := Lib.hid h
  have HS := Lib.hid hs
  unfold maxLen at hcap
  obtain ⟨res, hres⟩ : ∃ r, few10 l = r := ⟨_, rfl⟩
  rw [hres]
  have HRES := Lib.hid hres
  clear h hs hres
  go_enter Try.func23, Try.ntmps23
  go_wp2_with fail
  go_loopw [3, 4] (fun s i wr => ∃ (k : Nat) (n : Nat), k ≤ l.length ∧ i = .int .i64 k ∧ s = .int .i64 n ∧ n ≤ 6000 ∧ Hid (few10Go k n (l.drop k) = res) ∧ wr = w) (fun _ i _ => l.length - (intOf i).toNat)
  case atStart => exact ⟨0, 0, Nat.zero_le _, rfl, rfl, by omega, Lib.hid (by simpa [few10] using HRES.out), rfl⟩
  case round =>
    obtain ⟨k, n, hk, rfl, rfl, hn, hq, rfl⟩ := hrel
    by_cases hlt : k < l.length
    · obtain ⟨x, hx⟩ : ∃ x, l[k]? = some x := ⟨_, List.getElem?_eq_getElem hlt⟩
      obtain ⟨b, o, c, vi, hv, _, _, _, _, c0, hxi⟩ := lists_at H.out hx
      simp at hv
      obtain ⟨rfl, rfl⟩ := hv
      obtain ⟨ai, ci, rfl, _, _⟩ := Kd.slice_form hxi
      have hxs := HS.out x (List.mem_of_getElem? hx)
      have hd := drop_at' hx
      have hq2 : (if 6000 < n + x.length ∨ 300 < k then false else few10Go (k + 1) (n + x.length) (l.drop (k + 1))) = res := by
        have := hq.out
        rw [hd] at this
        exact this
      clear hx hxi hd hq
      by_cases hc : 6000 < n + x.length ∨ 300 < k
      · rw [if_pos hc] at hq2
        subst hq2
        rcases (show 6000 < n + x.length ∨ ¬ 6000 < n + x.length ∧ 300 < k by omega) with hc1 | ⟨hc1, hc2⟩
        all_goals
          go_wp2_with fail
          go_ret
          exact ⟨rfl, rfl⟩
      · rw [if_neg hc] at hq2
        have HQ := Lib.hid hq2
        have hc1 : ¬ 6000 < n + x.length := by omega
        have hc2 : ¬ 300 < k := by omega
        clear hq2 hc
        go_wp2_with fail
        go_roundw
        case rel => exact ⟨k + 1, n + x.length, by omega, by go_num, by go_num, by omega, HQ, by first | rfl | trivial⟩
        case measure => simp [intOf]; omega
    · have hq' := hq.out
      rw [List.drop_eq_nil_of_le (by omega)] at hq'
      simp only [few10Go] at hq'
      subst hq'
      go_wp2_with fail
      go_ret
      exact ⟨rfl, rfl⟩

theorem firstCheck_drop {dim : Int} {l : List (List Int)} {k : Nat} {x : List Int} (hx : l[k]? = some x) : firstCheck dim (l.drop k) = if vecCheck x dim != 0 then vecCheck x dim else firstCheck dim (l.drop (k + 1)) := by
  unfold firstCheck
  rw [drop_at' hx, List.find?_cons]
  cases vecCheck x dim != 0 <;> rfl
set_option maxHeartbeats 1000000 in
theorem ref10_check_calls (dim : Int) (v : Value) (l : List (List Int)) (M : List Nat) (w : World) (h : (Kd.int .i32).slice.slice.At M w [v] l) :
    Calls Try.prog 24 #[.int .i64 dim, v] w fun e w' => e = .returned (.int .i64 (dataCheck dim l)) ∧ w = w' := by
  obtain ⟨ao, cap, rfl, hl, hcap⟩ := Kd.slice_form h
  have H := Lib.hid h
  unfold maxLen at hcap
  by_cases hd : dim < 1 ∨ 1024 < dim
  · have e : dataCheck dim l = 1 := by unfold dataCheck; rw [if_pos hd]
    rw [e]
    clear e h
    rcases (show dim < 1 ∨ ¬ dim < 1 ∧ 1024 < dim by omega) with hd | ⟨hd0, hd⟩
    all_goals
      go_enter Try.func24, Try.ntmps24
      go_wp2_with fail
      go_ret
      exact ⟨rfl, rfl⟩
  · have hd1 : 1 ≤ dim := by omega
    have hd2 : dim ≤ 1024 := by omega
    obtain ⟨res, hres⟩ : ∃ r, dataCheck dim l = r := ⟨_, rfl⟩
    rw [hres]
    have hres' : firstCheck dim l = res := by rw [← hres]; unfold dataCheck; rw [if_neg hd]
    have HRES := Lib.hid hres'
    clear hd h hres hres'
    go_enter Try.func24, Try.ntmps24
    go_wp2_with fail
    go_loopw [5] (fun i wr => ∃ (k : Nat), k ≤ l.length ∧ i = .int .i64 k ∧ Hid (firstCheck dim (l.drop k) = res) ∧ wr = w) (fun i _ => l.length - (intOf i).toNat)
    case atStart => exact ⟨0, Nat.zero_le _, rfl, Lib.hid (by simpa using HRES.out), rfl⟩
    case round =>
      obtain ⟨k, hk, rfl, hq, rfl⟩ := hrel
      by_cases hlt : k < l.length
      · obtain ⟨x, hx⟩ : ∃ x, l[k]? = some x := ⟨_, List.getElem?_eq_getElem hlt⟩
        obtain ⟨b, o, c, vi, hv, _, _, _, _, c0, hxi⟩ := lists_at H.out hx
        simp at hv
        obtain ⟨rfl, rfl⟩ := hv
        have HC := Lib.hid (ref03_check_calls vi x dim M wr hxi)
        have hq2 := hq.out
        rw [firstCheck_drop hx] at hq2
        obtain ⟨c3, hc3⟩ : ∃ c, vecCheck x dim = c := ⟨_, rfl⟩
        rw [hc3] at HC
        by_cases hc0 : c3 = 0
        · rw [if_neg (by rw [hc3, hc0]; simp)] at hq2
          have HQ := Lib.hid hq2
          subst hc0
          clear hx hxi hq hq2 hc3
          go_wp2_with fail
          refine HC.out.mono ?_
          rintro e w1 ⟨rfl, rfl⟩
          clear HC
          go_wp2_with fail
          go_roundw
          case rel => exact ⟨k + 1, by omega, by go_num, HQ, by first | rfl | trivial⟩
          case measure => simp [intOf]; omega
        · rw [if_pos (by rw [hc3]; simpa using hc0)] at hq2
          simp only [hc3] at hq2
          subst hq2
          have hb : (c3 != 0) = true := by simpa using hc0
          clear hx hxi hq hc3 hc0
          go_wp2_with fail
          refine HC.out.mono ?_
          rintro e w1 ⟨rfl, rfl⟩
          clear HC
          go_wp2_with fail
          go_ret
          exact ⟨rfl, rfl⟩
      · have hq2 := hq.out
        rw [List.drop_eq_nil_of_le (by omega)] at hq2
        simp only [firstCheck, List.find?_nil, Option.map_none, Option.getD_none] at hq2
        subst hq2
        clear hq
        go_wp2_with fail
        go_ret
        exact ⟨rfl, rfl⟩

end Go.Proofs.Ytglghgjbnoldaaa
