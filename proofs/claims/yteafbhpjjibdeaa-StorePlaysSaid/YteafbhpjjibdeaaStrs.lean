/-
slices.Clone, Sort, Compact, Contains at []string (over the library's laid contracts); marks.Unique of strings.
-/
import Derived.Test.YteafbhpjjibdeaaUniqM
import Derived.Test.YteafbhpjjibdeaaShelfS
import Derived.Sort.OwnSorted
import Derived.Sort.KeysCollected
namespace Go.Proofs.Yteafbhpjjibdeaa
set_option linter.unusedVariables false
set_option linter.unusedSimpArgs false
open Go.RowKit

theorem compact_goG {α : Type} [Inhabited α] [DecidableEq α] (le lt : α → α → Prop) (k2 : ∀ a b, le a b → a ≠ b → lt a b) (k3 : ∀ a b c, le a b → lt b c → lt a c) (d : Array α) (hs : ∀ i j, i ≤ j → j < d.size → le d[i]! d[j]!) :
    ∀ m, m ≤ d.size → (Lib.compactUpTo d m).Pairwise lt ∧ (∀ x ∈ Lib.compactUpTo d m, ∃ i, i < m ∧ d[i]! = x) ∧ (∀ i, i < m → d[i]! ∈ Lib.compactUpTo d m) ∧ (Lib.compactUpTo d m).length ≤ m
  | 0, _ => by simp [Lib.compactUpTo]
  | m + 1, hm => by
    obtain ⟨h1, h2, h3, h4⟩ := compact_goG le lt k2 k3 d hs m (by omega)
    rw [Lib.compactUpTo_succ]
    cases hk : Lib.keeps d m with
    | true =>
      rw [if_pos rfl]
      have hlt : ∀ x ∈ Lib.compactUpTo d m, lt x d[m]! := by
        intro x hx
        obtain ⟨i, hi, rfl⟩ := h2 x hx
        have hk' : m = 0 ∨ d[m]! ≠ d[m - 1]! := by simpa [Lib.keeps] using hk
        rcases hk' with rfl | hk'
        · omega
        · have a1 := hs i (m - 1) (by omega) (by omega)
          have a2 := hs (m - 1) m (by omega) (by omega)
          exact k3 _ _ _ a1 (k2 _ _ a2 (fun e => hk' e.symm))
      refine ⟨?_, ?_, ?_, by simp; omega⟩
      · rw [List.pairwise_append]
        exact ⟨h1, by simp, fun x hx y hy => by simp at hy; subst hy; exact hlt x hx⟩
      · intro x hx
        rcases List.mem_append.1 hx with hx | hx
        · obtain ⟨i, hi, e⟩ := h2 x hx; exact ⟨i, by omega, e⟩
        · simp at hx; exact ⟨m, by omega, hx.symm⟩
      · intro i hi
        rcases Nat.lt_or_ge i m with hi' | hi'
        · exact List.mem_append_left _ (h3 i hi')
        · have : i = m := by omega
          subst this
          simp
    | false =>
      rw [if_neg (by simp), List.append_nil]
      refine ⟨h1, fun x hx => ?_, fun i hi => ?_, by omega⟩
      · obtain ⟨i, hi, e⟩ := h2 x hx; exact ⟨i, by omega, e⟩
      · rcases Nat.lt_or_ge i m with hi' | hi'
        · exact h3 i hi'
        · have : i = m := by omega
          subst this
          have hk' : ¬ (i = 0 ∨ d[i]! ≠ d[i - 1]!) := by simpa [Lib.keeps] using hk
          have e1 : i ≠ 0 := fun h => hk' (.inl h)
          have e2 : d[i]! = d[i - 1]! := by
            rcases Classical.em (d[i]! = d[i - 1]!) with h | h
            · exact h
            · exact absurd (.inr h) hk'
          rw [e2]
          exact h3 (i - 1) (by omega)

theorem bs_lt_of_le_ne (a b : List UInt8) (h : a ≤ b) (hne : a ≠ b) : a < b := by
  rcases Classical.em (a < b) with h1 | h1
  · exact h1
  · exact absurd (List.le_antisymm h (List.not_lt.1 h1)) hne
theorem bs_le_lt (a b c : List UInt8) (h : a ≤ b) (h2 : b < c) : a < c := List.lt_of_le_of_lt h h2

theorem bytesLess_lt : ∀ (x y : List UInt8), Op.bytesLess x y = decide (x < y)
  | [], [] => by simp [Op.bytesLess]
  | _ :: _, [] => by simp [Op.bytesLess]
  | [], _ :: _ => by simp [Op.bytesLess]
  | a :: x, b :: y => by
    rw [Op.bytesLess, bytesLess_lt x y]
    simp only [List.cons_lt_cons_iff]
    by_cases h1 : a < b <;> by_cases h2 : a = b <;> by_cases h3 : x < y <;> simp [h1, h2, h3]

/-- What Sort and Compact make of strings. -/
def uniqS (l : List (List UInt8)) : List (List UInt8) := Lib.compact (l.mergeSort leB)
theorem uniqS_props (l : List (List UInt8)) : (uniqS l).Pairwise (· < ·) ∧ (∀ x, x ∈ uniqS l ↔ x ∈ l) ∧ (uniqS l).length ≤ l.length := by
  have tr : ∀ a b c : List UInt8, leB a b = true → leB b c = true → leB a c = true := fun a b c h1 h2 => by simp only [leB, decide_eq_true_eq] at *; exact List.le_trans h1 h2
  have tot : ∀ a b : List UInt8, (leB a b || leB b a) = true := fun a b => by simp only [leB, Bool.or_eq_true, decide_eq_true_eq]; exact List.le_total a b
  have hp := List.pairwise_mergeSort tr tot l
  obtain ⟨s, hs⟩ : ∃ s, l.mergeSort leB = s := ⟨_, rfl⟩
  have hlen : s.length = l.length := by rw [← hs]; exact List.length_mergeSort l
  have hmem : ∀ x, x ∈ s ↔ x ∈ l := fun x => by rw [← hs]; exact List.mem_mergeSort
  rw [hs] at hp
  have hord : ∀ i j, i ≤ j → j < s.toArray.size → s.toArray[i]! ≤ s.toArray[j]! := by
    intro i j hij hj
    have hj' : j < s.length := by simpa using hj
    rw [getElem!_pos s.toArray i (by simp; omega), getElem!_pos s.toArray j hj]
    simp only [List.getElem_toArray]
    rcases Nat.lt_or_ge i j with h | h
    · have := List.pairwise_iff_getElem.1 hp i j (by omega) hj' h
      simpa [leB] using this
    · have : i = j := by omega
      subst this
      exact List.le_refl _
  obtain ⟨h1, h2, h3, h4⟩ := compact_goG (· ≤ ·) (· < ·) bs_lt_of_le_ne bs_le_lt s.toArray hord s.length (by simp)
  unfold uniqS Lib.compact
  rw [hs]
  refine ⟨h1, fun x => ?_, by omega⟩
  rw [← hmem]
  constructor
  · intro hx
    obtain ⟨i, hi, e⟩ := h2 x hx
    rw [← e, getElem!_pos s.toArray i (by simpa using hi)]
    simp
  · intro hx
    obtain ⟨i, hi, rfl⟩ := List.getElem_of_mem hx
    have := h3 i hi
    rw [getElem!_pos s.toArray i (by simpa using hi)] at this
    simpa using this

def bsOf (l : List ByteArray) : List (List UInt8) := l.map (fun s => s.data.toList)
def ofBs (l : List (List UInt8)) : List ByteArray := l.map (fun s => ⟨s.toArray⟩)
theorem of_bs (l : List ByteArray) : ofBs (bsOf l) = l := by
  unfold ofBs bsOf
  rw [List.map_map]
  exact (List.map_congr_left (fun s _ => by simp)).trans (List.map_id l)
theorem enc_bs (l : List ByteArray) : (bsOf l).map encStr = l.map Value.string := by
  unfold bsOf
  rw [List.map_map]
  exact List.map_congr_left (fun s _ => by simp [encStr])

/-- The cells of a slice of strings. -/
theorem strs_cells {M : List Nat} {w : World} {ao : Option Addr} {cap : Nat} {ss : List ByteArray} (h : Kd.str.slice.At M w [.slice ao ss.length cap] ss) (hne : 0 < ss.length) :
    ∃ b o, ao = some ⟨b, o, none⟩ ∧ ∀ j, j < ss.length → w.cell? ⟨b, o + j, none⟩ = some (.string (ss.getD j ByteArray.empty)) := by
  obtain ⟨ao', cap', e, h1, h2, h3⟩ := h.out
  simp at e
  obtain ⟨rfl, rfl⟩ := e
  obtain ⟨b, o, rfl, _⟩ := h3 0 _ (List.getElem?_eq_getElem hne)
  refine ⟨b, o, rfl, fun j hj => ?_⟩
  obtain ⟨b', o', e, _, _, cs, hr, hc⟩ := h3 j _ (List.getElem?_eq_getElem hj)
  simp at e
  obtain ⟨rfl, rfl⟩ := e
  have hr1 := hr.1
  subst hr1
  have := hc 0 _ rfl
  simpa [Kd.str, List.getD, hj] using this
theorem strs_small {M : List Nat} {w : World} {v : Value} {ss : List ByteArray} (h : Kd.str.slice.At M w [v] ss) : ∀ s ∈ ss, s.size ≤ maxLen := by
  intro s hs
  obtain ⟨ao', cap', e, h1, h2, h3⟩ := h.out
  obtain ⟨j, hj, rfl⟩ := List.getElem_of_mem hs
  obtain ⟨b', o', e, _, _, cs, hr, hc⟩ := h3 j _ (List.getElem?_eq_getElem hj)
  exact hr.2

theorem contains_str_calls (v : Value) (ss : List ByteArray) (x : ByteArray) (M : List Nat) (w : World) (h : Kd.str.slice.At M w [v] ss) :
    Calls Try.prog 41 #[v, .string x] w fun e w' => e = .returned (.bool (Lib.containsS ss x)) ∧ w = w' := by
  obtain ⟨ao, cap, rfl, hl, hcap⟩ := Kd.slice_form h
  rcases Nat.eq_zero_or_pos ss.length with h0 | h0
  · have e := List.eq_nil_of_length_eq_zero h0
    subst e
    refine (Try.slices_Contains_string_empty ao cap x w).mono ?_
    rintro e w' ⟨rfl, rfl⟩
    exact ⟨by simp [Lib.containsS, Lib.idxOfS, Lib.idxFromS], rfl⟩
  · obtain ⟨b, o, rfl, hc⟩ := strs_cells h h0
    refine (Try.slices_Contains_string b o ss.length cap ss x w (Nat.le_refl _) (by unfold maxLen at hcap; omega) hc).mono ?_
    rintro e w' ⟨rfl, rfl⟩
    exact ⟨by rw [List.take_length], rfl⟩

theorem clone_str_calls (v : Value) (ss : List ByteArray) (M : List Nat) (w : World) (h : Kd.str.slice.At M w [v] ss) (hlen : ss.length ≤ 1099511627776) :
    Calls Try.prog 56 #[v] w fun e w' => ∃ v', e = .returned v' ∧ Below w.heap.size w w' ∧ w'.ownsRow w.heap.size 9 1 v' ss.length ((bsOf ss).map encStr) := by
  obtain ⟨ao, cap, rfl, hl, hcap⟩ := Kd.slice_form h
  rw [enc_bs]
  rcases Nat.eq_zero_or_pos ss.length with h0 | h0
  · have e := List.eq_nil_of_length_eq_zero h0
    subst e
    cases ao with
    | none =>
      refine (Try.slices_Clone_string_nil 0 cap w).mono ?_
      rintro e w' ⟨rfl, rfl⟩
      exact ⟨_, rfl, Below.refl _ _, World.ownsRow_nil _ _ _ _⟩
    | some a =>
      refine (Try.slices_Clone_string_zero a cap w).mono ?_
      rintro e w' ⟨v', rfl, h1, _, h2⟩
      exact ⟨_, rfl, h2, h1⟩
  · obtain ⟨b, o, rfl, hc⟩ := strs_cells h h0
    refine (Try.slices_Clone_string b o ss.length cap ss w (Nat.le_refl _) (by omega) hc).mono ?_
    rintro e w' ⟨v', rfl, h1, _, h2⟩
    rw [List.take_length] at h1
    exact ⟨_, rfl, h2, h1⟩

theorem sort_str_calls (v : Value) (l : List (List UInt8)) (B : Nat) (w : World) (h : w.ownsRow B 9 1 v l.length (l.map encStr)) (hlen : l.length ≤ 1099511627776) :
    Calls Try.prog 57 #[v] w fun e w' => e = .returned (.tuple #[]) ∧ Upd (ob v) w w' ∧ w'.ownsRow B 9 1 v l.length ((l.mergeSort leB).map encStr) := by
  rcases h.2 with ⟨rfl, h0⟩ | ⟨g, cap, cur, rfl, hb, hg, h1, h2, h3, h4⟩
  · have e0 : l = [] := List.eq_nil_of_length_eq_zero h0
    subst e0
    refine (Try.slices_Sort_string_none none 0 w).mono ?_
    rintro e w' ⟨rfl, rfl⟩
    exact ⟨rfl, Upd.refl _ _, by simpa using h⟩
  · refine (Try.slices_Sort_string g 0 cap l w (holds_of_block hg (by simpa using h4)) (Array.getElem?_eq_some_iff.1 hg).1 (by omega)).mono ?_
    rintro e w' ⟨rfl, n, os, rfl⟩
    exact ⟨rfl, upd_put _ w n g 0 _ os, ownsRow_sorted (ts := l.mergeSort leB) (List.length_mergeSort l) hb hg h1 h2 h3⟩

theorem compactS_len (l : List (List UInt8)) : (Lib.compact l).length ≤ l.length := by
  unfold Lib.compact Lib.compactUpTo
  rw [List.length_map]
  exact Nat.le_trans (List.length_filter_le _ _) (by simp)

theorem compact_str_calls (v : Value) (l : List (List UInt8)) (B : Nat) (w : World) (h : w.ownsRow B 9 1 v l.length (l.map encStr)) (hlen : l.length ≤ 1099511627776) (hs : ∀ x ∈ Lib.compact l, x.length ≤ maxLen) :
    Calls Try.prog 58 #[v] w fun e w' => ∃ v', e = .returned v' ∧ Upd (ob v) w w' ∧ Kd.str.slice.At [] w' [v'] (ofBs (Lib.compact l)) := by
  rcases h.2 with ⟨rfl, h0⟩ | ⟨g, cap, cur, rfl, hb, hg, h1, h2, h3, h4⟩
  · have e0 : l = [] := List.eq_nil_of_length_eq_zero h0
    subst e0
    refine (Try.slices_Compact_string_empty none 0 w).mono ?_
    rintro e w' ⟨rfl, rfl⟩
    exact ⟨_, rfl, Upd.refl _ _, Kd.slice_nil Kd.str [] _ none 0 (by simp [maxLen])⟩
  · refine (Try.slices_Compact_string g 0 cap l w (holds_of_block hg (by simpa using h4)) (by omega) h1).mono ?_
    rintro e w' ⟨rfl, q, rfl⟩
    have hcl := compactS_len l
    obtain ⟨ts, hts⟩ : ∃ ts, Lib.compact l ++ List.replicate (l.length - (Lib.compact l).length) [] = ts := ⟨_, rfl⟩
    rw [hts]
    have htl : ts.length = l.length := by rw [← hts]; simp; omega
    have hown := ownsRow_sorted (n := q) (os := #[]) (ts := ts) htl hb hg h1 h2 h3
    have e0 : ∀ W : World, Sort.grow W #[] = W := fun W => by simp [Sort.grow]
    rw [e0] at hown
    have hgl : g < (Sort.putRow encStr (Sort.ahead w q) g 0 ts.toArray).heap.size := (hown.lt g rfl).2
    refine ⟨_, rfl, upd_put' _ w q g 0 _, ?_⟩
    have hol : (ofBs (Lib.compact l)).length = (Lib.compact l).length := by simp [ofBs]
    refine ⟨⟨some ⟨g, 0, none⟩, cap, by rw [hol], by rw [hol]; omega, h2, fun i x hx => ?_⟩⟩
    have hi := (List.getElem?_eq_some_iff.1 hx).1
    rw [hol] at hi
    refine ⟨g, 0, rfl, ⟨hgl, by simp⟩, hgl, [.string x], ⟨rfl, ?_⟩, fun j u hj => ?_⟩
    · unfold ofBs at hx
      rw [List.getElem?_map, List.getElem?_eq_getElem hi] at hx
      simp at hx
      subst hx
      have := hs _ (List.getElem_mem hi)
      show (Lib.compact l)[i].toArray.size ≤ maxLen
      rw [List.size_toArray]
      exact this
    · cases j with
      | succ j => simp at hj
      | zero =>
        simp at hj
        subst hj
        have := hown.cellAt i (by omega)
        simp only [Kd.str, Nat.mul_one, Nat.add_zero, Nat.zero_add]
        rw [this, ← hts, List.map_append, List.getElem?_append_left (by simpa using hi)]
        unfold ofBs at hx
        rw [List.getElem?_map] at hx ⊢
        cases hq : (Lib.compact l)[i]? with
        | none => rw [hq] at hx; cases hx
        | some y => rw [hq] at hx; simp at hx; subst hx; rfl

set_option maxHeartbeats 1000000 in
theorem marks_uniqueS_calls (v : Value) (ss : List ByteArray) (M : List Nat) (w : World) (h : Kd.str.slice.At M w [v] ss) (hlen : ss.length ≤ 1099511627776) :
    Calls Try.prog 40 #[v] w fun e w' => ∃ v', e = .returned v' ∧ Below w.heap.size w w' ∧ Kd.str.slice.At [] w' [v'] (ofBs (uniqS (bsOf ss))) := by
  have HC := Lib.hid (clone_str_calls v ss M w h hlen)
  have hbl : (bsOf ss).length = ss.length := by simp [bsOf]
  have HSZ := Lib.hid (fun x (hx : x ∈ Lib.compact ((bsOf ss).mergeSort leB)) => (show x.length ≤ maxLen by
    have hx' := ((uniqS_props (bsOf ss)).2.1 x).1 hx
    obtain ⟨s, hs, rfl⟩ := List.mem_map.1 hx'
    have := strs_small h s hs
    show s.data.toList.length ≤ maxLen
    rw [Array.length_toList]
    exact this))
  obtain ⟨ao, cap, rfl, hl, hcap⟩ := Kd.slice_form h
  clear h
  go_enter Try.func40, Try.ntmps40
  go_wp2_with fail
  refine HC.out.mono ?_
  rintro e w1 ⟨v1, rfl, hb1, hr1⟩
  have HB1 := Lib.hid hb1
  rw [← hbl] at hr1
  have HS := Lib.hid (sort_str_calls v1 (bsOf ss) w.heap.size w1 hr1 (by omega))
  have HOB := Lib.hid (fun k (hk : k ∈ ob v1) => (show w.heap.size ≤ k by
    have : v1.ownBlock = some k := by
      unfold ob at hk
      cases hv : v1.ownBlock with
      | none => rw [hv] at hk; simp at hk
      | some j => rw [hv] at hk; simp at hk; rw [hk]
    exact (hr1.lt k this).1))
  clear hb1 hr1 HC
  go_wp2_with fail
  refine HS.out.mono ?_
  rintro e w2 ⟨rfl, hu2, hr2⟩
  have HB2 := Lib.hid (HB1.out.trans (hu2.belowB HB1.out.size HOB.out))
  have HP := Lib.hid (compact_str_calls v1 ((bsOf ss).mergeSort leB) w.heap.size w2 (by rw [List.length_mergeSort]; exact hr2) (by rw [List.length_mergeSort]; omega) HSZ.out)
  clear hu2 hr2 HS
  go_wp2_with fail
  refine HP.out.mono ?_
  rintro e w3 ⟨v3, rfl, hu3, hr3⟩
  have HB3 := Lib.hid (HB2.out.trans (hu3.belowB HB2.out.size HOB.out))
  have HR3 := Lib.hid hr3
  clear hu3 hr3 HP
  go_wp2_with fail
  go_ret
  exact ⟨_, rfl, HB3.out, HR3.out⟩

end Go.Proofs.Yteafbhpjjibdeaa
