/-
Plain laws of layer 9: Covers is the document's Covers. No walk stands here.
-/
import Derived.Test.YtglghgjbnoldaaaRefB
namespace Go.Proofs.Ytglghgjbnoldaaa
set_option linter.unusedVariables false
set_option linter.unusedSimpArgs false
open Go.RowKit

def ins (x : Int) : List Int → List Int
  | [] => [x]
  | y :: l => if y < x then y :: ins x l else if y = x then y :: l else x :: y :: l
theorem uins_ins (x : Int) : ∀ out, uins out x = ins x out
  | [] => rfl
  | y :: l => by
    have ih := uins_ins x l
    unfold uins at ih ⊢
    simp only at ih ⊢
    by_cases h : y < x
    · simp only [List.takeWhile_cons, h, decide_true, if_true, List.length_cons, List.getElem?_cons_succ, List.take_succ_cons, List.drop_succ_cons, ins]
      rw [← ih]
      split <;> simp
    · simp only [List.takeWhile_cons, h, decide_false, Bool.false_eq_true, if_false, List.length_nil, List.getElem?_cons_zero, List.take_zero, List.drop_zero, ins, Option.some.injEq, List.nil_append]
      split
      · rfl
      · rfl
theorem ins_mem (x : Int) : ∀ (l : List Int) (y : Int), y ∈ ins x l ↔ y = x ∨ y ∈ l
  | [], y => by simp [ins]
  | z :: l, y => by
    unfold ins
    split
    · simp only [List.mem_cons, ins_mem x l y]
      constructor
      · rintro (h | h | h) <;> simp [h]
      · rintro (h | h | h) <;> simp [h]
    · split
      · rename_i h1 h2
        subst h2
        simp only [List.mem_cons]
        constructor
        · rintro (h | h) <;> simp [h]
        · rintro (h | h | h) <;> simp [h]
      · simp
theorem ins_sorted (x : Int) : ∀ (l : List Int), l.Pairwise (· < ·) → (ins x l).Pairwise (· < ·)
  | [], _ => by simp [ins]
  | z :: l, h => by
    obtain ⟨h1, h2⟩ := List.pairwise_cons.1 h
    unfold ins
    split
    · rename_i hz
      refine List.pairwise_cons.2 ⟨fun y hy => ?_, ins_sorted x l h2⟩
      rcases (ins_mem x l y).1 hy with rfl | hy
      · exact hz
      · exact h1 y hy
    · split
      · exact h
      · rename_i h3 h4
        refine List.pairwise_cons.2 ⟨fun y hy => ?_, h⟩
        rcases List.mem_cons.1 hy with rfl | hy
        · omega
        · have := h1 y hy; omega
theorem ins_len (x : Int) : ∀ (l : List Int), l.Pairwise (· < ·) → (ins x l).length = if x ∈ l then l.length else l.length + 1
  | [], _ => by simp [ins]
  | z :: l, h => by
    obtain ⟨h1, h2⟩ := List.pairwise_cons.1 h
    unfold ins
    split
    · rename_i hz
      have hne : x ≠ z := by omega
      simp only [List.length_cons, ins_len x l h2, List.mem_cons, hne, false_or]
      split <;> rfl
    · split
      · rename_i h3 h4
        subst h4; simp
      · rename_i h3 h4
        have : x ∉ z :: l := by
          intro hm
          rcases List.mem_cons.1 hm with rfl | hm
          · exact h4 rfl
          · have := h1 x hm; omega
        rw [if_neg this]
        simp

theorem uniq_props : ∀ (l acc : List Int), acc.Pairwise (· < ·) → (l.foldl uins acc).Pairwise (· < ·) ∧ (∀ y, y ∈ l.foldl uins acc ↔ y ∈ acc ∨ y ∈ l) ∧ (l.foldl uins acc).length ≤ acc.length + l.length ∧
    ((l.foldl uins acc).length = acc.length + l.length ↔ l.Nodup ∧ ∀ y ∈ l, y ∉ acc)
  | [], acc, h => by simp [h]
  | x :: l, acc, h => by
    have hs := ins_sorted x acc h
    obtain ⟨i1, i2, i3, i4⟩ := uniq_props l (ins x acc) hs
    have hl := ins_len x acc h
    simp only [List.foldl_cons, uins_ins]
    refine ⟨i1, fun y => ?_, ?_, ?_⟩
    · rw [i2 y, ins_mem]
      simp only [List.mem_cons]
      constructor
      · rintro ((h | h) | h) <;> simp [h]
      · rintro (h | h | h) <;> simp [h]
    · rw [hl] at i3
      simp only [List.length_cons]
      split at i3 <;> omega
    · simp only [List.length_cons, List.nodup_cons, List.mem_cons]
      by_cases hx : x ∈ acc
      · rw [hl, if_pos hx] at i3
        constructor
        · intro he; omega
        · rintro ⟨_, h2⟩; exact absurd hx (h2 x (by simp))
      · rw [hl, if_neg hx] at i4
        rw [show acc.length + (l.length + 1) = acc.length + 1 + l.length by omega, i4]
        constructor
        · rintro ⟨h1, h2⟩
          refine ⟨⟨fun hm => h2 x hm ((ins_mem x acc x).2 (.inl rfl)), h1⟩, fun y hy => ?_⟩
          rcases hy with rfl | hy
          · exact hx
          · exact fun hm => h2 y hy ((ins_mem x acc y).2 (.inr hm))
        · rintro ⟨⟨h1, h2⟩, h3⟩
          refine ⟨h2, fun y hy hm => ?_⟩
          rcases (ins_mem x acc y).1 hm with rfl | hm
          · exact h1 hy
          · exact h3 y (.inr hy) hm

theorem coversGo_spec (n : Nat) : ∀ (a S : List Int), S.Nodup → (∀ T, coversGo n S a = some T → T = S ++ a ∧ (∀ x ∈ a, 0 ≤ x ∧ x < (n : Int)) ∧ (S ++ a).Nodup) ∧ ((∀ x ∈ a, 0 ≤ x ∧ x < (n : Int)) → (S ++ a).Nodup → coversGo n S a = some (S ++ a))
  | [], S, h => by simp [coversGo, h]
  | x :: a, S, h => by
    unfold coversGo
    have hap : ∀ hn : x ∉ S, (S ++ [x]).Nodup := fun hn => by
      rw [List.nodup_append]
      exact ⟨h, by simp, by simp only [List.mem_singleton]; rintro a ha b rfl rfl; exact hn ha⟩
    constructor
    · intro T hT
      split at hT
      · rename_i hadd
        simp [addsTo] at hadd
        obtain ⟨h1, h2⟩ := (coversGo_spec n a (S ++ [x]) (hap hadd.2.2)).1 T hT
        refine ⟨by simpa using h1, fun y hy => ?_, by simpa using h2.2⟩
        rcases List.mem_cons.1 hy with rfl | hy
        · exact ⟨hadd.1, hadd.2.1⟩
        · exact h2.1 y hy
      · simp at hT
    · intro hr hn
      have hx := hr x (by simp)
      have hnx : x ∉ S := by
        intro hm
        have := (List.nodup_append.1 hn).2.2 x hm x (by simp)
        exact this rfl
      rw [if_pos (by simp [addsTo, hx, hnx])]
      have := (coversGo_spec n a (S ++ [x]) (hap hnx)).2 (fun y hy => hr y (by simp [hy])) (by simpa using hn)
      simpa using this

/-- A rising list is at least as steep as its places. -/
theorem rising : ∀ (l : List Int), l.Pairwise (· < ·) → ∀ (i j : Nat) (x y : Int), i ≤ j → l[i]? = some x → l[j]? = some y → x + ((j : Int) - (i : Int)) ≤ y := by
  intro l h i j x y hij hx hy
  induction j generalizing y with
  | zero => obtain rfl : i = 0 := by omega
            rw [hx] at hy; cases hy; simp
  | succ j ih =>
    rcases Nat.lt_or_ge i (j + 1) with hlt | hge
    · have hjl : j + 1 < l.length := (List.getElem?_eq_some_iff.1 hy).1
      have hz : l[j]? = some l[j] := List.getElem?_eq_getElem (by omega)
      have h1 := ih l[j] (by omega) hz
      have h2 := List.pairwise_iff_getElem.1 h j (j + 1) (by omega) hjl (by omega)
      have h3 := (List.getElem?_eq_some_iff.1 hy).2
      omega
    · obtain rfl : i = j + 1 := by omega
      rw [hx] at hy; cases hy; simp

theorem covers_ref (k : Int) (hk : 0 ≤ k) (xs : List (List Int)) : covers k xs = coversRef k xs := by
  obtain ⟨n, rfl⟩ : ∃ n : Nat, k = n := ⟨k.toNat, by omega⟩
  have hu := uniq_props xs.flatten [] List.Pairwise.nil
  have hc := coversGo_spec n xs.flatten [] List.nodup_nil
  have hmax : max (n : Int) 0 = n := by omega
  unfold covers coversRef
  simp only [hmax, Int.toNat_natCast]
  change (List.Pairwise _ (uniq xs.flatten)) ∧ (∀ y, y ∈ uniq xs.flatten ↔ _) ∧ (uniq xs.flatten).length ≤ _ ∧ ((uniq xs.flatten).length = _ ↔ _) at hu
  generalize uniq xs.flatten = u at *
  generalize xs.flatten = a at *
  simp only [List.nil_append, List.length_nil, Nat.zero_add, List.not_mem_nil, not_false_eq_true, implies_true, and_true, false_or] at hu hc
  obtain ⟨u1, u2, u3, u4⟩ := hu
  obtain ⟨c1, c2⟩ := hc
  by_cases h1 : u.length = a.length
  · have hnd := u4.1 h1
    by_cases h2 : (u.length : Int) = (n : Int)
    · rw [if_neg (by simp [h1, ← h2])]
      by_cases hr : ∀ x ∈ a, 0 ≤ x ∧ x < (n : Int)
      · rw [c2 hr hnd]
        simp only
        have hn : a.length = n := by omega
        simp only [hn, decide_true]
        symm
        cases n with
        | zero => simp
        | succ m =>
          have hul : u.length = m + 1 := by omega
          have e0 : u[0]? = some u[0] := List.getElem?_eq_getElem (by omega)
          have em : u[m]? = some u[m] := List.getElem?_eq_getElem (by omega)
          have r0 := hr u[0] ((u2 _).1 (List.getElem_mem _))
          have rm := hr u[m] ((u2 _).1 (List.getElem_mem _))
          have rs := rising u u1 0 m _ _ (by omega) e0 em
          rw [show m + 1 - 1 = m from rfl, e0, em]
          simp
          omega
      · have hno : coversGo n [] a = none := by
          cases hh : coversGo n [] a with
          | none => rfl
          | some T => exact absurd (c1 T hh).2.1 hr
        rw [hno]
        simp only
        symm
        cases n with
        | zero =>
          exfalso
          have : a = [] := List.eq_nil_of_length_eq_zero (by omega)
          subst this
          exact hr (by simp)
        | succ m =>
          have hul : u.length = m + 1 := by omega
          have e0 : u[0]? = some u[0] := List.getElem?_eq_getElem (by omega)
          have em : u[m]? = some u[m] := List.getElem?_eq_getElem (by omega)
          rw [show m + 1 - 1 = m from rfl, e0, em]
          rw [Bool.eq_false_iff]
          intro hb
          simp at hb
          have hb2 : u[0] = 0 ∧ u[m] = (m : Int) := by
            rcases hb with hb | hb
            · omega
            · exact hb
          refine hr (fun x hx => ?_)
          have hxu := (u2 x).2 hx
          obtain ⟨i, hi, rfl⟩ := List.getElem_of_mem hxu
          have ei : u[i]? = some u[i] := List.getElem?_eq_getElem hi
          have s1 := rising u u1 0 i _ _ (by omega) e0 ei
          have s2 := rising u u1 i m _ _ (by omega) ei em
          omega
    · rw [if_pos (Or.inr h2)]
      cases hh : coversGo n [] a with
      | none => rfl
      | some T =>
        obtain ⟨t1, t2, t3⟩ := c1 T hh
        subst t1
        simp only
        rw [decide_eq_false_iff_not]
        omega
  · rw [if_pos (Or.inl h1)]
    cases hh : coversGo n [] a with
    | none => rfl
    | some T =>
      obtain ⟨t1, t2, t3⟩ := c1 T hh
      exact absurd (u4.2 t3) h1

end Go.Proofs.Ytglghgjbnoldaaa
