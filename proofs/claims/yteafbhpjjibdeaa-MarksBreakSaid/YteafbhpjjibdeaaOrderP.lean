/-
What a set holds behind a list of numbers that are met, in plain words; a list of one list.
-/
import Derived.Test.YteafbhpjjibdeaaCollect
import Derived.Test.YteafbhpjjibdeaaPlayP
namespace Go.Proofs.Yteafbhpjjibdeaa
set_option linter.unusedVariables false
set_option linter.unusedSimpArgs false
open Go.RowKit

theorem playFold (n : Nat) : ∀ (l S : List Int), S.Nodup → (∀ x ∈ S, 0 ≤ x ∧ x < (n : Int)) → (l.foldl (playStep n) S).Nodup ∧ (∀ x, x ∈ l.foldl (playStep n) S ↔ x ∈ S ∨ (x ∈ l ∧ 0 ≤ x ∧ x < (n : Int)))
  | [], S, hn, hb => ⟨hn, fun x => by simp⟩
  | y :: l, S, hn, hb => by
    rw [List.foldl_cons]
    by_cases ha : addsTo n S y = true
    · have e : playStep n S y = S ++ [y] := by unfold playStep; rw [if_pos ha]
      have ha' := ha
      unfold addsTo at ha'
      simp only [decide_eq_true_eq] at ha'
      have hn' : (S ++ [y]).Nodup := by
        rw [List.nodup_append]
        refine ⟨hn, by simp, fun a h1 b h2 => ?_⟩
        simp at h2
        subst h2
        rintro rfl
        exact ha'.2.2 h1
      have hb' : ∀ x ∈ S ++ [y], 0 ≤ x ∧ x < (n : Int) := by
        intro x hx
        rcases List.mem_append.1 hx with h | h
        · exact hb x h
        · simp at h; subst h; exact ⟨ha'.1, ha'.2.1⟩
      obtain ⟨i1, i2⟩ := playFold n l (S ++ [y]) hn' hb'
      rw [e]
      refine ⟨i1, fun x => ?_⟩
      rw [i2]
      simp only [List.mem_append, List.mem_cons, List.not_mem_nil, or_false]
      constructor
      · rintro ((h | rfl) | ⟨h1, h2⟩)
        · exact .inl h
        · exact .inr ⟨.inl rfl, ha'.1, ha'.2.1⟩
        · exact .inr ⟨.inr h1, h2⟩
      · rintro (h | ⟨rfl | h1, h2⟩)
        · exact .inl (.inl h)
        · exact .inl (.inr rfl)
        · exact .inr ⟨h1, h2⟩
    · have e : playStep n S y = S := by unfold playStep; rw [if_neg ha]
      obtain ⟨i1, i2⟩ := playFold n l S hn hb
      rw [e]
      refine ⟨i1, fun x => ?_⟩
      rw [i2]
      simp only [List.mem_cons]
      constructor
      · rintro (h | ⟨h1, h2⟩)
        · exact .inl h
        · exact .inr ⟨.inr h1, h2⟩
      · rintro (h | ⟨rfl | h1, h2⟩)
        · exact .inl h
        · refine .inl ?_
          unfold addsTo at ha
          simp only [decide_eq_true_eq] at ha
          exact Classical.byContradiction fun hc => ha ⟨h2.1, h2.2, hc⟩
        · exact .inr ⟨h1, h2⟩
theorem playOf_mem (n : Nat) (l : List Int) (x : Int) : x ∈ playOf n l ↔ x ∈ l ∧ 0 ≤ x ∧ x < (n : Int) := by
  have := (playFold n l [] (by simp) (by simp)).2 x
  simpa [playOf] using this
theorem playOf_nodup (n : Nat) (l : List Int) : (playOf n l).Nodup := (playFold n l [] (by simp) (by simp)).1
theorem setUpTo_same (n : Nat) (a b : List Int) (h : ∀ x, x ∈ a ↔ x ∈ b) : setUpTo n a = setUpTo n b := by
  unfold setUpTo
  congr 1
  funext x
  exact decide_eq_decide.2 (h x)
theorem setUpTo_nodup (n : Nat) (S : List Int) : (setUpTo n S).Nodup := (setUpTo_sorted S n).imp (fun h => by omega)
theorem setUpTo_len (n : Nat) (S : List Int) (hn : S.Nodup) (hb : ∀ x ∈ S, 0 ≤ x ∧ x < (n : Int)) : (setUpTo n S).length = S.length :=
  List.Perm.length_eq ((List.perm_ext_iff_of_nodup (setUpTo_nodup n S) hn).2 (fun x => by rw [setUpTo_mem]; exact ⟨fun h => h.2, fun h => ⟨hb x h, h⟩⟩))
theorem covers_up (n : Int) (h0 : 0 ≤ n) (S : List Int) : covers n [setUpTo n.toNat S] = decide (((setUpTo n.toNat S).length : Int) = n) := by
  have h := (coversGo_spec n.toNat (setUpTo n.toNat S) [] (by simp)).2 (fun x hx => ((setUpTo_mem _ _ _).1 hx).1) (by simpa using setUpTo_nodup n.toNat S)
  unfold covers
  rw [show [setUpTo n.toNat S].flatten = setUpTo n.toNat S by simp, h]
  simp only [List.nil_append]
  exact decide_eq_decide.2 ⟨fun h => by omega, fun h => by omega⟩

/-- A list of one list. -/
theorem list1_at {N : List Nat} {w : World} {b : Nat} {v : Value} {t : TypeId} {l : List Int} (h : w.heap[b]? = some (.cells #[v] t)) (hn : b ∉ N) (hv : (Kd.int .i64).slice.At N w [v] l) : (Kd.int .i64).slice.slice.At N w [.slice (some ⟨b, 0, none⟩) 1 1] [l] := by
  have hb := block_lt h
  refine ⟨⟨some ⟨b, 0, none⟩, 1, rfl, Nat.le_refl _, by simp [maxLen], fun i x hi => ?_⟩⟩
  cases i with
  | zero =>
    simp at hi
    subst hi
    refine ⟨b, 0, rfl, ⟨hb, hn⟩, hb, [v], hv.out, fun j u hj => ?_⟩
    cases j with
    | zero => simp at hj; subst hj; rw [cell_of_block h]; rfl
    | succ j => simp at hj
  | succ i => simp at hi

end Go.Proofs.Yteafbhpjjibdeaa
