/-
What is gathered: enough, and each node once at most. No program stands in this text.
-/
import Derived.Test.YtiplifkbegmeiaaRGat
namespace Go.Proofs.Ytiplifkbegmeiaa
set_option linter.unusedVariables false
set_option linter.unusedSimpArgs false
open Go.RowKit

def SetOk (n : Nat) (S : List Int) : Prop := S.Nodup ∧ ∀ x ∈ S, 0 ≤ x ∧ x < (n : Int)
theorem setOk_len {n : Nat} {S : List Int} (h : SetOk n S) : S.length ≤ n := nodup_len n S h.1 h.2
theorem setOk_full {n : Nat} {S : List Int} (h : SetOk n S) (hl : S.length = n) (x : Int) (h0 : 0 ≤ x) (h1 : x < (n : Int)) : x ∈ S := by
  refine Classical.byContradiction (fun hx => ?_)
  have := nodup_len n (x :: S) (List.nodup_cons.2 ⟨hx, h.1⟩) (fun y hy => by
    rcases List.mem_cons.1 hy with rfl | hy
    · exact ⟨h0, h1⟩
    · exact h.2 y hy)
  simp at this
  omega
theorem nodup_sub : ∀ {a b : List Int}, a.Nodup → (∀ x ∈ a, x ∈ b) → a.length ≤ b.length
  | [], b, _, _ => by simp
  | x :: a, b, h, hs => by
    have hx : x ∈ b := hs x (by simp)
    have h2 := List.nodup_cons.1 h
    have := nodup_sub (a := a) (b := b.erase x) h2.2 (fun y hy => by
      have hne : y ≠ x := fun e => h2.1 (e ▸ hy)
      exact (List.mem_erase_of_ne hne).2 (hs y (by simp [hy])))
    rw [List.length_erase_of_mem hx] at this
    have hp := List.length_pos_of_mem hx
    simp only [List.length_cons]
    omega
theorem setOk_all {n : Nat} {S : List Int} (h : SetOk n S) (hall : ∀ x : Int, 0 ≤ x → x < (n : Int) → x ∈ S) : S.length = n := by
  have h1 := setOk_len h
  have h2 : ((List.range n).map (fun i : Nat => (i : Int))).length ≤ S.length := by
    refine nodup_sub ?_ ?_
    · refine List.pairwise_map.2 ((List.nodup_range (n := n)).imp (fun h e => h (by omega)))
    · intro x hx
      obtain ⟨i, hi, rfl⟩ := List.mem_map.1 hx
      have := List.mem_range.1 hi
      exact hall i (by omega) (by omega)
  simp at h2
  omega
theorem setOk_up {n : Nat} {S : List Int} (h : SetOk n S) : (setUpTo n S).length = S.length := by
  have e := setUpTo_uniq n S h.2
  have h1 : (setUpTo n S).Nodup := (setUpTo_sorted S n).imp (fun h => by omega)
  have hs : ∀ x, x ∈ setUpTo n S ↔ x ∈ S := fun x => by rw [setUpTo_mem]; exact ⟨fun h => h.2, fun hx => ⟨h.2 x hx, hx⟩⟩
  have p1 : ∀ x ∈ setUpTo n S, x ∈ S := fun x => (hs x).1
  have p2 : ∀ x ∈ S, x ∈ setUpTo n S := fun x => (hs x).2
  exact Nat.le_antisymm (nodup_sub h1 p1) (nodup_sub h.1 p2)
theorem metAdd_cons (n : Nat) (S : List Int) (y : Int) (ids : List Int) : metAdd n S (y :: ids) = metAdd n (if addsTo n S y then S ++ [y] else S) ids := rfl
theorem metAdd_sub (n : Nat) : ∀ (ids S : List Int) (x : Int), x ∈ S → x ∈ metAdd n S ids
  | [], S, x, h => h
  | y :: ids, S, x, h => by
    rw [metAdd_cons]
    refine metAdd_sub n ids _ x ?_
    split
    · exact List.mem_append_left _ h
    · exact h
theorem metAdd_has (n : Nat) : ∀ (ids S : List Int) (x : Int), x ∈ ids → 0 ≤ x → x < (n : Int) → x ∈ metAdd n S ids
  | y :: ids, S, x, h, h0, h1 => by
    rw [metAdd_cons]
    rcases List.mem_cons.1 h with rfl | h
    · refine metAdd_sub n ids _ x ?_
      split
      · simp
      · rename_i ha
        unfold addsTo at ha
        simp at ha
        exact ha h0 h1
    · exact metAdd_has n ids _ x h h0 h1

/-- What comes of a search: the trees that are left, and what has been met. -/
theorem gatherS_law {T : List (List Nd)} {dim : Int} {v : List Int} {n : Nat} {limit : Int} (hv : Bd21 v) : ∀ (g : Nat) (s : St) (S : List Int) (trs : List Tr), StOk T dim s trs → g = sizes trs → SetOk n S →
    ∃ trs', StOk T dim (gatherS T v n limit g s S).1 trs' ∧ (gatherS T v n limit g s S).1.steps + sizes trs' = s.steps + g ∧ s.steps ≤ (gatherS T v n limit g s S).1.steps ∧
      (limit ≤ ((gatherS T v n limit g s S).2.length : Int) ∨ (gatherS T v n limit g s S).1.tasks = []) ∧ SetOk n (gatherS T v n limit g s S).2 ∧ (∀ x ∈ S, x ∈ (gatherS T v n limit g s S).2) ∧
      ∀ x : Int, 0 ≤ x → x < (n : Int) → x ∈ (leavesAll trs).flatten → x ∈ (gatherS T v n limit g s S).2 ∨ x ∈ (leavesAll trs').flatten
  | 0, s, S, trs, hok, hg, hS => by
    have h1 := sizes_len trs
    have h2 := hok.len
    have h3 : s.tasks = [] := List.eq_nil_of_length_eq_zero (by omega)
    exact ⟨trs, hok, by simp only [gatherS]; omega, Nat.le_refl _, .inr h3, hS, fun x h => h, fun x _ _ h => .inr h⟩
  | g + 1, s, S, trs, hok, hg, hS => by
    by_cases hst : limit ≤ (S.length : Int) ∨ s.tasks = []
    · rw [gatherS_stop hst]
      exact ⟨trs, hok, by simp only; omega, Nat.le_refl _, hst, hS, fun x h => h, fun x _ _ h => .inr h⟩
    · have h0 : 0 < s.tasks.length := by
        cases hts : s.tasks with
        | nil => exact absurd (.inr hts) hst
        | cons a b => simp
      obtain ⟨trs1, k1, k2, k3⟩ := step_ok hv hok h0
      obtain ⟨m1, _⟩ := stepS_num T v s
      have e : gatherS T v n limit (g + 1) s S = gatherS T v n limit g (stepS T v s) (metOut T n s S) := by
        rw [gatherS, if_neg hst]
      have hS1 : SetOk n (metOut T n s S) := by rw [metOut_eq]; exact metAdd_ok n _ _ hS
      obtain ⟨trs', a1, a2, a3, a4, a5, a6, a7⟩ := gatherS_law hv g (stepS T v s) (metOut T n s S) trs1 k1 (by omega) hS1
      rw [e]
      refine ⟨trs', a1, by omega, by omega, a4, a5, fun x hx => a6 x (by rw [metOut_eq]; exact metAdd_sub n _ _ x hx), fun x x0 x1 hx => ?_⟩
      rcases k3 with ⟨ids, b1, b2⟩ | ⟨b1, b2⟩
      · have hx := (b2.flatten).subset hx
        rw [List.flatten_cons] at hx
        rcases List.mem_append.1 hx with hx | hx
        · exact .inl (a6 x (by rw [metOut_eq, b1]; exact metAdd_has n _ _ x hx x0 x1))
        · exact a7 x x0 x1 hx
      · exact a7 x x0 x1 ((b2.flatten).subset hx)

theorem covers_has {n : Nat} {xs : List (List Int)} (h : covers n xs = true) (x : Int) (h0 : 0 ≤ x) (h1 : x < (n : Int)) : x ∈ xs.flatten := by
  unfold covers at h
  rw [Int.toNat_natCast] at h
  split at h
  · rename_i S hS
    have h2 : S.length = n := by simpa using h
    obtain ⟨e, a1, a2⟩ := (coversGo_spec n xs.flatten [] (by simp)).1 S hS
    rw [List.nil_append] at e a2
    rw [e] at h2
    exact setOk_full ⟨a2, a1⟩ h2 x h0 h1
  · simp at h

/-- A whole search. -/
structure Gathered (T : List (List Nd)) (n : Nat) (limit : Int) (R : St × List Int) : Prop where
  ok : SetOk n R.2
  hi : R.1.steps ≤ T.flatten.length
  lo : 1 ≤ R.1.steps
  enough : limit ≤ (R.2.length : Int) ∨ (R.2.length = n ∧ R.1.steps = T.flatten.length)
theorem gathered {T : List (List Nd)} {n : Nat} {dim : Int} {v : List Int} {limit : Int} (hv : Bd21 v) (h : ∀ t ∈ T, checkNd t n dim = 0) (hT : 1 ≤ T.length) (hl : 1 ≤ limit) : Gathered T n limit (gatherS T v n limit T.flatten.length (beginS T) []) := by
  obtain ⟨trs, h1, h2, h3, h4⟩ := begin_ok h
  have hok : SetOk n ([] : List Int) := ⟨List.nodup_nil, by simp⟩
  have hlen : trs.length = T.length := by rw [h1.len]; simp [beginS, beginTo_len]
  have hsz := sizes_len trs
  obtain ⟨trs', a1, a2, a3, a4, a5, a6, a7⟩ := gatherS_law (limit := limit) hv T.flatten.length (beginS T) [] trs h1 h2.symm hok
  have hs0 : (beginS T).steps = 0 := rfl
  refine ⟨a5, by omega, ?_, ?_⟩
  · obtain ⟨g, hg⟩ : ∃ g, T.flatten.length = g + 1 := ⟨T.flatten.length - 1, by omega⟩
    have h0 : 0 < (beginS T).tasks.length := by simp [beginS, beginTo_len]; omega
    obtain ⟨trs1, k1, k2, _⟩ := step_ok hv h1 h0
    obtain ⟨_, _, _, b3, _⟩ := gatherS_law (limit := limit) (n := n) hv g (stepS T v (beginS T)) (metOut T n (beginS T) []) trs1 k1 (by omega) (by rw [metOut_eq]; exact metAdd_ok n _ _ hok)
    have e : gatherS T v n limit (g + 1) (beginS T) [] = gatherS T v n limit g (stepS T v (beginS T)) (metOut T n (beginS T) []) := by
      rw [gatherS, if_neg (by
        rintro (h | h)
        · simp at h; omega
        · rw [h] at h0; simp at h0)]
    rw [hg, e]
    have := (stepS_num T v (beginS T)).1
    omega
  · rcases a4 with a4 | a4
    · exact .inl a4
    · refine .inr ⟨?_, ?_⟩
      · refine setOk_all a5 (fun x x0 x1 => ?_)
        obtain ⟨t, ht⟩ : ∃ t, t ∈ T := List.exists_mem_of_length_pos (by omega)
        have hc := (lay_of_check (h t ht)).choose_spec.2.2.2.2
        have hx := covers_has hc x x0 x1
        have hx2 : x ∈ (leavesAll trs).flatten := by
          rw [h3]
          obtain ⟨l, hl, hxl⟩ := List.mem_flatten.1 hx
          exact List.mem_flatten.2 ⟨l, List.mem_flatten.2 ⟨leavesOf t, List.mem_map.2 ⟨t, ht, rfl⟩, hl⟩, hxl⟩
        rcases a7 x x0 x1 hx2 with h | h
        · exact h
        · have : trs' = [] := List.eq_nil_of_length_eq_zero (by rw [a1.len, a4]; rfl)
          rw [this] at h
          simp [leavesAll] at h
      · have : trs' = [] := List.eq_nil_of_length_eq_zero (by rw [a1.len, a4]; rfl)
        rw [this, show sizes ([] : List Tr) = 0 from rfl] at a2
        omega

/-- A greater limit: no less is met, in no fewer steps. -/
theorem gathered_more {T : List (List Nd)} {dim : Int} {v : List Int} {n : Nat} {a b : Int} (hab : a ≤ b) (hv : Bd21 v) : ∀ (g : Nat) (s : St) (S : List Int) (trs : List Tr), StOk T dim s trs → g = sizes trs → SetOk n S →
    (gatherS T v n a g s S).1.steps ≤ (gatherS T v n b g s S).1.steps ∧ ∀ x ∈ (gatherS T v n a g s S).2, x ∈ (gatherS T v n b g s S).2
  | g, s, S, trs, hok, hg, hS => by
    by_cases hst : a ≤ (S.length : Int) ∨ s.tasks = []
    · rw [gatherS_stop hst g]
      obtain ⟨_, _, _, b3, _, _, b6, _⟩ := gatherS_law (limit := b) hv g s S trs hok hg hS
      exact ⟨b3, b6⟩
    · have h0 : 0 < s.tasks.length := by
        cases hts : s.tasks with
        | nil => exact absurd (.inr hts) hst
        | cons a b => simp
      obtain ⟨trs1, k1, k2, k3⟩ := step_ok hv hok h0
      have hst2 : ¬ (b ≤ (S.length : Int) ∨ s.tasks = []) := by
        rintro (h | h)
        · exact hst (.inl (by omega))
        · exact hst (.inr h)
      match g, hg with
      | 0, hg => omega
      | g + 1, hg =>
        have e1 : gatherS T v n a (g + 1) s S = gatherS T v n a g (stepS T v s) (metOut T n s S) := by rw [gatherS, if_neg hst]
        have e2 : gatherS T v n b (g + 1) s S = gatherS T v n b g (stepS T v s) (metOut T n s S) := by rw [gatherS, if_neg hst2]
        rw [e1, e2]
        exact gathered_more hab hv g (stepS T v s) (metOut T n s S) trs1 k1 (by omega) (by rw [metOut_eq]; exact metAdd_ok n _ _ hS)
  termination_by g => g

theorem u8_bd {x : Int} (h : (Lit.int .u8 x).wf = true) : 0 ≤ x ∧ x ≤ 255 := by
  simp [Lit.wf, IntKind.min, IntKind.max, IntKind.signed, IntKind.bits] at h
  omega
theorem flat_take {T : List (List Nd)} {k : Nat} {x : List Nd} (hx : T[k]? = some x) : ((T.take (k + 1)).flatten.length : Int) = (T.take k).flatten.length + x.length := by
  rw [take_snoc' hx]; simp
theorem flat_take_le (T : List (List Nd)) (k : Nat) : (T.take k).flatten.length ≤ T.flatten.length := by
  have e : T.flatten = (T.take k).flatten ++ (T.drop k).flatten := by rw [← List.flatten_append, List.take_append_drop]
  rw [e, List.length_append]
  omega

theorem sorted_at {l : List Int} {i j : Nat} {x y : Int} (h : l.Pairwise (· < ·)) (hx : l[i]? = some x) (hy : l[j]? = some y) (hij : i < j) : x < y := by
  obtain ⟨hi, rfl⟩ := List.getElem?_eq_some_iff.1 hx
  obtain ⟨hj, rfl⟩ := List.getElem?_eq_some_iff.1 hy
  exact List.pairwise_iff_getElem.1 h i j hi hj hij

theorem gathered_all {T : List (List Nd)} {n : Nat} {dim : Int} {v : List Int} {a b : Int} (hab : a ≤ b) (hv : Bd21 v) (h : ∀ t ∈ T, checkNd t n dim = 0) :
    (gatherS T v n a T.flatten.length (beginS T) []).1.steps ≤ (gatherS T v n b T.flatten.length (beginS T) []).1.steps ∧ ∀ x ∈ (gatherS T v n a T.flatten.length (beginS T) []).2, x ∈ (gatherS T v n b T.flatten.length (beginS T) []).2 := by
  obtain ⟨trs, h1, h2, _⟩ := begin_ok h
  exact gathered_more hab hv T.flatten.length (beginS T) [] trs h1 h2.symm ⟨List.nodup_nil, by simp⟩

end Go.Proofs.Ytiplifkbegmeiaa
