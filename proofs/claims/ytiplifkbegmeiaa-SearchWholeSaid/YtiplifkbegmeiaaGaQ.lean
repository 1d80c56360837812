/-
What is gathered: enough, and each node once at most; the leaves as they are taken; search.Leaves.
-/
import Derived.Test.YtiplifkbegmeiaaRGat
import Derived.Test.YtiplifkbegmeiaaEnds
namespace Go.Proofs.Ytiplifkbegmeiaa
set_option linter.unusedVariables false
set_option linter.unusedSimpArgs false
open Go.RowKit

def SetOk (n : Nat) (S : List Int) : Prop := S.Nodup ∧ ∀ x ∈ S, 0 ≤ x ∧ x < (n : Int)
theorem setOk_len {n : Nat} {S : List Int} (h : SetOk n S) : S.length ≤ n := nodup_len n S h.1 h.2
theorem setOk_full {n : Nat} {S : List Int} (h : SetOk n S) (hl : S.length = n) (x : Int) (h0 : 0 ≤ x) (h1 : x < (n : Int)) : x ∈ S := by
  refine Classical.byContradiction (fun hx => ?_)
  have := nodup_len n (x :: S) (List.nodup_cons.2 ⟨hx, h.1⟩) (fun y hy => by
    rcases List.mem_cons.1 hy with rfl | hy
    · exact ⟨h0, h1⟩
    · exact h.2 y hy)
  simp at this
  omega
theorem nodup_sub : ∀ {a b : List Int}, a.Nodup → (∀ x ∈ a, x ∈ b) → a.length ≤ b.length
  | [], b, _, _ => by simp
  | x :: a, b, h, hs => by
    have hx : x ∈ b := hs x (by simp)
    have h2 := List.nodup_cons.1 h
    have := nodup_sub (a := a) (b := b.erase x) h2.2 (fun y hy => by
      have hne : y ≠ x := fun e => h2.1 (e ▸ hy)
      exact (List.mem_erase_of_ne hne).2 (hs y (by simp [hy])))
    rw [List.length_erase_of_mem hx] at this
    have hp := List.length_pos_of_mem hx
    simp only [List.length_cons]
    omega
theorem setOk_all {n : Nat} {S : List Int} (h : SetOk n S) (hall : ∀ x : Int, 0 ≤ x → x < (n : Int) → x ∈ S) : S.length = n := by
  have h1 := setOk_len h
  have h2 : ((List.range n).map (fun i : Nat => (i : Int))).length ≤ S.length := by
    refine nodup_sub ?_ ?_
    · refine List.pairwise_map.2 ((List.nodup_range (n := n)).imp (fun h e => h (by omega)))
    · intro x hx
      obtain ⟨i, hi, rfl⟩ := List.mem_map.1 hx
      have := List.mem_range.1 hi
      exact hall i (by omega) (by omega)
  simp at h2
  omega
theorem setOk_up {n : Nat} {S : List Int} (h : SetOk n S) : (setUpTo n S).length = S.length := by
  have e := setUpTo_uniq n S h.2
  have h1 : (setUpTo n S).Nodup := (setUpTo_sorted S n).imp (fun h => by omega)
  have hs : ∀ x, x ∈ setUpTo n S ↔ x ∈ S := fun x => by rw [setUpTo_mem]; exact ⟨fun h => h.2, fun hx => ⟨h.2 x hx, hx⟩⟩
  have p1 : ∀ x ∈ setUpTo n S, x ∈ S := fun x => (hs x).1
  have p2 : ∀ x ∈ S, x ∈ setUpTo n S := fun x => (hs x).2
  exact Nat.le_antisymm (nodup_sub h1 p1) (nodup_sub h.1 p2)
theorem metAdd_cons (n : Nat) (S : List Int) (y : Int) (ids : List Int) : metAdd n S (y :: ids) = metAdd n (if addsTo n S y then S ++ [y] else S) ids := rfl
theorem metAdd_sub (n : Nat) : ∀ (ids S : List Int) (x : Int), x ∈ S → x ∈ metAdd n S ids
  | [], S, x, h => h
  | y :: ids, S, x, h => by
    rw [metAdd_cons]
    refine metAdd_sub n ids _ x ?_
    split
    · exact List.mem_append_left _ h
    · exact h
theorem metAdd_has (n : Nat) : ∀ (ids S : List Int) (x : Int), x ∈ ids → 0 ≤ x → x < (n : Int) → x ∈ metAdd n S ids
  | y :: ids, S, x, h, h0, h1 => by
    rw [metAdd_cons]
    rcases List.mem_cons.1 h with rfl | h
    · refine metAdd_sub n ids _ x ?_
      split
      · simp
      · rename_i ha
        unfold addsTo at ha
        simp at ha
        exact ha h0 h1
    · exact metAdd_has n ids _ x h h0 h1

/-- What comes of a search: the trees that are left, and what has been met. -/
theorem gatherS_law {T : List (List Nd)} {dim : Int} {v : List Int} {n : Nat} {limit : Int} (hv : Bd21 v) : ∀ (g : Nat) (s : St) (S : List Int) (trs : List Tr), StOk T dim s trs → g = sizes trs → SetOk n S →
    ∃ trs', StOk T dim (gatherS T v n limit g s S).1 trs' ∧ (gatherS T v n limit g s S).1.steps + sizes trs' = s.steps + g ∧ s.steps ≤ (gatherS T v n limit g s S).1.steps ∧
      (limit ≤ ((gatherS T v n limit g s S).2.length : Int) ∨ (gatherS T v n limit g s S).1.tasks = []) ∧ SetOk n (gatherS T v n limit g s S).2 ∧ (∀ x ∈ S, x ∈ (gatherS T v n limit g s S).2) ∧
      ∀ x : Int, 0 ≤ x → x < (n : Int) → x ∈ (leavesAll trs).flatten → x ∈ (gatherS T v n limit g s S).2 ∨ x ∈ (leavesAll trs').flatten
  | 0, s, S, trs, hok, hg, hS => by
    have h1 := sizes_len trs
    have h2 := hok.len
    have h3 : s.tasks = [] := List.eq_nil_of_length_eq_zero (by omega)
    exact ⟨trs, hok, by simp only [gatherS]; omega, Nat.le_refl _, .inr h3, hS, fun x h => h, fun x _ _ h => .inr h⟩
  | g + 1, s, S, trs, hok, hg, hS => by
    by_cases hst : limit ≤ (S.length : Int) ∨ s.tasks = []
    · rw [gatherS_stop hst]
      exact ⟨trs, hok, by simp only; omega, Nat.le_refl _, hst, hS, fun x h => h, fun x _ _ h => .inr h⟩
    · have h0 : 0 < s.tasks.length := by
        cases hts : s.tasks with
        | nil => exact absurd (.inr hts) hst
        | cons a b => simp
      obtain ⟨trs1, k1, k2, k3⟩ := step_ok hv hok h0
      obtain ⟨m1, _⟩ := stepS_num T v s
      have e : gatherS T v n limit (g + 1) s S = gatherS T v n limit g (stepS T v s) (metOut T n s S) := by
        rw [gatherS, if_neg hst]
      have hS1 : SetOk n (metOut T n s S) := by rw [metOut_eq]; exact metAdd_ok n _ _ hS
      obtain ⟨trs', a1, a2, a3, a4, a5, a6, a7⟩ := gatherS_law hv g (stepS T v s) (metOut T n s S) trs1 k1 (by omega) hS1
      rw [e]
      refine ⟨trs', a1, by omega, by omega, a4, a5, fun x hx => a6 x (by rw [metOut_eq]; exact metAdd_sub n _ _ x hx), fun x x0 x1 hx => ?_⟩
      rcases k3 with ⟨ids, b1, b2⟩ | ⟨b1, b2⟩
      · have hx := (b2.flatten).subset hx
        rw [List.flatten_cons] at hx
        rcases List.mem_append.1 hx with hx | hx
        · exact .inl (a6 x (by rw [metOut_eq, b1]; exact metAdd_has n _ _ x hx x0 x1))
        · exact a7 x x0 x1 hx
      · exact a7 x x0 x1 ((b2.flatten).subset hx)

theorem covers_has {n : Nat} {xs : List (List Int)} (h : covers n xs = true) (x : Int) (h0 : 0 ≤ x) (h1 : x < (n : Int)) : x ∈ xs.flatten := by
  unfold covers at h
  rw [Int.toNat_natCast] at h
  split at h
  · rename_i S hS
    have h2 : S.length = n := by simpa using h
    obtain ⟨e, a1, a2⟩ := (coversGo_spec n xs.flatten [] (by simp)).1 S hS
    rw [List.nil_append] at e a2
    rw [e] at h2
    exact setOk_full ⟨a2, a1⟩ h2 x h0 h1
  · simp at h

/-- A whole search. -/
structure Gathered (T : List (List Nd)) (n : Nat) (limit : Int) (R : St × List Int) : Prop where
  ok : SetOk n R.2
  hi : R.1.steps ≤ T.flatten.length
  lo : 1 ≤ R.1.steps
  enough : limit ≤ (R.2.length : Int) ∨ (R.2.length = n ∧ R.1.steps = T.flatten.length)
theorem gathered {T : List (List Nd)} {n : Nat} {dim : Int} {v : List Int} {limit : Int} (hv : Bd21 v) (h : ∀ t ∈ T, checkNd t n dim = 0) (hT : 1 ≤ T.length) (hl : 1 ≤ limit) : Gathered T n limit (gatherS T v n limit T.flatten.length (beginS T) []) := by
  obtain ⟨trs, h1, h2, h3, h4⟩ := begin_ok h
  have hok : SetOk n ([] : List Int) := ⟨List.nodup_nil, by simp⟩
  have hlen : trs.length = T.length := by rw [h1.len]; simp [beginS, beginTo_len]
  have hsz := sizes_len trs
  obtain ⟨trs', a1, a2, a3, a4, a5, a6, a7⟩ := gatherS_law (limit := limit) hv T.flatten.length (beginS T) [] trs h1 h2.symm hok
  have hs0 : (beginS T).steps = 0 := rfl
  refine ⟨a5, by omega, ?_, ?_⟩
  · obtain ⟨g, hg⟩ : ∃ g, T.flatten.length = g + 1 := ⟨T.flatten.length - 1, by omega⟩
    have h0 : 0 < (beginS T).tasks.length := by simp [beginS, beginTo_len]; omega
    obtain ⟨trs1, k1, k2, _⟩ := step_ok hv h1 h0
    obtain ⟨_, _, _, b3, _⟩ := gatherS_law (limit := limit) (n := n) hv g (stepS T v (beginS T)) (metOut T n (beginS T) []) trs1 k1 (by omega) (by rw [metOut_eq]; exact metAdd_ok n _ _ hok)
    have e : gatherS T v n limit (g + 1) (beginS T) [] = gatherS T v n limit g (stepS T v (beginS T)) (metOut T n (beginS T) []) := by
      rw [gatherS, if_neg (by
        rintro (h | h)
        · simp at h; omega
        · rw [h] at h0; simp at h0)]
    rw [hg, e]
    have := (stepS_num T v (beginS T)).1
    omega
  · rcases a4 with a4 | a4
    · exact .inl a4
    · refine .inr ⟨?_, ?_⟩
      · refine setOk_all a5 (fun x x0 x1 => ?_)
        obtain ⟨t, ht⟩ : ∃ t, t ∈ T := List.exists_mem_of_length_pos (by omega)
        have hc := (lay_of_check (h t ht)).choose_spec.2.2.2.2
        have hx := covers_has hc x x0 x1
        have hx2 : x ∈ (leavesAll trs).flatten := by
          rw [h3]
          obtain ⟨l, hl, hxl⟩ := List.mem_flatten.1 hx
          exact List.mem_flatten.2 ⟨l, List.mem_flatten.2 ⟨leavesOf t, List.mem_map.2 ⟨t, ht, rfl⟩, hl⟩, hxl⟩
        rcases a7 x x0 x1 hx2 with h | h
        · exact h
        · have : trs' = [] := List.eq_nil_of_length_eq_zero (by rw [a1.len, a4]; rfl)
          rw [this] at h
          simp [leavesAll] at h
      · have : trs' = [] := List.eq_nil_of_length_eq_zero (by rw [a1.len, a4]; rfl)
        rw [this, show sizes ([] : List Tr) = 0 from rfl] at a2
        omega

/-- A greater limit: no less is met, in no fewer steps. -/
theorem gathered_more {T : List (List Nd)} {dim : Int} {v : List Int} {n : Nat} {a b : Int} (hab : a ≤ b) (hv : Bd21 v) : ∀ (g : Nat) (s : St) (S : List Int) (trs : List Tr), StOk T dim s trs → g = sizes trs → SetOk n S →
    (gatherS T v n a g s S).1.steps ≤ (gatherS T v n b g s S).1.steps ∧ ∀ x ∈ (gatherS T v n a g s S).2, x ∈ (gatherS T v n b g s S).2
  | g, s, S, trs, hok, hg, hS => by
    by_cases hst : a ≤ (S.length : Int) ∨ s.tasks = []
    · rw [gatherS_stop hst g]
      obtain ⟨_, _, _, b3, _, _, b6, _⟩ := gatherS_law (limit := b) hv g s S trs hok hg hS
      exact ⟨b3, b6⟩
    · have h0 : 0 < s.tasks.length := by
        cases hts : s.tasks with
        | nil => exact absurd (.inr hts) hst
        | cons a b => simp
      obtain ⟨trs1, k1, k2, k3⟩ := step_ok hv hok h0
      have hst2 : ¬ (b ≤ (S.length : Int) ∨ s.tasks = []) := by
        rintro (h | h)
        · exact hst (.inl (by omega))
        · exact hst (.inr h)
      match g, hg with
      | 0, hg => omega
      | g + 1, hg =>
        have e1 : gatherS T v n a (g + 1) s S = gatherS T v n a g (stepS T v s) (metOut T n s S) := by rw [gatherS, if_neg hst]
        have e2 : gatherS T v n b (g + 1) s S = gatherS T v n b g (stepS T v s) (metOut T n s S) := by rw [gatherS, if_neg hst2]
        rw [e1, e2]
        exact gathered_more hab hv g (stepS T v s) (metOut T n s S) trs1 k1 (by omega) (by rw [metOut_eq]; exact metAdd_ok n _ _ hS)
  termination_by g => g

theorem u8_bd {x : Int} (h : (Lit.int .u8 x).wf = true) : 0 ≤ x ∧ x ≤ 255 := by
  simp [Lit.wf, IntKind.min, IntKind.max, IntKind.signed, IntKind.bits] at h
  omega
theorem flat_take {T : List (List Nd)} {k : Nat} {x : List Nd} (hx : T[k]? = some x) : ((T.take (k + 1)).flatten.length : Int) = (T.take k).flatten.length + x.length := by
  rw [take_snoc' hx]; simp
theorem flat_take_le (T : List (List Nd)) (k : Nat) : (T.take k).flatten.length ≤ T.flatten.length := by
  have e : T.flatten = (T.take k).flatten ++ (T.drop k).flatten := by rw [← List.flatten_append, List.take_append_drop]
  rw [e, List.length_append]
  omega

theorem sorted_at {l : List Int} {i j : Nat} {x y : Int} (h : l.Pairwise (· < ·)) (hx : l[i]? = some x) (hy : l[j]? = some y) (hij : i < j) : x < y := by
  obtain ⟨hi, rfl⟩ := List.getElem?_eq_some_iff.1 hx
  obtain ⟨hj, rfl⟩ := List.getElem?_eq_some_iff.1 hy
  exact List.pairwise_iff_getElem.1 h i j hi hj hij

theorem gathered_all {T : List (List Nd)} {n : Nat} {dim : Int} {v : List Int} {a b : Int} (hab : a ≤ b) (hv : Bd21 v) (h : ∀ t ∈ T, checkNd t n dim = 0) :
    (gatherS T v n a T.flatten.length (beginS T) []).1.steps ≤ (gatherS T v n b T.flatten.length (beginS T) []).1.steps ∧ ∀ x ∈ (gatherS T v n a T.flatten.length (beginS T) []).2, x ∈ (gatherS T v n b T.flatten.length (beginS T) []).2 := by
  obtain ⟨trs, h1, h2, _⟩ := begin_ok h
  exact gathered_more hab hv T.flatten.length (beginS T) [] trs h1 h2.symm ⟨List.nodup_nil, by simp⟩

/-! ### The leaves as a search takes them -/
def leavesS (T : List (List Nd)) (v : List Int) : Nat → St → List (List Int)
  | 0, _ => []
  | f + 1, s => if s.tasks = [] then [] else match outS T s with
    | some ids => ids :: leavesS T v f (stepS T v s)
    | none => leavesS T v f (stepS T v s)

/-- A search under way, g steps ahead of its end. -/
structure LInv (T : List (List Nd)) (dim : Int) (v : List Int) (g : Nat) (s : St) (xs : List (List Int)) : Prop where
  ok : ∃ trs, StOk T dim s trs ∧ g = sizes trs
  steps : s.steps + g ≤ 1048576
  next : s.next ≤ 1048576 + 2 * s.steps
  out : leavesS T v g s = xs

theorem LInv.start {T : List (List Nd)} {n : Nat} {dim : Int} (v : List Int) (h : ∀ t ∈ T, checkNd t n dim = 0) (hT : T.length ≤ 1048576) (hfl : T.flatten.length ≤ 1048576) :
    LInv T dim v T.flatten.length (beginS T) (leavesS T v T.flatten.length (beginS T)) := by
  obtain ⟨trs, h1, h2, _⟩ := begin_ok h
  exact ⟨⟨trs, h1, h2.symm⟩, by simp only [beginS]; omega, by simp only [beginS]; omega, rfl⟩
theorem LInv.stop {T : List (List Nd)} {dim : Int} {v : List Int} {g : Nat} {s : St} {xs : List (List Int)} (h : LInv T dim v g s xs) (h0 : s.tasks = []) : xs = [] := by
  rw [← h.out]
  cases g with
  | zero => rfl
  | succ g => unfold leavesS; rw [if_pos h0]
/-- A step: the leaf that it takes, if it takes one, is the next. -/
theorem LInv.step {T : List (List Nd)} {dim : Int} {v : List Int} {g : Nat} {s : St} {xs : List (List Int)} (h : LInv T dim v g s xs) (hv : Bd21 v) (h0 : s.tasks ≠ []) :
    ∃ g' xs', g = g' + 1 ∧ LInv T dim v g' (stepS T v s) xs' ∧ ((∃ ids, outS T s = some ids ∧ xs = ids :: xs') ∨ (outS T s = none ∧ xs = xs')) := by
  have h0l : 0 < s.tasks.length := by
    cases hts : s.tasks with
    | nil => exact absurd hts h0
    | cons a b => simp
  obtain ⟨trs, h1, h2⟩ := h.ok
  obtain ⟨trs', k1, k2, _⟩ := step_ok hv h1 h0l
  obtain ⟨m1, m2⟩ := stepS_num T v s
  have ho := h.out
  have hst := h.steps
  have hnx := h.next
  rw [show g = sizes trs' + 1 by omega] at ho
  unfold leavesS at ho
  rw [if_neg h0] at ho
  refine ⟨sizes trs', leavesS T v (sizes trs') (stepS T v s), by omega, ⟨⟨trs', k1, rfl⟩, by omega, by omega, rfl⟩, ?_⟩
  cases hs : outS T s with
  | none =>
    rw [hs] at ho
    exact .inr ⟨rfl, ho.symm⟩
  | some ids =>
    rw [hs] at ho
    exact .inl ⟨ids, rfl, ho.symm⟩
theorem LInv.some {T : List (List Nd)} {dim : Int} {v : List Int} {g : Nat} {s : St} {x : List Int} {xs : List (List Int)} (h : LInv T dim v g s (x :: xs)) : s.tasks ≠ [] := fun e => by
  have := h.stop e
  simp at this

/-- All leaves come, each once. -/
theorem leavesS_perm {T : List (List Nd)} {dim : Int} {v : List Int} (hv : Bd21 v) : ∀ (g : Nat) (s : St) (trs : List Tr), StOk T dim s trs → g = sizes trs → (leavesS T v g s).Perm (leavesAll trs)
  | 0, s, trs, hok, hg => by
    have h1 := sizes_len trs
    have : trs = [] := List.eq_nil_of_length_eq_zero (by omega)
    subst this
    exact List.Perm.refl _
  | g + 1, s, trs, hok, hg => by
    by_cases h0 : s.tasks = []
    · have : trs = [] := List.eq_nil_of_length_eq_zero (by rw [hok.len, h0]; rfl)
      subst this
      simp [sizes] at hg
    · have h0l : 0 < s.tasks.length := by
        cases hts : s.tasks with
        | nil => exact absurd hts h0
        | cons a b => simp
      obtain ⟨trs1, k1, k2, k3⟩ := step_ok hv hok h0l
      have ih := leavesS_perm hv g (stepS T v s) trs1 k1 (by omega)
      unfold leavesS
      rw [if_neg h0]
      rcases k3 with ⟨ids, b1, b2⟩ | ⟨b1, b2⟩
      · rw [b1]
        exact (ih.cons ids).trans b2.symm
      · rw [b1]
        exact ih.trans b2.symm
theorem leaves_perm {T : List (List Nd)} {n dim : Int} {v : List Int} (hv : Bd21 v) (h : ∀ t ∈ T, checkNd t n dim = 0) : (leavesS T v T.flatten.length (beginS T)).Perm (T.map leavesOf).flatten := by
  obtain ⟨trs, h1, h2, h3, _⟩ := begin_ok h
  rw [← h3]
  exact leavesS_perm hv _ _ trs h1 h2.symm

/-- By a limit of 1: the first leaf that has any. -/
theorem gather_one {T : List (List Nd)} {dim : Int} {v : List Int} {n : Nat} (hv : Bd21 v) : ∀ (g : Nat) (s : St) (trs : List Tr) (pre : List (List Int)) (ids : List Int) (rest : List (List Int)), StOk T dim s trs → g = sizes trs →
    leavesS T v g s = pre ++ ids :: rest → (∀ p ∈ pre, p = []) → ids ≠ [] → SetOk n ids → (gatherS T v n 1 g s []).2 = ids
  | 0, s, trs, pre, ids, rest, hok, hg, hl, hp, hne, hS => by
    simp [leavesS] at hl
  | g + 1, s, trs, pre, ids, rest, hok, hg, hl, hp, hne, hS => by
    by_cases h0 : s.tasks = []
    · unfold leavesS at hl
      rw [if_pos h0] at hl
      simp at hl
    · have h0l : 0 < s.tasks.length := by
        cases hts : s.tasks with
        | nil => exact absurd hts h0
        | cons a b => simp
      obtain ⟨trs1, k1, k2, k3⟩ := step_ok hv hok h0l
      unfold leavesS at hl
      rw [if_neg h0] at hl
      unfold gatherS
      rw [if_neg (by
        rintro (h | h)
        · simp at h
        · exact h0 h)]
      cases ho : outS T s with
      | none =>
        rw [ho] at hl
        rw [metOut_eq, ho]
        exact gather_one hv g (stepS T v s) trs1 pre ids rest k1 (by omega) hl hp hne hS
      | some l0 =>
        rw [ho] at hl
        rw [metOut_eq, ho]
        simp only [Option.getD_some]
        cases pre with
        | cons p pre =>
          simp only [List.cons_append, List.cons.injEq] at hl
          obtain ⟨rfl, hl⟩ := hl
          have := hp l0 (by simp)
          subst this
          exact gather_one hv g (stepS T v s) trs1 pre ids rest k1 (by omega) hl (fun p hp' => hp p (by simp [hp'])) hne hS
        | nil =>
          simp only [List.nil_append, List.cons.injEq] at hl
          obtain ⟨rfl, hl⟩ := hl
          have e : metAdd n [] l0 = l0 := metAdd_fresh n l0 [] (by simpa using hS.1) (fun x hx => hS.2 x hx)
          rw [e, gatherS_stop (.inl (by
            have : 0 < l0.length := List.length_pos_iff.2 hne
            omega))]
where
  metAdd_fresh (n : Nat) : ∀ (ids S : List Int), (S ++ ids).Nodup → (∀ x ∈ ids, 0 ≤ x ∧ x < (n : Int)) → metAdd n S ids = S ++ ids
    | [], S, _, _ => by simp [metAdd]
    | y :: ids, S, h, hb => by
      rw [metAdd_cons]
      have hy : addsTo n S y = true := by
        have h1 := hb y (by simp)
        have h2 : y ∉ S := fun hm => by
          have := (List.nodup_append.1 h).2.2 y hm y (by simp)
          exact this rfl
        unfold addsTo
        simp [h1.1, h1.2, h2]
      rw [if_pos hy, metAdd_fresh n ids (S ++ [y]) (by simpa using h) (fun x hx => hb x (by simp [hx]))]
      simp


/-! ### search.Leaves -/
attribute [local go_sem] Oper.semAt_some

set_option maxHeartbeats 4000000 in
set_option maxRecDepth 100000 in
theorem search_leaves_bad (b1 b2 p n : Nat) (dim leaf depth : Int) (flat : List Int) (vT vv : Value) (T : List (List Nd)) (v : List Int) (t1 t2 : TypeId) (w : World) (h1 : w.heap[b1]? = some (.cells #[.pointer (some ⟨p, 0, none⟩), .int .i64 leaf, .int .i64 depth, vT] t1)) (h2 : w.heap[b2]? = some (.cells #[vv] t2))
    (N : List Nat) (hb1 : b1 ∉ N) (hb2 : b2 ∉ N) (hpN : p ∉ N) (hi : IsItems w N p dim flat) (hd : 1 ≤ dim) (hn : (flat.length : Int) = n * dim) (h : kNd.slice.slice.At N w [vT] T) (hs : ∀ t ∈ T, TSmall t) (hv : (Kd.int .i32).slice.At N w [vv] v)
    (hc : seaCheck n dim leaf depth T v ≠ 0) :
    ItFrom Try.prog w N 38 #[.pointer (some ⟨b1, 0, none⟩), .pointer (some ⟨b2, 0, none⟩)] ([] : List (List Int)) valInts := by
  intro W0 lp M0 hW hlp hM0 J Jx hJ hY hlpl hMl h0
  have hsub : ∀ k, k ∈ lp :: M0 → k ∈ N ∨ w.heap.size ≤ k := fun k hk => by
    rcases List.mem_cons.1 hk with rfl | hk
    · exact .inr hlp
    · exact hM0 k hk
  have A1 := upd_far hW h1 hb1
  have A2 := upd_far hW h2 hb2
  obtain ⟨d0, d1, d2, d3⟩ := lay_cells A1
  have e0 : W0.cell? ⟨b2, 0, none⟩ = some vv := by rw [cell_of_block A2]; rfl
  have HC := search_check_calls p n dim leaf depth flat vT vv T v (lp :: M0) W0 (hi.upd hW (fun k hk => hk) hpN hsub) hd hn (h.upd hW (fun k hk => hk) hsub) hs (hv.upd hW (fun k hk => hk) hsub)
  obtain ⟨c, hcc⟩ : ∃ c, seaCheck n dim leaf depth T v = c := ⟨_, rfl⟩
  rw [hcc] at HC hc
  have hzb : (c != 0) = true := by simpa using hc
  have HC := Lib.hid HC
  have HJ : Hid (∀ W', Below W0.heap.size W0 W' → J [] M0 W') := Lib.hid (fun W' hb => hJ _ _ _ _ [] (by simp) h0 (Upd.ofBelow hb []))
  clear h1 h2 hi h hv hJ hY h0 hMl hM0 hW A1 A2 hsub hs hc
  refine callsIn_of_wp Try.func38 rfl trivial ?_
  simp only [Try.ntmps38, List.size_toArray, List.length_cons, List.length_nil, Nat.reduceAdd, Nat.reduceSub, Array.replicate_succ, Array.replicate_zero, List.push_toArray, List.append_toArray, List.nil_append, List.cons_append]
  gi_wp2
  refine ⟨trivial, rfl, (calls_in HC.out).mono ?_⟩
  rintro e w1 ⟨rfl, hb1⟩
  gi_wp2
  refine bodyPost_ret (results_none rfl _ _ _) rfl ?_
  exact ⟨⟨_, rfl⟩, M0, .inl (HJ.out _ hb1)⟩

set_option maxHeartbeats 8000000 in
set_option maxRecDepth 100000 in
theorem search_leaves_it (b1 b2 p n : Nat) (dim leaf depth : Int) (flat : List Int) (vT vv : Value) (T : List (List Nd)) (v : List Int) (t1 t2 : TypeId) (w : World) (h1 : w.heap[b1]? = some (.cells #[.pointer (some ⟨p, 0, none⟩), .int .i64 leaf, .int .i64 depth, vT] t1)) (h2 : w.heap[b2]? = some (.cells #[vv] t2))
    (N : List Nat) (hb1 : b1 ∉ N) (hb2 : b2 ∉ N) (hpN : p ∉ N) (hi : IsItems w N p dim flat) (hd : 1 ≤ dim) (hn : (flat.length : Int) = n * dim) (h : kNd.slice.slice.At N w [vT] T) (hs : ∀ t ∈ T, TSmall t) (hv : (Kd.int .i32).slice.At N w [vv] v)
    (hc : seaCheck n dim leaf depth T v = 0) (hT : T.length ≤ 1048576) (hfl : T.flatten.length ≤ 1048576) (xs : List (List Int)) (hxs : leavesS T v T.flatten.length (beginS T) = xs) (hsm : ∀ x ∈ xs, x.length ≤ 1099511627776) :
    ItFrom Try.prog w N 38 #[.pointer (some ⟨b1, 0, none⟩), .pointer (some ⟨b2, 0, none⟩)] xs valInts := by
  intro W0 lp M0 hW hlp hM0 J Jx hJ hY hlpl hMl h0
  have hsub : ∀ k, k ∈ lp :: M0 → k ∈ N ∨ w.heap.size ≤ k := fun k hk => by
    rcases List.mem_cons.1 hk with rfl | hk
    · exact .inr hlp
    · exact hM0 k hk
  have A1 := upd_far hW h1 hb1
  have A2 := upd_far hW h2 hb2
  obtain ⟨d0, d1, d2, d3⟩ := lay_cells A1
  have e0 : W0.cell? ⟨b2, 0, none⟩ = some vv := by rw [cell_of_block A2]; rfl
  have HT := Lib.hid (h.upd hW (fun k hk => hk) hsub)
  have HV := Lib.hid (hv.upd hW (fun k hk => hk) hsub)
  have HC := search_check_calls p n dim leaf depth flat vT vv T v (lp :: M0) W0 (hi.upd hW (fun k hk => hk) hpN hsub) hd hn HT.out hs HV.out
  rw [hc] at HC
  have HC := Lib.hid HC
  obtain ⟨hz1, hz2⟩ := sea_zero hc
  obtain ⟨hz3, _, _⟩ := lay_zero hz1
  have hinv0 := LInv.start v hz3 hT hfl
  rw [hxs] at hinv0
  obtain ⟨g0, hg0⟩ : ∃ g, T.flatten.length = g := ⟨_, rfl⟩
  rw [hg0] at hinv0
  have HINV := Lib.hid hinv0
  have HVB := Lib.hid (Bd21.vec hz2).1
  have HTL := Lib.hid hT
  have HSM := Lib.hid hsm
  have HJ := Lib.hid hJ
  have HY := Lib.hid hY
  have HM := Lib.hid hMl
  have H0 := Lib.hid h0
  have HA1 := Lib.hid A1
  have HA2 := Lib.hid A2
  clear h1 h2 hi h hv hJ hY h0 hMl hM0 hW A1 A2 hsub hs hc hz1 hz2 hz3 hinv0 hT hfl hxs hg0 hsm hn
  refine callsIn_of_wp Try.func38 rfl trivial ?_
  simp only [Try.ntmps38, List.size_toArray, List.length_cons, List.length_nil, Nat.reduceAdd, Nat.reduceSub, Array.replicate_succ, Array.replicate_zero, List.push_toArray, List.append_toArray, List.nil_append, List.cons_append]
  gi_wp2
  refine ⟨trivial, rfl, (calls_in HC.out).mono ?_⟩
  rintro e w1 ⟨rfl, hb1⟩
  clear d0 d1 d2 d3 e0
  obtain ⟨d0, d1, d2, d3⟩ := lay_cells ((hb1.block _ (block_lt HA1.out)).trans HA1.out)
  have e0 : w1.cell? ⟨b2, 0, none⟩ = some vv := by rw [cell_of_block ((hb1.block _ (block_lt HA2.out)).trans HA2.out)]; rfl
  have hz1 := hb1.size
  have HT1 := Lib.hid (HT.out.below hb1)
  have HV1 := Lib.hid (HV.out.below hb1)
  have HBG := Lib.hid (begin_calls p leaf depth vT vv T v (lp :: M0) w1 HT1.out HV1.out HTL.out)
  have HJ1 : Hid (J [] M0 w1) := Lib.hid (HJ.out _ _ _ _ [] (by simp) H0.out (Upd.ofBelow hb1 []))
  have HM1 : Hid (∀ k, k ∈ M0 → k < w1.heap.size) := Lib.hid (fun k hk => by have := HM.out k hk; omega)
  clear hb1 HC HT HV H0 HM
  gi_wp2
  refine ⟨trivial, rfl, (calls_in HBG.out).mono ?_⟩
  rintro e w2 ⟨q, gh, hv2, hl2', rfl, hw2, hb2⟩
  clear d0 d1 d2 d3 e0 HBG
  have hz2 := hb2.size
  have hq2 := block_lt hw2.hd
  have hgh2 := block_lt hw2.heap.hd
  have hob2 := hw2.heap.row.ob_lt
  have HW2 := Lib.hid hw2
  have HJ2 : Hid (J [] M0 w2) := Lib.hid (HJ.out _ _ _ _ [] (by simp) HJ1.out (Upd.ofBelow hb2 []))
  have HU2 : Hid (Upd (lp :: M0) w1 w2) := Lib.hid (Upd.ofBelow hb2 _)
  have HM2 : Hid (∀ k, k ∈ M0 → k < w2.heap.size ∧ (k ∈ M0 ∨ w1.heap.size ≤ k)) := Lib.hid (fun k hk => ⟨by have := HM1.out k hk; omega, .inl hk⟩)
  have HD2 : Hid (∀ k, k ∈ q :: gh :: ob hv2 → w1.heap.size ≤ k ∧ k < w2.heap.size ∧ k ∉ M0) := Lib.hid (fun k hk => by
    have hkk : w1.heap.size ≤ k ∧ k < w2.heap.size := by
      rcases List.mem_cons.1 hk with rfl | hk
      · exact ⟨hw2.le, hq2⟩
      · rcases List.mem_cons.1 hk with rfl | hk
        · exact ⟨hw2.heap.le, hgh2⟩
        · exact hob2 k hk
    exact ⟨hkk.1, hkk.2, fun hm => by have := HM1.out k hm; omega⟩)
  clear hw2 hb2 hob2 HJ1
  gi_wp2
  gi_loopw [] (fun wr => ∃ (g : Nat) (s : St) (M : List Nat) (pre xs' : List (List Int)) (hv' : Value) (hl' : List Tk), Hid (xs = pre ++ xs') ∧ Hid (LInv T dim v g s xs') ∧ Hid (J pre M wr) ∧ Hid (IsW wr w1.heap.size q gh hv' p leaf depth vT vv s hl') ∧
    Hid (Upd (lp :: M0) w1 wr) ∧ Hid (∀ k, k ∈ M → k < wr.heap.size ∧ (k ∈ M0 ∨ w1.heap.size ≤ k)) ∧ Hid (∀ k, k ∈ q :: gh :: ob hv' → w1.heap.size ≤ k ∧ k < wr.heap.size ∧ k ∉ M)) (fun wr => 1048577 - (intOf ((wr.cell? ⟨q, 6, none⟩).getD undef)).toNat)
  case atStart => exact ⟨g0, _, M0, [], xs, hv2, hl2', Lib.hid (by simp), HINV, HJ2, HW2, HU2, HM2, HD2⟩
  case round =>
    obtain ⟨g, s, M, pre, xs', hv', hl', hxs, hinv, hj, hw, hu, hm, hdj⟩ := hrel
    have hzu := hu.out.size
    by_cases h0 : s.tasks = []
    · have HST := Lib.hid (walk_step_none w1.heap.size q gh hv' p leaf depth _ _ s hl' wr hw.out h0)
      have HX : Hid (xs = pre) := Lib.hid (by have := hxs.out; rw [hinv.out.stop h0] at this; simpa using this)
      have HJE : Hid (∀ W', Below wr.heap.size wr W' → J xs M W') := Lib.hid (fun W' hb => by rw [HX.out]; exact HJ.out _ _ _ _ [] (by simp) hj.out (Upd.ofBelow hb []))
      clear h0 hinv hw hj hu hm hdj
      gi_wp2
      refine ⟨trivial, rfl, (calls_in HST.out).mono ?_⟩
      rintro e wt ⟨rfl, hbt⟩
      have HJT := Lib.hid (HJE.out _ hbt)
      clear hbt
      gi_wp2
      all_goals try (exfalso; rename_i h1 _; simp [undef] at h1; done)
      refine ⟨by first | trivial | exact fun _ _ => trivial, ?_⟩
      go_at_K
      gi_wp2
      all_goals try (exfalso; rename_i h1 _; simp [undef] at h1; done)
      refine ⟨by first | trivial | exact fun _ _ => trivial, ?_⟩
      go_at_K
      gi_wp2
      refine bodyPost_ret (results_none rfl _ _ _) rfl ?_
      exact ⟨⟨_, rfl⟩, M, .inl HJT.out⟩
    · have h0l : 0 < s.tasks.length := by
        cases hts : s.tasks with
        | nil => exact absurd hts h0
        | cons a b => simp
      obtain ⟨trs, k1, k2⟩ := hinv.out.ok
      have k3 := hinv.out.steps
      have k4 := hinv.out.next
      have k5 : s.tasks.length ≤ g := by have := sizes_len trs; have := k1.len; omega
      obtain ⟨g', xs1, hg, hinv', hcase⟩ := hinv.out.step HVB.out h0
      have hsub : ∀ k, k ∈ q :: gh :: ob hv' ++ lp :: M → k ∈ lp :: M0 ∨ w1.heap.size ≤ k := fun k hk => by
        rcases List.mem_append.1 hk with hk | hk
        · exact .inr (hdj.out k hk).1
        · rcases List.mem_cons.1 hk with rfl | hk
          · exact .inl (by simp)
          · rcases (hm.out k hk).2 with h | h
            · exact .inl (by simp [h])
            · exact .inr h
      have HST := Lib.hid (walk_step_some w1.heap.size q gh hv' p leaf depth dim vT vv T v s trs hl' (q :: gh :: ob hv' ++ lp :: M) wr hw.out (HT1.out.upd hu.out (fun k hk => hk) hsub) (HV1.out.upd hu.out (fun k hk => hk) hsub) (by simp) (by simp) (fun k hk => by simp [hk]) hzu k1 HVB.out h0l (by omega) (by omega) (by omega))
      have hcw : wr.cell? ⟨q, 6, none⟩ = some (.int .i64 (s.steps : Int)) := (w_cells hw.out).2.2.2.1
      have HCW := Lib.hid hcw
      have HINV' := Lib.hid hinv'
      have HCASE := Lib.hid hcase
      have hgs : s.steps + g ≤ 1048576 := k3
      have hss := (stepS_num T v s).1
      have HSS := Lib.hid hss
      clear h0 h0l k1 k2 k3 k4 k5 hinv hinv' hcase hsub hcw hss
      gi_wp2
      refine ⟨trivial, rfl, (calls_in HST.out).mono ?_⟩
      rintro e w3 ⟨hv6, hl6, hw6, hu6, hob6, hout⟩
      have hz6 := hu6.size
      have HJ3 : Hid (J pre M w3) := Lib.hid (HJ.out _ _ _ _ (q :: gh :: ob hv') (fun k hk => ⟨by have := (hdj.out k hk).1; omega, (hdj.out k hk).2.2⟩) hj.out hu6)
      have HU3 : Hid (Upd (lp :: M0) w1 w3) := Lib.hid (hu.out.trans' hu6 (fun k hk => .inr (hdj.out k hk).1))
      have HM3 : Hid (∀ k, k ∈ M → k < w3.heap.size ∧ (k ∈ M0 ∨ w1.heap.size ≤ k)) := Lib.hid (fun k hk => ⟨by have := (hm.out k hk).1; omega, (hm.out k hk).2⟩)
      have hrow6 := hw6.heap.row.ob_lt
      have HD3 : Hid (∀ k, k ∈ q :: gh :: ob hv6 → w1.heap.size ≤ k ∧ k < w3.heap.size ∧ k ∉ M) := Lib.hid (fun k hk => by
        have hold : ∀ k, k ∈ q :: gh :: ob hv' → w1.heap.size ≤ k ∧ k < w3.heap.size ∧ k ∉ M := fun k hk => ⟨(hdj.out k hk).1, by have := (hdj.out k hk).2.1; omega, (hdj.out k hk).2.2⟩
        rcases List.mem_cons.1 hk with rfl | hk
        · exact hold _ (by simp)
        · rcases List.mem_cons.1 hk with rfl | hk
          · exact hold _ (by simp)
          · rcases hob6 k hk with h | h
            · exact hold k (by simp [h])
            · exact ⟨(hrow6 k hk).1, (hrow6 k hk).2, fun h2 => by have := (hm.out k h2).1; omega⟩)
      have HW6 := Lib.hid hw6
      rcases hout with ⟨ids, vi, ho, rfl, hat6⟩ | ⟨ho, rfl⟩
      · have hxx : xs' = ids :: xs1 := by
          rcases HCASE.out with ⟨i2, h1, h2⟩ | ⟨h1, h2⟩
          · rw [ho] at h1; cases h1; exact h2
          · rw [ho] at h1; cases h1
        have HXX : Hid (xs = pre ++ ids :: xs1) := Lib.hid (by rw [hxs.out, hxx])
        have HCL := Lib.hid (clone_int_calls vi ids _ w3 hat6 (HSM.out ids (by rw [HXX.out]; simp)))
        obtain ⟨ai, ci, rfl, _, _⟩ := slice_form' hat6
        clear hw6 hu6 hob6 hrow6 ho hat6 hxx hxs hj hw hu hm hdj HST HCASE
        gi_wp2
        refine ⟨trivial, rfl, (calls_in HCL.out).mono ?_⟩
        rintro e w4 ⟨v', rfl, hb4, hrow⟩
        have hz4 := hb4.size
        have hrow1 := hrow.ob_lt
        have hml : ∀ k, k ∈ lp :: M → k < w3.heap.size := by
          intro j hj
          rcases List.mem_cons.1 hj with rfl | hj
          · omega
          · exact (HM3.out j hj).1
        have hval : valInts w4 (lp :: M) ids #[v'] := ⟨v', rfl, (hrow.int_any (M' := lp :: M)).read (fun k hk h2 => by have := (hrow1 k hk).1; have := hml k h2; omega)⟩
        have hj4 : J pre M w4 := HJ.out _ _ _ _ [] (by simp) HJ3.out (Upd.ofBelow hb4 [])
        have HW4 : Hid (IsW w4 w1.heap.size q gh hv6 p leaf depth vT vv (stepS T v s) hl6) := Lib.hid (HW6.out.upd (Upd.ofBelow hb4 []) (by simp) (by simp) (by simp))
        have HU4 : Hid (Upd (lp :: M0) w1 w4) := Lib.hid (HU3.out.trans (Upd.ofBelow hb4 _))
        obtain ⟨fn, tmps, assign, body, hy, hR⟩ := HY.out _ _ _ M w4 _ HXX.out hj4 hval (fun k hk => by have := (HM3.out k hk).1; omega) 0
        clear hval hj4 hrow hrow1 hml hb4
        gi_wp2
        refine ⟨rfl, hR.mono ?_⟩
        rintro e w5 ⟨M', hU5, hM', hcase5⟩
        have hz5 := hU5.size
        have HU5 : Hid (Upd (lp :: M0) w1 w5) := Lib.hid (HU4.out.trans' hU5 (fun k hk => by
          rcases List.mem_cons.1 hk with rfl | hk
          · exact .inl (by simp)
          · rcases (HM3.out k hk).2 with h | h
            · exact .inl (by simp [h])
            · exact .inr h))
        have HM5 : Hid (∀ k, k ∈ M' → k < w5.heap.size ∧ (k ∈ M0 ∨ w1.heap.size ≤ k)) := Lib.hid (fun k hk => ⟨(hM' k hk).1, by
          rcases (hM' k hk).2 with h | h
          · exact (HM3.out k h).2
          · exact .inr (by omega)⟩)
        have hdl : ∀ k, k ∈ q :: gh :: ob hv6 → k ∉ lp :: M := fun k hk h => by
          have h1 := HD3.out k hk
          rcases List.mem_cons.1 h with rfl | h
          · omega
          · exact h1.2.2 h
        have HW5 : Hid (IsW w5 w1.heap.size q gh hv6 p leaf depth vT vv (stepS T v s) hl6) := Lib.hid (HW4.out.upd hU5 (hdl q (by simp)) (hdl gh (by simp)) (fun k hk => hdl k (by simp [hk])))
        have HD5 : Hid (∀ k, k ∈ q :: gh :: ob hv6 → w1.heap.size ≤ k ∧ k < w5.heap.size ∧ k ∉ M') := Lib.hid (fun k hk => by
          have h1 := HD3.out k hk
          refine ⟨h1.1, by omega, fun h => ?_⟩
          rcases (hM' k h).2 with h | h
          · exact h1.2.2 h
          · omega)
        have HCW5 : Hid (w5.cell? ⟨q, 6, none⟩ = some (.int .i64 ((stepS T v s).steps : Int))) := Lib.hid (w_cells HW5.out).2.2.2.1
        rcases hcase5 with ⟨rfl, hj5⟩ | ⟨rfl, hj5⟩
        · have HJ5 := Lib.hid hj5
          clear hU5 hM' hj5 hR hy hdl
          gi_wp2
          go_roundw
          case rel => exact ⟨g', stepS T v s, M', pre ++ [ids], xs1, hv6, hl6, Lib.hid (by rw [HXX.out]; simp), HINV', HJ5, HW5, HU5, HM5, HD5⟩
          case measure =>
            rw [HCW5.out, HCW.out, HSS.out]
            simp [intOf]
            omega
        · have HJ5 := Lib.hid hj5
          clear hU5 hM' hj5 hR hy hdl
          gi_wp2
          refine bodyPost_ret (results_none rfl _ _ _) rfl ?_
          exact ⟨⟨_, rfl⟩, M', .inr ⟨_, by rw [HXX.out]; exact ⟨xs1, by simp⟩, HJ5.out⟩⟩
      · have hxx : xs' = xs1 := by
          rcases HCASE.out with ⟨i2, h1, h2⟩ | ⟨h1, h2⟩
          · rw [ho] at h1; cases h1
          · exact h2
        have HXX : Hid (xs = pre ++ xs1) := Lib.hid (by rw [hxs.out, hxx])
        have HCW5 : Hid (w3.cell? ⟨q, 6, none⟩ = some (.int .i64 ((stepS T v s).steps : Int))) := Lib.hid (w_cells HW6.out).2.2.2.1
        clear hw6 hu6 hob6 hrow6 ho hxx hxs hj hw hu hm hdj HST HCASE
        gi_wp2
        all_goals try (exfalso; rename_i h1 _; simp [undef] at h1; done)
        refine ⟨by first | trivial | exact fun _ _ => trivial, ?_⟩
        go_at_K
        gi_wp2
        all_goals try (exfalso; rename_i h1 _; simp [undef] at h1; done)
        refine ⟨by first | trivial | exact fun _ _ => trivial, ?_⟩
        go_at_K
        gi_wp2
        go_roundw
        case rel => exact ⟨g', stepS T v s, M, pre, xs1, hv6, hl6, HXX, HINV', HJ3, HW6, HU3, HM3, HD3⟩
        case measure =>
          rw [HCW5.out, HCW.out, HSS.out]
          simp [intOf]
          omega

set_option maxHeartbeats 4000000 in
theorem search_leaves_calls (p n : Nat) (dim leaf depth : Int) (flat : List Int) (vT vv : Value) (T : List (List Nd)) (v : List Int) (w : World) (N : List Nat) (hN : ∀ k, k ∈ N → k < w.heap.size) (hpN : p ∉ N) (hi : IsItems w N p dim flat) (hd : 1 ≤ dim) (hn : (flat.length : Int) = n * dim) (h : kNd.slice.slice.At N w [vT] T) (hs : ∀ t ∈ T, TSmall t) (hv : (Kd.int .i32).slice.At N w [vv] v)
    (hT : T.length ≤ 1048576) (hfl : T.flatten.length ≤ 1048576) (xs : List (List Int)) (hxs : xs = if seaCheck n dim leaf depth T v = 0 then leavesS T v T.flatten.length (beginS T) else []) (hsm : ∀ x ∈ xs, x.length ≤ 1099511627776) :
    Calls Try.prog 17 #[.agg #[.pointer (some ⟨p, 0, none⟩), .int .i64 leaf, .int .i64 depth, vT], vv] w fun e w' => ∃ b1 b2, e = .returned (.func (.func 38) #[] #[.pointer (some ⟨b1, 0, none⟩), .pointer (some ⟨b2, 0, none⟩)]) ∧ Below w.heap.size w w' ∧
      ItFrom Try.prog w' N 38 #[.pointer (some ⟨b1, 0, none⟩), .pointer (some ⟨b2, 0, none⟩)] xs valInts := by
  obtain ⟨av, cv, rfl, _, _⟩ := Kd.slice_form hv
  obtain ⟨W1, hW1⟩ : ∃ W1, w.alloc (.cells #[.pointer (some ⟨p, 0, none⟩), .int .i64 leaf, .int .i64 depth, vT] 30) = W1 := ⟨_, rfl⟩
  obtain ⟨W2, hW2⟩ : ∃ W2, W1.alloc (.cells #[.slice av v.length cv] 26) = W2 := ⟨_, rfl⟩
  have hu1 : Upd [] w W1 := by rw [← hW1]; exact Upd.alloc [] w _
  have hu2 : Upd [] W1 W2 := by rw [← hW2]; exact Upd.alloc [] W1 _
  have hz1 := hu1.size
  have ha := upd_far hu2 (show W1.heap[w.heap.size]? = some (.cells #[.pointer (some ⟨p, 0, none⟩), .int .i64 leaf, .int .i64 depth, vT] 30) by rw [← hW1]; exact Go.heap_alloc_new w _) (by simp)
  have hb : W2.heap[W1.heap.size]? = some (.cells #[.slice av v.length cv] 26) := by rw [← hW2]; exact Go.heap_alloc_new W1 _
  have hu := hu1.trans hu2
  have hi2 := hi.below hu.below
  have h2 := h.below hu.below
  have hv2 := hv.below hu.below
  have na : w.heap.size ∉ N := fun hm => by have := hN _ hm; omega
  have nb : W1.heap.size ∉ N := fun hm => by have := hN _ hm; omega
  have HIT : Hid (ItFrom Try.prog W2 N 38 #[.pointer (some ⟨w.heap.size, 0, none⟩), .pointer (some ⟨W1.heap.size, 0, none⟩)] xs valInts) := Lib.hid (by
    by_cases hc : seaCheck n dim leaf depth T v = 0
    · rw [if_pos hc] at hxs
      exact search_leaves_it _ _ p n dim leaf depth flat vT _ T v _ _ W2 ha hb N na nb hpN hi2 hd hn h2 hs hv2 hc hT hfl xs hxs.symm hsm
    · rw [if_neg hc] at hxs
      subst hxs
      exact search_leaves_bad _ _ p n dim leaf depth flat vT _ T v _ _ W2 ha hb N na nb hpN hi2 hd hn h2 hs hv2 hc)
  have HB := Lib.hid hu.below
  clear ha hb hu hi2 h2 hv2 na nb hu1 hu2 hi h hv hs hxs hsm hN hn
  go_enter Try.func17, Try.ntmps17
  go_wp2_with fail
  go_ret
  exact ⟨_, _, rfl, HB.out, HIT.out⟩



theorem leavesS_len (T : List (List Nd)) (v : List Int) : ∀ (g : Nat) (s : St), (leavesS T v g s).length ≤ g
  | 0, s => by simp [leavesS]
  | g + 1, s => by
    have ih := leavesS_len T v g (stepS T v s)
    unfold leavesS
    split
    · simp
    · split
      · simp; omega
      · omega

/-- A law's end: its cell of the result holds b already. -/
theorem RB.finC {t : TypeId} {w0 w wk : World} {b : Bool} (hc : wk.heap[w.heap.size]? = some (.cells #[.bool b] t)) (hb : Below w.heap.size w wk) (h0 : Below w0.heap.size w0 w) {P : Program} {fn : Func} {tmps : Array Value} {p : Tmp} (hr : fn.results = #[.cell p t]) (hu : P.underlying t = some .bool) (hp : tmps.getD p undef = .pointer (some ⟨w.heap.size, 0, none⟩))
    (Ds : List (Nat × Array Value)) (hK : ∀ D ∈ Ds, w.heap.size < D.1 ∧ wk.heap[D.1]? = some (.deferred (some []))) (hn : (Ds.map (·.1)).Nodup) :
    LeavesInM Fence.wide 0 P fn tmps (fun e w' => e = .returned (.bool b) ∧ Below w0.heap.size w0 w') (Ds.map fun D => { target := .collected D.1, args := D.2 }) .returning wk := by
  refine end_m Ds _ (fun D hD => (hK D hD).2) hn (fun W hu2 hz => ?_)
  have hc : W.cell? ⟨w.heap.size, 0, none⟩ = some (.bool b) := by
    rw [cell_of_block (upd_far hu2 hc (fun hm => by
      obtain ⟨D, hD, e⟩ := List.mem_map.1 hm
      have := (hK D hD).1; omega))]; rfl
  refine ⟨_, results_cellb hr hu _ _ hp hc, rfl, ?_⟩
  have hb : Below w.heap.size w W := hb.trans (hu2.belowB hb.size (fun k hk => by
    obtain ⟨D, hD, rfl⟩ := List.mem_map.1 hk
    have := (hK D hD).1; omega))
  exact h0.trans (hb.mono h0.size)

theorem ids_few {T : List (List Nd)} {n dim : Int} {v : List Int} (hv : Bd21 v) (h : ∀ t ∈ T, checkNd t n dim = 0) (hf : ∀ t ∈ T, few t = true) : ∀ x ∈ leavesS T v T.flatten.length (beginS T), x.length ≤ 5000 := fun x hx => by
  have hx := (leaves_perm hv h).subset hx
  obtain ⟨l, hl, hxl⟩ := List.mem_flatten.1 hx
  obtain ⟨t, ht, rfl⟩ := List.mem_map.1 hl
  obtain ⟨nd, hnd, rfl⟩ := List.mem_map.1 hxl
  obtain ⟨_, _, f3⟩ := few_go t 0 0 (hf t ht)
  exact f3 nd (List.mem_filter.1 hnd).1

end Go.Proofs.Ytiplifkbegmeiaa
