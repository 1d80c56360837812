/-
The search in plain words: its steps, its beginning; what is gathered.
-/
import Derived.Test.YtiplifkbegmeiaaSeaP
namespace Go.Proofs.Ytiplifkbegmeiaa
set_option linter.unusedVariables false
set_option linter.unusedSimpArgs false
open Go.RowKit

theorem without_erase (l : List Tk) (b : Nat) : without l b = l.eraseIdx b := by
  unfold without
  rw [List.eraseIdx_eq_take_drop_succ]

theorem sum_perm {l l' : List Nat} (h : l.Perm l') : l.sum = l'.sum := by
  induction h with
  | nil => rfl
  | cons x _ ih => simp [ih]
  | swap x y l => simp; omega
  | trans _ _ ih1 ih2 => rw [ih1, ih2]
theorem erase_perm {α : Type} {l : List α} {b : Nat} (hb : b < l.length) : (l[b] :: l.eraseIdx b).Perm l := by
  rw [List.eraseIdx_eq_take_drop_succ]
  have e : l = l.take b ++ l[b] :: l.drop (b + 1) := by
    rw [← List.drop_eq_getElem_cons hb, List.take_append_drop]
  conv => rhs; rw [e]
  exact List.perm_middle.symm
theorem sizes_perm {l l' : List Tr} (h : l.Perm l') : sizes l = sizes l' := sum_perm (h.map _)
theorem leavesAll_perm {l l' : List Tr} (h : l.Perm l') : (leavesAll l).Perm (leavesAll l') := by
  unfold leavesAll
  exact (h.map _).flatten
theorem leavesAll_cons (t : Tr) (l : List Tr) : leavesAll (t :: l) = t.leaves ++ leavesAll l := by simp [leavesAll]
theorem leavesAll_append (a b : List Tr) : leavesAll (a ++ b) = leavesAll a ++ leavesAll b := by simp [leavesAll]
theorem sizes_cons (t : Tr) (l : List Tr) : sizes (t :: l) = t.size + sizes l := by simp [sizes]
theorem sizes_append (a b : List Tr) : sizes (a ++ b) = sizes a + sizes b := by simp [sizes]

/-- One step: of the trees that are left one loses its root. -/
theorem step_ok {T : List (List Nd)} {dim : Int} {v : List Int} {s : St} {trs : List Tr} (hv : Bd21 v) (h : StOk T dim s trs) (h0 : 0 < s.tasks.length) :
    ∃ trs', StOk T dim (stepS T v s) trs' ∧ sizes trs = sizes trs' + 1 ∧ ((∃ ids, outS T s = some ids ∧ (leavesAll trs).Perm (ids :: leavesAll trs')) ∨ (outS T s = none ∧ (leavesAll trs).Perm (leavesAll trs'))) := by
  have hb : bestIx s.tasks < s.tasks.length := bestTo_lt _ _ h0
  generalize hbx : bestIx s.tasks = b at hb
  have hbt : b < trs.length := by rw [h.len]; exact hb
  have hg : s.tasks.getD b tk00 = s.tasks[b] := by simp [List.getD_eq_getElem?_getD, hb]
  have hok := h.ok b _ _ (List.getElem?_eq_getElem hb) (List.getElem?_eq_getElem hbt)
  have hpt := erase_perm hbt
  have hlen : (trs.eraseIdx b).length = (s.tasks.eraseIdx b).length := by rw [List.length_eraseIdx, List.length_eraseIdx, h.len]
  have hokE : ∀ (i : Nat) t tr, (s.tasks.eraseIdx b)[i]? = some t → (trs.eraseIdx b)[i]? = some tr → TkOk T dim t tr := by
    intro i t tr h1 h2
    rw [List.getElem?_eraseIdx] at h1 h2
    split at h1
    · rename_i hi; rw [if_pos hi] at h2; exact h.ok i t tr h1 h2
    · rename_i hi; rw [if_neg hi] at h2; exact h.ok (i + 1) t tr h1 h2
  have hordE : (s.tasks.eraseIdx b).Pairwise (fun a b => a.seq < b.seq) := h.ord.sublist (List.eraseIdx_sublist _ _)
  have hseqE : ∀ t ∈ s.tasks.eraseIdx b, 0 ≤ t.seq ∧ t.seq < (s.next : Int) := fun t ht => h.seq t ((List.eraseIdx_sublist _ _).subset ht)
  obtain ⟨k, a, l, x, e1, e2, hk, hx, hnode, hcase⟩ := tk_node hok
  rcases hcase with ⟨hl, htr⟩ | ⟨hl, ta, tb, htr, hpl, eL, la, eR, lb⟩
  · refine ⟨trs.eraseIdx b, ?_, ?_, .inl ⟨x.ids, ?_, ?_⟩⟩
    · unfold stepS
      simp only [hbx, hg, hnode, hl, if_true]
      rw [without_erase]
      exact ⟨hlen, hokE, hordE, hseqE⟩
    · rw [← sizes_perm hpt, sizes_cons, htr]; simp [Tr.size]; omega
    · unfold outS
      simp only [hbx, hg, hnode, hl, if_true]
    · refine (leavesAll_perm hpt).symm.trans ?_
      rw [leavesAll_cons, htr]
      exact List.Perm.refl _
  · have hmb := marg_bd hpl hv
    refine ⟨trs.eraseIdx b ++ [ta, tb], ?_, ?_, .inr ⟨?_, ?_⟩⟩
    · unfold stepS
      simp only [hbx, hg, hnode, hl, Bool.false_eq_true, if_false]
      rw [without_erase]
      refine ⟨by simp [hlen], fun i t tr h1 h2 => ?_, ?_, fun t ht => ?_⟩
      · by_cases hi : i < (s.tasks.eraseIdx b).length
        · rw [List.getElem?_append_left hi] at h1
          rw [List.getElem?_append_left (by rw [hlen]; exact hi)] at h2
          exact hokE i t tr h1 h2
        · rw [List.getElem?_append_right (by omega)] at h1
          rw [List.getElem?_append_right (by rw [hlen]; omega), hlen] at h2
          have hlo := hok.lo
          have hhi := hok.hi
          match hj : i - (s.tasks.eraseIdx b).length, h1, h2 with
          | 0, h1, h2 =>
            simp at h1 h2
            subst h1 h2
            exact ⟨⟨k, a + 1, l, e1, eL, hk, la⟩, by simp only; omega, by simp only; omega⟩
          | 1, h1, h2 =>
            simp at h1 h2
            subst h1 h2
            exact ⟨⟨k, a + 1 + ta.size, l, e1, eR, hk, lb⟩, by simp only; omega, by simp only; omega⟩
          | j + 2, h1, h2 => simp at h1
      · rw [List.pairwise_append]
        refine ⟨hordE, by simp; omega, fun p hp q hq => ?_⟩
        have := hseqE p hp
        simp at hq
        rcases hq with rfl | rfl <;> simp only <;> omega
      · rcases List.mem_append.1 ht with ht | ht
        · have := hseqE t ht; simp only; omega
        · simp at ht
          rcases ht with rfl | rfl <;> simp only <;> omega
    · rw [← sizes_perm hpt, sizes_cons, htr, sizes_append]; simp [sizes, Tr.size]; omega
    · unfold outS
      simp only [hbx, hg, hnode, hl, Bool.false_eq_true, if_false]
    · refine (leavesAll_perm hpt).symm.trans ?_
      rw [leavesAll_cons, htr, leavesAll_append]
      refine List.perm_append_comm.trans ?_
      simp [leavesAll, Tr.leaves]

/-! ### The beginning -/
def beginTo : Nat → List Tk
  | 0 => []
  | k + 1 => beginTo k ++ [⟨9223372036854775807, (k : Int), (k : Int), 0⟩]
def beginS (T : List (List Nd)) : St := ⟨beginTo T.length, 0, T.length⟩
theorem beginTo_len : ∀ k, (beginTo k).length = k
  | 0 => rfl
  | k + 1 => by simp [beginTo, beginTo_len k]
theorem beginTo_get : ∀ (k i : Nat), i < k → (beginTo k)[i]? = some ⟨9223372036854775807, (i : Int), (i : Int), 0⟩
  | k + 1, i, h => by
    unfold beginTo
    by_cases hi : i < k
    · rw [List.getElem?_append_left (by rw [beginTo_len]; exact hi)]; exact beginTo_get k i hi
    · obtain rfl : i = k := by omega
      rw [List.getElem?_append_right (by rw [beginTo_len]; exact Nat.le_refl _), beginTo_len]; simp

theorem begin_ok {T : List (List Nd)} {n dim : Int} (h : ∀ t ∈ T, checkNd t n dim = 0) : ∃ trs, StOk T dim (beginS T) trs ∧ sizes trs = T.flatten.length ∧ leavesAll trs = (T.map leavesOf).flatten ∧ ∀ (i : Nat) tr, trs[i]? = some tr → ∃ t, T[i]? = some t ∧ tr.size = t.length ∧ tr.leaves = leavesOf t := by
  have hc : ∃ trs : List Tr, trs.length = T.length ∧ ∀ (i : Nat) t tr, T[i]? = some t → trs[i]? = some tr → Lay t dim 0 tr ∧ tr.size = t.length ∧ tr.leaves = leavesOf t :=
    choose_list T (fun i t tr => Lay t dim 0 tr ∧ tr.size = t.length ∧ tr.leaves = leavesOf t) (fun i t ht => by
      obtain ⟨tr, h1, h2, h3, _⟩ := lay_of_check (h t (List.mem_of_getElem? ht))
      exact ⟨tr, h1, h2, h3⟩)
  obtain ⟨trs, hl, hp⟩ := hc
  have hget : ∀ (i : Nat) tr, trs[i]? = some tr → ∃ t, T[i]? = some t ∧ Lay t dim 0 tr ∧ tr.size = t.length ∧ tr.leaves = leavesOf t := fun i tr htr => by
    have hi := (List.getElem?_eq_some_iff.1 htr).1
    exact ⟨T[i], List.getElem?_eq_getElem (by omega), hp i _ _ (List.getElem?_eq_getElem (by omega)) htr⟩
  have e1 : trs.map Tr.size = T.map List.length := by
    apply List.ext_getElem?
    intro i
    rw [List.getElem?_map, List.getElem?_map]
    cases htr : trs[i]? with
    | none =>
      have : T[i]? = none := by rw [List.getElem?_eq_none_iff] at htr ⊢; omega
      rw [this]; rfl
    | some tr =>
      obtain ⟨t, ht, _, h2, _⟩ := hget i tr htr
      rw [ht]; simp [h2]
  have e2 : trs.map Tr.leaves = T.map leavesOf := by
    apply List.ext_getElem?
    intro i
    rw [List.getElem?_map, List.getElem?_map]
    cases htr : trs[i]? with
    | none =>
      have : T[i]? = none := by rw [List.getElem?_eq_none_iff] at htr ⊢; omega
      rw [this]; rfl
    | some tr =>
      obtain ⟨t, ht, _, _, h3⟩ := hget i tr htr
      rw [ht]; simp [h3]
  refine ⟨trs, ⟨by simp [beginS, beginTo_len, hl], fun i t tr h1 h2 => ?_, ?_, fun t ht => ?_⟩, ?_, ?_, fun i tr h => ?_⟩
  · have hi := (List.getElem?_eq_some_iff.1 h2).1
    have := beginTo_get T.length i (by omega)
    simp only [beginS] at h1
    rw [this] at h1
    cases h1
    obtain ⟨t', ht', hlay, _⟩ := hget i tr h2
    exact ⟨⟨i, 0, t', rfl, rfl, ht', hlay⟩, by simp only; omega, by simp only; omega⟩
  · rw [List.pairwise_iff_getElem]
    intro i j hi hj hij
    simp only [beginS, beginTo_len] at hi hj
    have a1 := beginTo_get T.length i hi
    have a2 := beginTo_get T.length j hj
    obtain ⟨_, b1⟩ := List.getElem?_eq_some_iff.1 a1
    obtain ⟨_, b2⟩ := List.getElem?_eq_some_iff.1 a2
    simp only [beginS]
    rw [b1, b2]
    simp only
    omega
  · simp only [beginS] at ht ⊢
    obtain ⟨i, hi, rfl⟩ := List.getElem_of_mem ht
    rw [beginTo_len] at hi
    obtain ⟨_, b1⟩ := List.getElem?_eq_some_iff.1 (beginTo_get T.length i hi)
    rw [b1]
    simp only
    omega
  · unfold sizes; rw [e1, List.length_flatten]
  · unfold leavesAll; rw [e2]
  · obtain ⟨t, h1, _, h2, h3⟩ := hget i tr h
    exact ⟨t, h1, h2, h3⟩

/-! ### What is gathered -/
def metAdd (n : Nat) (S : List Int) (ids : List Int) : List Int := ids.foldl (fun S id => if addsTo n S id then S ++ [id] else S) S
def metOut (T : List (List Nd)) (n : Nat) (s : St) (S : List Int) : List Int := match outS T s with | some ids => metAdd n S ids | none => S
def gatherS (T : List (List Nd)) (v : List Int) (n : Nat) (limit : Int) : Nat → St → List Int → St × List Int
  | 0, s, S => (s, S)
  | f + 1, s, S => if limit ≤ (S.length : Int) ∨ s.tasks = [] then (s, S) else gatherS T v n limit f (stepS T v s) (metOut T n s S)

end Go.Proofs.Ytiplifkbegmeiaa
