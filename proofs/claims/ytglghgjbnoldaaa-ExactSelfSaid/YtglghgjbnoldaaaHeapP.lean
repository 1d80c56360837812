/-
A heap, in plain words: what Push and Pop do to a row that is a heap. No program stands in this text.
-/
import Derived.Test.YtglghgjbnoldaaaMem
namespace Go.Proofs.Ytglghgjbnoldaaa
set_option linter.unusedVariables false
set_option linter.unusedSectionVars false

section
variable {α : Type} (f : α → α → Bool) (d : α)

/-- None is first of the one that it hangs from. -/
def Good (l : List α) : Prop := ∀ i, 0 < i → i < l.length → f (l.getD i d) (l.getD ((i - 1) / 2) d) = false

def swp (l : List α) (i j : Nat) : List α := (l.set i (l.getD j d)).set j (l.getD i d)

theorem swp_len (l : List α) (i j : Nat) : (swp d l i j).length = l.length := by simp [swp]

theorem getD_set (l : List α) (i j : Nat) (x : α) (hi : i < l.length) : (l.set i x).getD j d = if j = i then x else l.getD j d := by
  simp only [List.getD_eq_getElem?_getD, List.getElem?_set]
  by_cases h : i = j
  · subst h; simp [hi]
  · rw [if_neg h, if_neg (fun e => h e.symm)]

theorem swp_getD (l : List α) (i j k : Nat) (hi : i < l.length) (hj : j < l.length) : (swp d l i j).getD k d = if k = j then l.getD i d else if k = i then l.getD j d else l.getD k d := by
  unfold swp
  rw [getD_set d _ _ _ _ (by simpa using hj), getD_set d _ _ _ _ hi]

theorem swp_perm (l : List α) (i j : Nat) (hi : i < l.length) (hj : j < l.length) : (swp d l i j).Perm l := by
  by_cases hij : i = j
  · subst hij
    have : swp d l i i = l := by
      apply List.ext_getElem?
      intro k
      unfold swp
      simp only [List.getElem?_set, List.length_set, List.getD_eq_getElem?_getD, List.getElem?_eq_getElem hi, Option.getD_some]
      by_cases h : i = k
      · subst h; simp [hi]
      · simp [h]
    rw [this]
  · -- both places are taken out of the row
    have key : ∀ (a b : Nat) (l : List α), a < b → b < l.length → ((l.set a (l.getD b d)).set b (l.getD a d)).Perm l := by
      intro a b l hab hb
      have e1 : l = l.take a ++ l.getD a d :: ((l.drop (a + 1)).take (b - a - 1) ++ l.getD b d :: l.drop (b + 1)) := by
        have h1 : l.drop a = l.getD a d :: l.drop (a + 1) := by
          rw [List.drop_eq_getElem_cons (by omega)]; simp [List.getD_eq_getElem?_getD, List.getElem?_eq_getElem (show a < l.length by omega)]
        have h2 : (l.drop (a + 1)).drop (b - a - 1) = l.getD b d :: l.drop (b + 1) := by
          rw [List.drop_drop, show a + 1 + (b - a - 1) = b by omega, List.drop_eq_getElem_cons hb]; simp [List.getD_eq_getElem?_getD, List.getElem?_eq_getElem hb]
        rw [← h2, List.take_append_drop, ← h1, List.take_append_drop]
      have e2 : (l.set a (l.getD b d)).set b (l.getD a d) = l.take a ++ l.getD b d :: ((l.drop (a + 1)).take (b - a - 1) ++ l.getD a d :: l.drop (b + 1)) := by
        generalize l.getD a d = x at e1 ⊢
        generalize l.getD b d = y at e1 ⊢
        have ha : (l.take a).length = a := by rw [List.length_take]; omega
        have hm : ((l.drop (a + 1)).take (b - a - 1)).length = b - a - 1 := by rw [List.length_take, List.length_drop]; omega
        generalize l.take a = p at e1 ha ⊢
        generalize (l.drop (a + 1)).take (b - a - 1) = q at e1 hm ⊢
        generalize l.drop (b + 1) = r at e1 ⊢
        rw [e1]
        rw [List.set_append_right _ _ (by omega), show a - p.length = 0 by omega, List.set_cons_zero,
          List.set_append_right _ _ (by omega), show b - p.length = (b - a - 1) + 1 by omega, List.set_cons_succ,
          List.set_append_right _ _ (by omega), show b - a - 1 - q.length = 0 by omega, List.set_cons_zero]
      rw [e2]
      conv => rhs; rw [e1]
      refine List.Perm.append_left _ ?_
      refine (List.perm_middle.cons _).trans ?_
      refine (List.Perm.swap _ _ _).trans ?_
      exact (List.perm_middle.symm).cons _
    unfold swp
    rcases Nat.lt_or_gt_of_ne hij with h | h
    · exact key i j l h hj
    · have : (l.set i (l.getD j d)).set j (l.getD i d) = (l.set j (l.getD i d)).set i (l.getD j d) := List.set_comm _ _ (by omega)
      rw [this]
      exact key j i l h hi

/-- On its way up: only k may be first of the one that it hangs from. -/
structure Up (l : List α) (k : Nat) : Prop where
  lt : k < l.length
  ok : ∀ i, 0 < i → i < l.length → i ≠ k → f (l.getD i d) (l.getD ((i - 1) / 2) d) = false
  kid : 0 < k → ∀ c, 0 < c → c < l.length → (c - 1) / 2 = k → f (l.getD c d) (l.getD ((k - 1) / 2) d) = false

theorem Up.done {l : List α} {k : Nat} (h : Up f d l k) (hk : k = 0 ∨ f (l.getD k d) (l.getD ((k - 1) / 2) d) = false) : Good f d l := by
  intro i h0 hi
  by_cases hik : i = k
  · subst hik
    rcases hk with hk | hk
    · omega
    · exact hk
  · exact h.ok i h0 hi hik

theorem Up.step (asym : ∀ a b, f a b = true → f b a = false) (negt : ∀ a b c, f b a = false → f c b = false → f c a = false) {l : List α} {k : Nat} (h : Up f d l k) (h0 : 0 < k) (hk : f (l.getD k d) (l.getD ((k - 1) / 2) d) = true) : Up f d (swp d l k ((k - 1) / 2)) ((k - 1) / 2) := by
  have hlt := h.lt
  have hp : (k - 1) / 2 < l.length := by omega
  refine ⟨by rw [swp_len]; exact hp, fun i hi hil hne => ?_, fun hp0 c hc hcl hcp => ?_⟩
  · rw [swp_len] at hil
    rw [swp_getD d l _ _ _ hlt hp, swp_getD d l _ _ _ hlt hp]
    rw [if_neg hne]
    by_cases hik : i = k
    · subst hik
      rw [if_pos rfl, if_pos rfl]
      exact asym _ _ hk
    · rw [if_neg hik]
      by_cases hpp : (i - 1) / 2 = (k - 1) / 2
      · rw [if_pos hpp]
        have h1 := h.ok i hi hil hik
        rw [hpp] at h1
        exact negt _ _ _ (asym _ _ hk) h1
      · rw [if_neg hpp]
        by_cases hpk : (i - 1) / 2 = k
        · rw [if_pos hpk]
          exact h.kid h0 i hi hil hpk
        · rw [if_neg hpk]
          exact h.ok i hi hil hik
  · rw [swp_len] at hcl
    rw [swp_getD d l _ _ _ hlt hp, swp_getD d l _ _ _ hlt hp]
    have hgp : ((k - 1) / 2 - 1) / 2 ≠ (k - 1) / 2 := by omega
    have hgk : ((k - 1) / 2 - 1) / 2 ≠ k := by omega
    rw [if_neg hgp, if_neg hgk]
    have hcn : c ≠ (k - 1) / 2 := by omega
    rw [if_neg hcn]
    have hpar := h.ok ((k - 1) / 2) hp0 hp (by omega)
    by_cases hck : c = k
    · subst hck
      rw [if_pos rfl]
      exact hpar
    · rw [if_neg hck]
      have h1 := h.ok c hc hcl hck
      rw [hcp] at h1
      exact negt _ _ _ hpar h1

/-- On its way down: only those that hang from k may be first of it. -/
structure Down (l : List α) (k : Nat) : Prop where
  ok : ∀ i, 0 < i → i < l.length → (i - 1) / 2 ≠ k → f (l.getD i d) (l.getD ((i - 1) / 2) d) = false
  kid : 0 < k → ∀ c, 0 < c → c < l.length → (c - 1) / 2 = k → f (l.getD c d) (l.getD ((k - 1) / 2) d) = false

theorem Down.done {l : List α} {k : Nat} (h : Down f d l k) (hk : ∀ c, 0 < c → c < l.length → (c - 1) / 2 = k → f (l.getD c d) (l.getD k d) = false) : Good f d l := by
  intro i h0 hi
  by_cases hik : (i - 1) / 2 = k
  · rw [hik]; exact hk i h0 hi hik
  · exact h.ok i h0 hi hik

theorem Down.step (asym : ∀ a b, f a b = true → f b a = false) {l : List α} {k b : Nat} (h : Down f d l k) (hb0 : 0 < b) (hbl : b < l.length) (hbk : (b - 1) / 2 = k) (hfb : f (l.getD b d) (l.getD k d) = true)
    (hbest : ∀ c, 0 < c → c < l.length → (c - 1) / 2 = k → f (l.getD c d) (l.getD b d) = false) : Down f d (swp d l k b) b := by
  have hk : k < l.length := by omega
  refine ⟨fun i hi hil hne => ?_, fun _ c hc hcl hcb => ?_⟩
  · rw [swp_len] at hil
    rw [swp_getD d l _ _ _ hk hbl, swp_getD d l _ _ _ hk hbl]
    by_cases hib : i = b
    · subst hib
      rw [if_pos rfl, hbk, if_neg (by omega), if_pos rfl]
      exact asym _ _ hfb
    · rw [if_neg hib]
      by_cases hik : i = k
      · subst hik
        rw [if_pos rfl, if_neg hne, if_neg (by omega)]
        exact h.kid hi b hb0 hbl hbk
      · rw [if_neg hik, if_neg hne]
        by_cases hpk : (i - 1) / 2 = k
        · rw [if_pos hpk]
          exact hbest i hi hil hpk
        · rw [if_neg hpk]
          exact h.ok i hi hil hpk
  · rw [swp_len] at hcl
    rw [swp_getD d l _ _ _ hk hbl, swp_getD d l _ _ _ hk hbl]
    rw [if_neg (by omega), if_neg (by omega), hbk, if_neg (by omega), if_pos rfl]
    have := h.ok c hc hcl (by omega)
    rw [hcb] at this
    exact this

/-- The top one: none is first of it. -/
theorem Good.top (negt : ∀ a b c, f b a = false → f c b = false → f c a = false) {l : List α} (h : Good f d l) (irr : ∀ a, f a a = false) : ∀ i, i < l.length → f (l.getD i d) (l.getD 0 d) = false := by
  intro i
  induction i using Nat.strongRecOn with
  | _ i ih =>
    intro hi
    by_cases h0 : i = 0
    · subst h0; exact irr _
    · exact negt _ _ _ (ih ((i - 1) / 2) (by omega) (by omega)) (h i (by omega) hi)

theorem Up.start {l : List α} (h : Good f d l) (x : α) : Up f d (l ++ [x]) l.length := by
  refine ⟨by simp, fun i hi hil hne => ?_, fun h0 c hc hcl hcp => ?_⟩
  · have hil' : i < l.length := by simp at hil; omega
    have e : ∀ j, j < l.length → (l ++ [x]).getD j d = l.getD j d := fun j hj => by simp [List.getD_eq_getElem?_getD, List.getElem?_append_left hj]
    rw [e i hil', e _ (by omega)]
    exact h i hi hil'
  · simp at hcl; omega

/-- Behind Pop's first two statements: the last one stands at the top. -/
theorem Down.start {l : List α} (h : Good f d l) (x : α) (h0 : 0 < l.length) : Down f d ((l.set 0 (l.getD (l.length - 1) d)).take (l.length - 1)) 0 := by
  have e : ∀ j, 0 < j → j < l.length - 1 → ((l.set 0 (l.getD (l.length - 1) d)).take (l.length - 1)).getD j d = l.getD j d := fun j hj hjl => by
    rw [List.getD_eq_getElem?_getD, List.getElem?_take_of_lt hjl, List.getElem?_set_ne (by omega), ← List.getD_eq_getElem?_getD]
  refine ⟨fun i hi hil hne => ?_, fun hh => by omega⟩
  rw [List.length_take, List.length_set] at hil
  rw [e i hi (by omega), e _ (by omega) (by omega)]
  exact h i hi (by omega)
theorem pop_perm {l : List α} (h0 : 0 < l.length) : (l.getD 0 d :: (l.set 0 (l.getD (l.length - 1) d)).take (l.length - 1)).Perm l := by
  cases l with
  | nil => simp at h0
  | cons a r =>
    rcases List.eq_nil_or_concat r with rfl | ⟨q, z, rfl⟩
    · simp
    · rw [List.concat_eq_append]
      have hl : (a :: (q ++ [z])).length - 1 = q.length + 1 := by simp
      rw [hl]
      have hz : (a :: (q ++ [z])).getD (q.length + 1) d = z := by simp [List.getD_eq_getElem?_getD]
      rw [hz]
      simp only [List.set_cons_zero, List.take_succ_cons, List.take_left, List.getD_cons_zero]
      exact (List.perm_append_comm (l₁ := [z]) (l₂ := q)).cons a

end

/-! ### Tasks -/
structure Tk where
  margin : Int
  seq : Int
  tree : Int
  at_ : Int
def ahead (a b : Tk) : Bool := decide (b.margin < a.margin) || (decide (a.margin = b.margin) && decide (a.seq < b.seq))
theorem ahead_asym (a b : Tk) (h : ahead a b = true) : ahead b a = false := by
  simp only [ahead, Bool.or_eq_true, Bool.and_eq_true, decide_eq_true_eq, Bool.or_eq_false_iff, Bool.and_eq_false_iff, decide_eq_false_iff_not] at h ⊢
  omega
theorem ahead_negt (a b c : Tk) (h : ahead b a = false) (h2 : ahead c b = false) : ahead c a = false := by
  simp only [ahead, Bool.or_eq_false_iff, Bool.and_eq_false_iff, decide_eq_false_iff_not] at h h2 ⊢
  omega
theorem ahead_irr (a : Tk) : ahead a a = false := by simp [ahead]
/-- Neither ahead of the other: they came at one time. -/
theorem ahead_tie (a b : Tk) (h : ahead a b = false) (h2 : ahead b a = false) : a.seq = b.seq := by
  simp only [ahead, Bool.or_eq_false_iff, Bool.and_eq_false_iff, decide_eq_false_iff_not] at h h2
  omega

end Go.Proofs.Ytglghgjbnoldaaa
