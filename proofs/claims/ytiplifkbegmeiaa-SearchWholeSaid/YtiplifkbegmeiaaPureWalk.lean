/-
Plain laws of trees: what Walk tells, the depths, how many leaves.
-/
import Derived.Test.YtiplifkbegmeiaaDepth
import Derived.Test.YtiplifkbegmeiaaPure14
import Derived.Test.YtiplifkbegmeiaaShapeLaws
namespace Go.Proofs.Ytiplifkbegmeiaa
set_option linter.unusedVariables false
set_option linter.unusedSimpArgs false
open Go.RowKit

/-- A tree that stands: its root is there, and of a split both children do. -/
theorem treeGo_ok {l : List Nd} {dim : Int} {f at_ d : Nat} {v : List (Int × Int)} {e : Nat} (h : treeGo l dim (f + 1) at_ d = (v, e, true)) :
    ∃ x, l[at_]? = some x ∧ ((x.leaf = true ∧ v = [((at_ : Int), (d : Int))] ∧ e = at_ + 1 ∧ leafOk x = true) ∨
      (x.leaf = false ∧ x.left = (at_ : Int) + 1 ∧ ∃ va mid vb, treeGo l dim f (at_ + 1) (d + 1) = (va, mid, true) ∧ x.right = (mid : Int) ∧ treeGo l dim f mid (d + 1) = (vb, e, true) ∧ v = ((at_ : Int), (d : Int)) :: (va ++ vb))) := by
  unfold treeGo at h
  cases hx : l[at_]? with
  | none => simp [hx] at h
  | some x =>
    refine ⟨x, rfl, ?_⟩
    simp only [hx] at h
    split at h
    · rename_i hl
      simp only [Prod.mk.injEq] at h
      exact .inl ⟨hl, h.1.symm, h.2.1.symm, h.2.2⟩
    · rename_i hl
      split at h
      · simp at h
      · rename_i h1
        split at h
        · simp at h
        · rename_i h2
          generalize ha : treeGo l dim f (at_ + 1) (d + 1) = a at *
          obtain ⟨va, mid, oka⟩ := a
          generalize hb : treeGo l dim f mid (d + 1) = b at *
          obtain ⟨vb, e', okb⟩ := b
          simp only [Prod.mk.injEq] at h h2
          have hoka : oka = true := by cases oka <;> simp_all
          have hr : x.right = (mid : Int) := by
            rcases Classical.em (x.right = (mid : Int)) with q | q
            · exact q
            · exact absurd (.inr q) h2
          obtain ⟨q1, q2, q3⟩ := h
          subst hoka q2 q3
          refine .inr ⟨by simpa using hl, ?_, va, mid, vb, rfl, hr, by rw [← hb], by rw [← q1]; simp⟩
          rcases Classical.em (x.left = (at_ : Int) + 1) with q | q
          · exact q
          · exact absurd (.inr (.inr q)) h1

theorem treeGo_lt (l : List Nd) (dim : Int) : ∀ (f at_ d : Nat) (v : List (Int × Int)) (e : Nat), treeGo l dim f at_ d = (v, e, true) → at_ < e ∧ e ≤ l.length
  | 0, at_, d, v, e, h => by simp [treeGo] at h
  | f + 1, at_, d, v, e, h => by
    obtain ⟨x, hx, ⟨_, _, rfl, _⟩ | ⟨_, _, va, mid, vb, ha, _, hb, _⟩⟩ := treeGo_ok h
    · have := (List.getElem?_eq_some_iff.1 hx).1; omega
    · have h1 := treeGo_lt l dim f _ _ _ _ ha
      have h2 := treeGo_lt l dim f _ _ _ _ hb
      omega

theorem treeGo_walk (l : List Nd) (dim : Int) : ∀ (f at_ d : Nat) (v : List (Int × Int)) (e : Nat), treeGo l dim f at_ d = (v, e, true) → ∀ (R R' : List (Int × Int)) (d' : Int), popAt at_ R' d' = ((d : Int), R) →
    (∀ r, R.getLast? = some r → (e : Int) ≤ r.1) → ∃ d'', walkGo (l.drop at_) at_ R' d' = v ++ walkGo (l.drop e) e R d''
  | 0, at_, d, v, e, h => by simp [treeGo] at h
  | f + 1, at_, d, v, e, h => by
    intro R R' d' hp hR
    obtain ⟨x, hx, ⟨hl, rfl, rfl, _⟩ | ⟨hl, _, va, mid, vb, ha, hr, hb, rfl⟩⟩ := treeGo_ok h
    · exact ⟨d, by rw [drop_at hx, walkGo_cons hp, if_pos hl]; rfl⟩
    · have h1 := treeGo_lt l dim f _ _ _ _ ha
      have h2 := treeGo_lt l dim f _ _ _ _ hb
      obtain ⟨da, ka⟩ := treeGo_walk l dim f _ _ _ _ ha (R ++ [(x.right, (d : Int) + 1)]) (R ++ [(x.right, (d : Int) + 1)]) ((d : Int) + 1) (popAt_ne (r := (x.right, (d : Int) + 1)) (by simp only; omega)) (by
        intro r hr'
        simp at hr'
        subst hr'
        simp only; omega)
      obtain ⟨db, kb⟩ := treeGo_walk l dim f _ _ _ _ hb R (R ++ [(x.right, (d : Int) + 1)]) da (popAt_eq (r := (x.right, (d : Int) + 1)) hr) hR
      refine ⟨db, ?_⟩
      rw [drop_at hx, walkGo_cons hp, if_neg (by simp [hl]), ka, kb]
      simp

/-- What Walk tells of a tree is what the document's Tree tells. -/
theorem walkOf_tree {l : List Nd} {dim : Int} (h : (treeGo l dim 65 0 0).2.2 = true) (he : (treeGo l dim 65 0 0).2.1 = l.length) : walkOf l = (treeGo l dim 65 0 0).1 := by
  generalize ht : treeGo l dim 65 0 0 = t at *
  obtain ⟨v, e, ok⟩ := t
  simp only at h he ⊢
  subst h he
  obtain ⟨d, hd⟩ := treeGo_walk l dim 65 0 0 v _ ht [] [] 0 rfl (by simp)
  rw [List.drop_zero, List.drop_length] at hd
  unfold walkOf
  rw [hd]
  simp [walkGo]

/-- The depths of what is told. -/
theorem treeGo_depth (l : List Nd) (dim : Int) : ∀ (f at_ d : Nat) (v : List (Int × Int)) (e : Nat), treeGo l dim f at_ d = (v, e, true) → ∀ p ∈ v, (d : Int) ≤ p.2 ∧ (at_ : Int) ≤ p.1 ∧ p.1 < (e : Int) ∧ (p.2 = (d : Int) ↔ p.1 = (at_ : Int))
  | 0, at_, d, v, e, h => by simp [treeGo] at h
  | f + 1, at_, d, v, e, h => by
    intro p hp
    obtain ⟨x, hx, ⟨hl, rfl, rfl, _⟩ | ⟨hl, _, va, mid, vb, ha, hr, hb, rfl⟩⟩ := treeGo_ok h
    · simp at hp
      subst hp
      simp; omega
    · have h1 := treeGo_lt l dim f _ _ _ _ ha
      have h2 := treeGo_lt l dim f _ _ _ _ hb
      rcases List.mem_cons.1 hp with rfl | hp
      · simp; omega
      · rcases List.mem_append.1 hp with hp | hp
        · have := treeGo_depth l dim f _ _ _ _ ha p hp
          omega
        · have := treeGo_depth l dim f _ _ _ _ hb p hp
          omega

theorem treeGo_count (l : List Nd) (dim : Int) : ∀ (f at_ d : Nat) (v : List (Int × Int)) (e : Nat), treeGo l dim f at_ d = (v, e, true) → 2 * (leavesOf (l.take e)).length = 2 * (leavesOf (l.take at_)).length + (e - at_) + 1
  | 0, at_, d, v, e, h => by simp [treeGo] at h
  | f + 1, at_, d, v, e, h => by
    obtain ⟨x, hx, ⟨hl, rfl, rfl, _⟩ | ⟨hl, _, va, mid, vb, ha, hr, hb, rfl⟩⟩ := treeGo_ok h
    · rw [take_snoc' hx, leavesOf_snoc, if_pos hl]
      simp; omega
    · have h1 := treeGo_lt l dim f _ _ _ _ ha
      have h2 := treeGo_lt l dim f _ _ _ _ hb
      have k1 := treeGo_count l dim f _ _ _ _ ha
      have k2 := treeGo_count l dim f _ _ _ _ hb
      rw [take_snoc' hx, leavesOf_snoc, if_neg (by simp [hl])] at k1
      omega

/-- All that the law ShapeLeaves asks of a tree. -/
theorem tree_facts {l : List Nd} {n dim : Int} (h : checkNd l n dim = 0) : ∃ x, l[0]? = some x ∧ 0 ≤ n ∧ (l.length : Int) = 2 * (leavesOf l).length - 1 ∧ (decide ((l.length : Int) = 1) = x.leaf) ∧ ((leavesOf l).flatten.length : Int) = n ∧
    (x.leaf = true → walkOf l = [(0, 0)]) ∧ (x.leaf = false → x.left = 1 ∧ 2 ≤ x.right ∧ x.right < (l.length : Int) ∧ ∀ p ∈ walkOf l, (p.2 = 0 ↔ p.1 = 0) ∧ (p.1 = 1 → p.2 = 1) ∧ (p.1 = x.right → p.2 = 1)) := by
  unfold checkNd at h
  split at h
  · simp at h
  · rename_i hr
    split at h
    · simp at h
    · rename_i ho
      split at h
      · simp at h
      · rename_i hw
        split at h
        · simp at h
        · rename_i hc
          have hT := (whole_tree l dim).1 ⟨by simpa using ho, by simpa using hw⟩
          have hwalk := walkOf_tree hT.1 hT.2
          generalize ht : treeGo l dim 65 0 0 = t at *
          obtain ⟨v, e, ok⟩ := t
          simp only at hT hwalk
          obtain ⟨rfl, rfl⟩ := hT
          have hcount := treeGo_count l dim 65 0 0 v _ ht
          simp only [List.take_length, List.take_zero] at hcount
          have hl0 : (leavesOf ([] : List Nd)).length = 0 := rfl
          have hlen : (l.length : Int) = 2 * (leavesOf l).length - 1 := by omega
          have hcov : ((leavesOf l).flatten.length : Int) = n := by
            unfold covers at hc
            generalize hg : coversGo n.toNat [] (leavesOf l).flatten = g at hc
            cases g with
            | none => simp at hc
            | some S =>
              have := ((coversGo_spec n.toNat (leavesOf l).flatten [] List.nodup_nil).1 S hg).1
              simp at this hc
              subst this
              omega
          obtain ⟨x, hx, hcase⟩ := treeGo_ok ht
          refine ⟨x, hx, by omega, hlen, ?_, hcov, ?_, ?_⟩
          · rcases hcase with ⟨hl, _, h1, _⟩ | ⟨hl, _, va, mid, vb, ha, _, hb, _⟩
            · rw [hl]; simp; omega
            · have h1 := treeGo_lt l dim 64 _ _ _ _ ha
              have h2 := treeGo_lt l dim 64 _ _ _ _ hb
              rw [hl]; simp; omega
          · intro hl
            rcases hcase with ⟨_, h1, _⟩ | ⟨hl', _⟩
            · rw [hwalk, h1]; rfl
            · rw [hl] at hl'; cases hl'
          · intro hl
            rcases hcase with ⟨hl', _⟩ | ⟨_, hleft, va, mid, vb, ha, hr, hb, hv⟩
            · rw [hl] at hl'; cases hl'
            · have h1 := treeGo_lt l dim 64 _ _ _ _ ha
              have h2 := treeGo_lt l dim 64 _ _ _ _ hb
              refine ⟨by simpa using hleft, by omega, by omega, fun p hp => ?_⟩
              rw [hwalk, hv] at hp
              rcases List.mem_cons.1 hp with rfl | hp
              · simp; omega
              · rcases List.mem_append.1 hp with hp | hp
                · have := treeGo_depth l dim 64 _ _ _ _ ha p hp
                  omega
                · have := treeGo_depth l dim 64 _ _ _ _ hb p hp
                  omega

end Go.Proofs.Ytiplifkbegmeiaa
