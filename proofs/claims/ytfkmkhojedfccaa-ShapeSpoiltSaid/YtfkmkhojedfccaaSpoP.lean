/-
A tree that is spoilt is none. No program stands in this text.
-/
import Derived.Test.YtfkmkhojedfccaaTreeG
import Derived.Test.YtfkmkhojedfccaaShapeLaws
import Derived.Test.YtfkmkhojedfccaaPureRec
namespace Go.Proofs.Ytfkmkhojedfccaa
set_option linter.unusedVariables false
set_option linter.unusedSimpArgs false
open Go.RowKit

theorem treeGo_node (l : List Nd) (dim : Int) : ∀ (f a d : Nat) (v : List (Int × Int)) (e : Nat), treeGo l dim f a d = (v, e, true) → ∀ i, a ≤ i → i < e → ∀ x, l[i]? = some x → x.leaf = false →
    x.left = (i : Int) + 1 ∧ ∃ f' d' va mid, treeGo l dim f' (i + 1) d' = (va, mid, true) ∧ x.right = (mid : Int)
  | 0, a, d, v, e, h, _, _, _, _, _, _ => by simp [treeGo] at h
  | f + 1, a, d, v, e, h, i, h1, h2, x, hx, hl => by
    obtain ⟨y, hy, ⟨hyl, _, he, _⟩ | ⟨hyl, hleft, va, mid, vb, ha, hr, hb, _⟩⟩ := treeGo_ok h
    · obtain rfl : i = a := by omega
      rw [hx] at hy
      cases hy
      rw [hl] at hyl
      cases hyl
    · by_cases hia : i = a
      · subst hia
        rw [hx] at hy
        cases hy
        exact ⟨hleft, f, d + 1, va, mid, ha, hr⟩
      · by_cases him : i < mid
        · exact treeGo_node l dim f _ _ _ _ ha i (by omega) him x hx hl
        · exact treeGo_node l dim f _ _ _ _ hb i (by omega) h2 x hx hl

theorem treeGo_det (l : List Nd) (dim : Int) : ∀ (f a d : Nat) (v : List (Int × Int)) (e : Nat), treeGo l dim f a d = (v, e, true) → ∀ (f' d' : Nat) (v' : List (Int × Int)) (e' : Nat), treeGo l dim f' a d' = (v', e', true) → e = e'
  | 0, a, d, v, e, h, _, _, _, _, _ => by simp [treeGo] at h
  | f + 1, a, d, v, e, h, 0, _, _, _, h' => by simp [treeGo] at h'
  | f + 1, a, d, v, e, h, f' + 1, d', v', e', h' => by
    obtain ⟨y, hy, ⟨hyl, _, he, _⟩ | ⟨hyl, hleft, va, mid, vb, ha, hr, hb, _⟩⟩ := treeGo_ok h
    · obtain ⟨z, hz, ⟨hzl, _, he', _⟩ | ⟨hzl, _⟩⟩ := treeGo_ok h'
      · omega
      · rw [hy] at hz; cases hz; rw [hyl] at hzl; cases hzl
    · obtain ⟨z, hz, ⟨hzl, _⟩ | ⟨hzl, _, va', mid', vb', ha', _, hb', _⟩⟩ := treeGo_ok h'
      · rw [hy] at hz; cases hz; rw [hyl] at hzl; cases hzl
      · have e1 := treeGo_det l dim f _ _ _ _ ha _ _ _ _ ha'
        subst e1
        exact treeGo_det l dim f _ _ _ _ hb _ _ _ _ hb'

theorem treeGo_congr (l u : List Nd) (dim : Int) : ∀ (f a d : Nat), (∀ i, a ≤ i → l[i]? = u[i]?) → treeGo l dim f a d = treeGo u dim f a d
  | 0, a, d, _ => rfl
  | f + 1, a, d, h => by
    unfold treeGo
    rw [← h a (Nat.le_refl _)]
    cases hx : l[a]? with
    | none => rfl
    | some x =>
      simp only
      have ih1 := treeGo_congr l u dim f (a + 1) (d + 1) (fun i hi => h i (by omega))
      rw [ih1]
      generalize hA : treeGo u dim f (a + 1) (d + 1) = A
      split
      · rfl
      · split
        · rfl
        · split
          · rfl
          · rename_i h3
            obtain ⟨va, mid, ok⟩ := A
            simp only at h3 ⊢
            have hok : ok = true := by
              cases ok with
              | true => rfl
              | false => exact absurd (Or.inl rfl) h3
            subst hok
            have hlt := treeGo_lt u dim f _ _ _ _ hA
            rw [treeGo_congr l u dim f mid (d + 1) (fun i hi => h i (by omega))]

theorem treeGo_take (l : List Nd) (m : Nat) (dim : Int) : ∀ (f a d : Nat) (v : List (Int × Int)) (e : Nat), treeGo (l.take m) dim f a d = (v, e, true) → treeGo l dim f a d = (v, e, true)
  | 0, a, d, v, e, h => by simp [treeGo] at h
  | f + 1, a, d, v, e, h => by
    unfold treeGo at h ⊢
    cases hx : (l.take m)[a]? with
    | none => rw [hx] at h; simp at h
    | some x =>
      have hx2 : l[a]? = some x := by
        rw [List.getElem?_take] at hx
        split at hx
        · exact hx
        · simp at hx
      rw [hx] at h
      rw [hx2]
      simp only at h ⊢
      split at h
      · rename_i hl
        rw [if_pos hl]
        exact h
      · rename_i hl
        rw [if_neg hl]
        split at h
        · simp at h
        · rename_i h1
          rw [if_neg h1]
          split at h
          · simp at h
          · rename_i h2
            generalize hA : treeGo (l.take m) dim f (a + 1) (d + 1) = A at *
            obtain ⟨va, mid, ok⟩ := A
            simp only at h2 h
            have hok : ok = true := by
              cases ok with
              | true => rfl
              | false => exact absurd (Or.inl rfl) h2
            subst hok
            rw [treeGo_take l m dim f _ _ _ _ hA]
            simp only
            rw [if_neg h2]
            generalize hB : treeGo (l.take m) dim f mid (d + 1) = B at *
            obtain ⟨vb, e', ok'⟩ := B
            simp only [Prod.mk.injEq] at h
            obtain ⟨h3, rfl, rfl⟩ := h
            rw [treeGo_take l m dim f _ _ _ _ hB, ← h3]

structure Valid (l : List Nd) (n dim : Int) : Prop where
  tree : ∃ v, treeGo l dim 65 0 0 = (v, l.length, true)
  bare : ∀ x ∈ l, bareB x dim = true
  ids : ((leavesOf l).flatten.length : Int) = n
theorem valid_of {l : List Nd} {n dim : Int} (h : checkNd l n dim = 0) : Valid l n dim := by
  unfold checkNd at h
  split at h
  · simp at h
  · rename_i hr
    split at h
    · simp at h
    · rename_i ho
      split at h
      · simp at h
      · rename_i hw
        split at h
        · simp at h
        · rename_i hc
          have hT := (whole_tree l dim).1 ⟨by simpa using ho, by simpa using hw⟩
          refine ⟨?_, fun x hx => ?_, ?_⟩
          · generalize treeGo l dim 65 0 0 = t at hT
            obtain ⟨v, e, ok⟩ := t
            simp only at hT
            exact ⟨v, by rw [hT.1, hT.2]⟩
          · by_cases hb : bareB x dim = true
            · exact hb
            · exact absurd (List.any_eq_true.2 ⟨x, hx, by simpa using hb⟩) ho
          · unfold covers at hc
            generalize hg : coversGo n.toNat [] (leavesOf l).flatten = g at hc
            cases g with
            | none => simp at hc
            | some S =>
              have := ((coversGo_spec n.toNat (leavesOf l).flatten [] List.nodup_nil).1 S hg).1
              simp at this hc
              subst this
              omega
theorem check_range {l u : List Nd} {n dim : Int} (h : checkNd l n dim = 0) (hu : ¬ Valid u n dim) : checkNd u n dim = 14 := by
  have hr : ¬ (n < 0 ∨ n > 1048576 ∨ dim < 1 ∨ dim > 1024) := fun hr => by
    unfold checkNd at h
    rw [if_pos hr] at h
    simp at h
  have h0 : checkNd u n dim ≠ 0 := fun h0 => hu (valid_of h0)
  unfold checkNd at h0 ⊢
  rw [if_neg hr] at h0 ⊢
  split
  · rfl
  · rename_i h1
    rw [if_neg h1] at h0
    split
    · rfl
    · rename_i h2
      rw [if_neg h2] at h0
      split
      · rfl
      · rename_i h3
        rw [if_neg h3] at h0
        exact absurd rfl h0

theorem valid_count {l : List Nd} {n dim : Int} (h : Valid l n dim) : 2 * (leavesOf l).length = l.length + 1 := by
  obtain ⟨v, hv⟩ := h.tree
  have := treeGo_count l dim 65 0 0 v _ hv
  rw [List.take_length] at this
  simp only [List.take_zero] at this
  have h0 : (leavesOf ([] : List Nd)).length = 0 := rfl
  omega
theorem set_split {l : List Nd} {k : Nat} {x : Nd} (hx : l[k]? = some x) (y : Nd) : l = l.take k ++ x :: l.drop (k + 1) ∧ l.set k y = l.take k ++ y :: l.drop (k + 1) := by
  obtain ⟨hk, rfl⟩ := List.getElem?_eq_some_iff.1 hx
  refine ⟨?_, ?_⟩
  · rw [← List.drop_eq_getElem_cons hk, List.take_append_drop]
  · rw [List.set_eq_take_append_cons_drop, if_pos hk]
theorem leavesOf_app (a b : List Nd) : leavesOf (a ++ b) = leavesOf a ++ leavesOf b := by unfold leavesOf; rw [List.filter_append, List.map_append]
theorem leavesOf_cons (x : Nd) (b : List Nd) : leavesOf (x :: b) = (if x.leaf then [x.ids] else []) ++ leavesOf b := by
  unfold leavesOf
  cases h : x.leaf <;> simp [h]

/-- What may be done to a node so that no tree is left. -/
inductive Spoils (by_ : Int) (x : Nd) : Nd → Prop where
  | left (h : by_ ≠ 0) : Spoils by_ x { x with left := x.left + by_ }
  | right (h : by_ ≠ 0) : Spoils by_ x { x with right := x.right + by_ }
  | leaf : Spoils by_ x { x with leaf := !x.leaf }
  | ids : Spoils by_ x { x with ids := x.ids ++ [by_] }
  | normal : Spoils by_ x { x with pl := ⟨x.pl.normal ++ [0], x.pl.off⟩ }

theorem bare_leafE {x : Nd} {dim : Int} (hl : x.leaf = true) (h : bareB x dim = true) : x.left = 0 ∧ x.right = 0 ∧ x.pl.normal = [] := by
  unfold bareB at h
  rw [if_pos hl] at h
  simp only [Bool.and_eq_true, beq_iff_eq] at h
  exact ⟨h.1.2, h.2, h.1.1.2⟩
theorem bare_splitE {x : Nd} {dim : Int} (hl : x.leaf = false) (h : bareB x dim = true) : x.ids = [] ∧ planeCheck x.pl dim = 0 := by
  unfold bareB at h
  rw [if_neg (by simp [hl])] at h
  simp only [Bool.and_eq_true, beq_iff_eq, List.isEmpty_iff] at h
  exact h

theorem spoilt_set {l : List Nd} {n dim by_ : Int} {k : Nat} {x y : Nd} (h : checkNd l n dim = 0) (hx : l[k]? = some x) (hs : Spoils by_ x y) : checkNd (l.set k y) n dim = 14 := by
  refine check_range h (fun hu => ?_)
  have hv := valid_of h
  have hk : k < l.length := (List.getElem?_eq_some_iff.1 hx).1
  have hy : (l.set k y)[k]? = some y := by rw [List.getElem?_set_self hk]
  have bx := hv.bare x (List.mem_of_getElem? hx)
  have by' := hu.bare y (List.mem_of_getElem? hy)
  obtain ⟨e1, e2⟩ := set_split hx y
  have c1 := valid_count hv
  have c2 := valid_count hu
  have i1 := hv.ids
  have i2 := hu.ids
  rw [List.length_set] at c2
  obtain ⟨v, ht⟩ := hv.tree
  obtain ⟨w, hw⟩ := hu.tree
  rw [List.length_set] at hw
  have hafter : ∀ i, k + 1 ≤ i → l[i]? = (l.set k y)[i]? := fun i hi => by rw [List.getElem?_set_ne (by omega)]
  cases hs with
  | left hne =>
    cases hl : x.leaf with
    | true =>
      have a1 := (bare_leafE hl bx).1
      have a2 := (bare_leafE (x := { x with left := x.left + by_ }) hl by').1
      simp only at a2
      omega
    | false =>
      have a1 := (treeGo_node l dim 65 0 0 v _ ht k (by omega) hk x hx hl).1
      have a2 := (treeGo_node _ dim 65 0 0 w _ hw k (by omega) hk _ hy hl).1
      simp only at a2
      omega
  | right hne =>
    cases hl : x.leaf with
    | true =>
      have a1 := (bare_leafE hl bx).2.1
      have a2 := (bare_leafE (x := { x with right := x.right + by_ }) hl by').2.1
      simp only at a2
      omega
    | false =>
      obtain ⟨_, f1, d1, va, m1, g1, r1⟩ := treeGo_node l dim 65 0 0 v _ ht k (by omega) hk x hx hl
      obtain ⟨_, f2, d2, vb, m2, g2, r2⟩ := treeGo_node _ dim 65 0 0 w _ hw k (by omega) hk _ hy hl
      rw [treeGo_congr l _ dim f1 (k + 1) d1 hafter] at g1
      have := treeGo_det _ dim f1 _ _ _ _ g1 _ _ _ _ g2
      simp only at r2
      omega
  | leaf =>
    rw [e1, leavesOf_app, leavesOf_cons] at c1
    rw [e2, leavesOf_app, leavesOf_cons] at c2
    simp only at c2
    have hlen := congrArg List.length e1
    cases hl : x.leaf <;> (rw [hl] at c1 c2; simp at c1 c2 hlen; omega)
  | ids =>
    cases hl : x.leaf with
    | true =>
      rw [e1, leavesOf_app, leavesOf_cons, hl] at i1
      rw [e2, leavesOf_app, leavesOf_cons] at i2
      simp only [hl, if_true] at i1 i2
      simp only [List.flatten_append, List.length_append, List.flatten_cons, List.flatten_nil, List.append_nil, List.length_cons, List.length_nil] at i1 i2
      omega
    | false =>
      have a2 := (bare_splitE (x := { x with ids := x.ids ++ [by_] }) hl by').1
      simp at a2
  | normal =>
    cases hl : x.leaf with
    | true =>
      have a2 := (bare_leafE (x := { x with pl := ⟨x.pl.normal ++ [0], x.pl.off⟩ }) hl by').2.2
      simp at a2
    | false =>
      have a1 := (planeCheck_ok (bare_splitE hl bx).2).1
      have a2 := (planeCheck_ok (bare_splitE (x := { x with pl := ⟨x.pl.normal ++ [0], x.pl.off⟩ }) hl by').2).1
      simp at a2
      omega
theorem spoilt_take {l : List Nd} {n dim : Int} {k : Nat} (h : checkNd l n dim = 0) (hk : k < l.length) : checkNd (l.take k) n dim = 14 := by
  refine check_range h (fun hu => ?_)
  obtain ⟨v, ht⟩ := (valid_of h).tree
  obtain ⟨w, hw⟩ := hu.tree
  have := treeGo_det l dim 65 0 0 _ _ ht 65 0 _ _ (treeGo_take l k dim 65 0 0 _ _ hw)
  rw [List.length_take] at this
  omega
theorem spoilt_ne {l : List Nd} {by_ : Int} {k : Nat} {x y : Nd} (hx : l[k]? = some x) (hs : Spoils by_ x y) : l ≠ l.set k y := fun e => by
  have hk : k < l.length := (List.getElem?_eq_some_iff.1 hx).1
  have hy : (l.set k y)[k]? = some y := by rw [List.getElem?_set_self hk]
  rw [← e, hx] at hy
  have hxy : x = y := Option.some.inj hy
  cases hs with
  | left hne => have := congrArg Nd.left hxy; simp at this; omega
  | right hne => have := congrArg Nd.right hxy; simp at this; omega
  | leaf => have := congrArg Nd.leaf hxy; simp at this
  | ids => have := congrArg (fun z => z.ids.length) hxy; simp at this
  | normal => have := congrArg (fun z => z.pl.normal.length) hxy; simp at this

end Go.Proofs.Ytfkmkhojedfccaa
