/-
The search in plain words: tasks in a row that is looked through; trees as trees. No program stands in this text.
-/
import Derived.Test.YtiplifkbegmeiaaLayC
import Derived.Test.YtiplifkbegmeiaaHeapP
namespace Go.Proofs.Ytiplifkbegmeiaa
set_option linter.unusedVariables false
set_option linter.unusedSimpArgs false
open Go.RowKit

/-! ### Trees -/
inductive Tr where
  | leaf (ids : List Int) : Tr
  | split (p : Pl) (a b : Tr) : Tr
def Tr.size : Tr → Nat
  | .leaf _ => 1
  | .split _ a b => 1 + a.size + b.size
def Tr.leaves : Tr → List (List Int)
  | .leaf ids => [ids]
  | .split _ a b => a.leaves ++ b.leaves
theorem Tr.size_pos (t : Tr) : 0 < t.size := by cases t <;> simp [Tr.size] <;> omega

/-- A tree stands in a list of nodes, from a place on. -/
def Lay (l : List Nd) (dim : Int) : Nat → Tr → Prop
  | at_, .leaf ids => ∃ x, l[at_]? = some x ∧ x.leaf = true ∧ x.ids = ids
  | at_, .split p a b => ∃ x, l[at_]? = some x ∧ x.leaf = false ∧ x.pl = p ∧ planeCheck p dim = 0 ∧ x.left = ((at_ + 1 : Nat) : Int) ∧ Lay l dim (at_ + 1) a ∧ x.right = ((at_ + 1 + a.size : Nat) : Int) ∧ Lay l dim (at_ + 1 + a.size) b

theorem lay_of_go (l : List Nd) (dim : Int) : ∀ (f at_ d : Nat) (v : List (Int × Int)) (e : Nat), treeGo l dim f at_ d = (v, e, true) → ∃ t, Lay l dim at_ t ∧ e = at_ + t.size ∧ leavesOf (l.take e) = leavesOf (l.take at_) ++ t.leaves
  | 0, at_, d, v, e, h => by simp [treeGo] at h
  | f + 1, at_, d, v, e, h => by
    unfold treeGo at h
    cases hx : l[at_]? with
    | none => rw [hx] at h; simp at h
    | some x =>
      rw [hx] at h
      simp only at h
      split at h
      · rename_i hl
        simp only [Prod.mk.injEq] at h
        obtain ⟨_, rfl, _⟩ := h
        refine ⟨.leaf x.ids, ⟨x, hx, hl, rfl⟩, rfl, ?_⟩
        rw [take_snoc' hx, leavesOf, List.filter_append, List.map_append]
        simp [hl, leavesOf, Tr.leaves]
      · rename_i hl
        split at h
        · simp at h
        · rename_i h1
          split at h
          · simp at h
          · rename_i h2
            simp only [Prod.mk.injEq] at h
            obtain ⟨_, h4, h5⟩ := h
            generalize ha : treeGo l dim f (at_ + 1) (d + 1) = ra at *
            obtain ⟨va, ea, oka⟩ := ra
            simp only at h2 h4 h5
            have hoka : oka = true := by
              cases oka with
              | true => rfl
              | false => exact absurd (Or.inl rfl) h2
            subst hoka
            have hr : x.right = (ea : Int) := by
              by_cases h : x.right = (ea : Int)
              · exact h
              · exact absurd (Or.inr h) h2
            generalize hb : treeGo l dim f ea (d + 1) = rb at *
            obtain ⟨vb, eb, okb⟩ := rb
            simp only at h4 h5
            subst h4 h5
            obtain ⟨ta, la, ea1, lva⟩ := lay_of_go l dim f (at_ + 1) (d + 1) va ea ha
            obtain ⟨tb, lb, eb1, lvb⟩ := lay_of_go l dim f ea (d + 1) vb eb hb
            have hleft : x.left = (at_ : Int) + 1 := by
              by_cases h : x.left = (at_ : Int) + 1
              · exact h
              · exact absurd (Or.inr (Or.inr h)) h1
            have hpl : planeCheck x.pl dim = 0 := by
              by_cases h : planeCheck x.pl dim = 0
              · exact h
              · exact absurd (Or.inr (Or.inl h)) h1
            refine ⟨.split x.pl ta tb, ⟨x, hx, by simpa using hl, rfl, hpl, by rw [hleft]; rfl, la, by rw [hr, ea1], by rw [← ea1]; exact lb⟩, ?_, ?_⟩
            · simp only [Tr.size]; omega
            · rw [lvb, lva, take_snoc' hx, leavesOf, List.filter_append, List.map_append]
              simp [hl, leavesOf, Tr.leaves]

/-- A tree that may be is a tree. -/
theorem lay_of_check {l : List Nd} {n dim : Int} (h : checkNd l n dim = 0) : ∃ t, Lay l dim 0 t ∧ t.size = l.length ∧ t.leaves = leavesOf l ∧ 0 ≤ n ∧ covers n (leavesOf l) = true := by
  have hc : covers n (leavesOf l) = true ∧ 0 ≤ n := by
    unfold checkNd at h
    split at h
    · simp at h
    · rename_i h0
      split at h
      · simp at h
      · split at h
        · simp at h
        · split at h
          · simp at h
          · rename_i hc
            exact ⟨by simpa using hc, by omega⟩
  rw [check_same] at h
  unfold refCheck at h
  split at h
  · simp at h
  · split at h
    · simp at h
    · rename_i h1
      split at h
      · simp at h
      · rename_i h2
        generalize ht : treeGo l dim 65 0 0 = r at *
        obtain ⟨v, e, ok⟩ := r
        simp only at h1 h2
        have hok : ok = true := by simpa using h1
        have he : e = l.length := by omega
        subst hok
        obtain ⟨t, ht1, ht2, ht3⟩ := lay_of_go l dim 65 0 0 v e ht
        refine ⟨t, ht1, by omega, ?_, hc.2, hc.1⟩
        rw [he, List.take_length] at ht3
        rw [ht3]
        simp [leavesOf]

/-! ### Whose turn it is -/
def tk00 : Tk := ⟨0, 0, 0, 0⟩
def bestTo (l : List Tk) : Nat → Nat
  | 0 => 0
  | k + 1 => if k = 0 then 0 else if ahead (l.getD k tk00) (l.getD (bestTo l k) tk00) then k else bestTo l k
theorem bestTo_lt (l : List Tk) : ∀ k, 0 < k → bestTo l k < k
  | k + 1, _ => by
    unfold bestTo
    split
    · omega
    · split
      · omega
      · have := bestTo_lt l k (by omega); omega
theorem bestTo_best (l : List Tk) : ∀ k j, j < k → ahead (l.getD j tk00) (l.getD (bestTo l k) tk00) = false
  | k + 1, j, hj => by
    unfold bestTo
    split
    · rename_i h0
      subst h0
      obtain rfl : j = 0 := by omega
      exact ahead_irr _
    · rename_i h0
      split
      · rename_i ha
        by_cases e : j = k
        · subst e; exact ahead_irr _
        · exact ahead_negt _ _ _ (ahead_asym _ _ ha) (bestTo_best l k j (by omega))
      · rename_i ha
        by_cases e : j = k
        · subst e; simpa using ha
        · exact bestTo_best l k j (by omega)

/-! ### The search -/
structure St where
  tasks : List Tk
  steps : Nat
  next : Nat
def bestIx (l : List Tk) : Nat := bestTo l l.length
def nodeOf (T : List (List Nd)) (t : Tk) : Nd := (T.getD t.tree.toNat []).getD t.at_.toNat ⟨false, [], ⟨[], 0⟩, 0, 0⟩
def without (l : List Tk) (b : Nat) : List Tk := l.take b ++ l.drop (b + 1)
def stepS (T : List (List Nd)) (v : List Int) (s : St) : St :=
  let t := s.tasks.getD (bestIx s.tasks) tk00
  let x := nodeOf T t
  if x.leaf then ⟨without s.tasks (bestIx s.tasks), s.steps + 1, s.next⟩
  else ⟨without s.tasks (bestIx s.tasks) ++ [⟨min t.margin (-(marg x.pl v)), s.next, t.tree, x.left⟩, ⟨min t.margin (marg x.pl v), (s.next : Int) + 1, t.tree, x.right⟩], s.steps + 1, s.next + 2⟩
def outS (T : List (List Nd)) (s : St) : Option (List Int) :=
  let x := nodeOf T (s.tasks.getD (bestIx s.tasks) tk00)
  if x.leaf then some x.ids else none

theorem without_perm {l : List Tk} {b : Nat} (hb : b < l.length) : (l.getD b tk00 :: without l b).Perm l := by
  have h : l.getD b tk00 = l[b] := by simp [List.getD_eq_getElem?_getD, hb]
  rw [h]
  unfold without
  have e : l = l.take b ++ l[b] :: l.drop (b + 1) := by
    rw [← List.drop_eq_getElem_cons hb, List.take_append_drop]
  conv => rhs; rw [e]
  exact List.perm_middle.symm

/-- Of tasks that came at unlike times, one alone is first. -/
theorem first_unique {l l' : List Tk} {x : Tk} (hs : l.Pairwise (fun a b => a.seq < b.seq)) (hp : (x :: l').Perm l) (hx : ∀ y, y ∈ l → ahead y x = false) (h0 : 0 < l.length) : x = l.getD (bestIx l) tk00 ∧ l'.Perm (without l (bestIx l)) := by
  have hb := bestTo_lt l l.length h0
  have hbx : bestIx l < l.length := hb
  have hg : l.getD (bestIx l) tk00 = l[bestIx l] := by simp [List.getD_eq_getElem?_getD, hbx]
  have hbm : l[bestIx l] ∈ l := List.getElem_mem hbx
  have hxm : x ∈ l := hp.subset (by simp)
  obtain ⟨i, hi, hix⟩ := List.getElem_of_mem hxm
  have h1 := hx _ hbm
  have h2 : ahead x (l[bestIx l]) = false := by
    have := bestTo_best l l.length i hi
    rw [show bestTo l l.length = bestIx l from rfl, hg] at this
    simpa [List.getD_eq_getElem?_getD, hi, hix] using this
  have hsq := ahead_tie _ _ h2 h1
  have hie : i = bestIx l := by
    rcases Nat.lt_trichotomy i (bestIx l) with h | h | h
    · have := List.pairwise_iff_getElem.1 hs i (bestIx l) hi hbx h
      rw [hix] at this; omega
    · exact h
    · have := List.pairwise_iff_getElem.1 hs (bestIx l) i hbx hi h
      rw [hix] at this; omega
  have hxe : x = l[bestIx l] := by rw [← hix]; congr
  refine ⟨hxe.trans hg.symm, ?_⟩
  have := without_perm hbx
  rw [hg, ← hxe] at this
  exact List.Perm.cons_inv (hp.trans this.symm)

/-- A task, and the tree that begins there. -/
structure TkOk (T : List (List Nd)) (dim : Int) (t : Tk) (tr : Tr) : Prop where
  out : ∃ (k a : Nat) (l : List Nd), t.tree = (k : Int) ∧ t.at_ = (a : Int) ∧ T[k]? = some l ∧ Lay l dim a tr
  lo : -18014398509481984 ≤ t.margin
  hi : t.margin ≤ 9223372036854775807

/-- A search under way: the trees that are left. -/
structure StOk (T : List (List Nd)) (dim : Int) (s : St) (trs : List Tr) : Prop where
  len : trs.length = s.tasks.length
  ok : ∀ (i : Nat) t tr, s.tasks[i]? = some t → trs[i]? = some tr → TkOk T dim t tr
  ord : s.tasks.Pairwise (fun a b => a.seq < b.seq)
  seq : ∀ t ∈ s.tasks, 0 ≤ t.seq ∧ t.seq < (s.next : Int)

def sizes (trs : List Tr) : Nat := (trs.map Tr.size).sum
def leavesAll (trs : List Tr) : List (List Int) := (trs.map Tr.leaves).flatten

theorem tk_node {T : List (List Nd)} {dim : Int} {t : Tk} {tr : Tr} (h : TkOk T dim t tr) : ∃ (k a : Nat) (l : List Nd) (x : Nd), t.tree = (k : Int) ∧ t.at_ = (a : Int) ∧ T[k]? = some l ∧ l[a]? = some x ∧ nodeOf T t = x ∧
    ((x.leaf = true ∧ tr = .leaf x.ids) ∨ (x.leaf = false ∧ ∃ ta tb, tr = .split x.pl ta tb ∧ planeCheck x.pl dim = 0 ∧ x.left = ((a + 1 : Nat) : Int) ∧ Lay l dim (a + 1) ta ∧ x.right = ((a + 1 + ta.size : Nat) : Int) ∧ Lay l dim (a + 1 + ta.size) tb)) := by
  obtain ⟨k, a, l, h1, h2, h3, h4⟩ := h.out
  have hn : ∀ x, l[a]? = some x → nodeOf T t = x := fun x hx => by
    unfold nodeOf
    rw [h1, h2]
    simp [List.getD_eq_getElem?_getD, h3, hx]
  cases tr with
  | leaf ids =>
    obtain ⟨x, hx, hl, rfl⟩ := h4
    exact ⟨k, a, l, x, h1, h2, h3, hx, hn x hx, .inl ⟨hl, rfl⟩⟩
  | split p ta tb =>
    obtain ⟨x, hx, hl, rfl, hp, e1, la, e2, lb⟩ := h4
    exact ⟨k, a, l, x, h1, h2, h3, hx, hn x hx, .inr ⟨hl, ta, tb, rfl, hp, e1, la, e2, lb⟩⟩

end Go.Proofs.Ytiplifkbegmeiaa
