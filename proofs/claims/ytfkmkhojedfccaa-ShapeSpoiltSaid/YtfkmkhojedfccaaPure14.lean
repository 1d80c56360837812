/-
Plain laws of layer 14: shape.Check is the document's Check. No walk stands here.
-/
import Derived.Test.YtfkmkhojedfccaaRefC
namespace Go.Proofs.Ytfkmkhojedfccaa
set_option linter.unusedVariables false
set_option linter.unusedSimpArgs false
open Go.RowKit

theorem wholeGo_prev (rest : List Nd) (at_ : Nat) (R : List (Int × Int)) (d d' : Int) : wholeGo rest at_ true R d = wholeGo rest at_ true R d' := by
  cases rest <;> simp [wholeGo]
theorem wholeGo_pop (rest : List Nd) (at_ : Nat) (R : List (Int × Int)) (r : Int × Int) (d : Int) :
    wholeGo rest at_ true (R ++ [r]) d = if rest = [] then false else if r.1 = (at_ : Int) then wholeGo rest at_ false R r.2 else false := by
  cases rest with
  | nil => simp [wholeGo]
  | cons x rest =>
    by_cases h : r.1 = (at_ : Int)
    · simp [wholeGo, h]
    · simp [wholeGo, h]
theorem wholeGo_leaf {x : Nd} {rest : List Nd} {at_ : Nat} {R : List (Int × Int)} {d : Int} (hd : d ≤ 64) (hx : x.leaf = true) : wholeGo (x :: rest) at_ false R d = wholeGo rest (at_ + 1) true R d := by
  have : ¬ 64 < d := by omega
  simp [wholeGo, this, hx]
theorem wholeGo_split {x : Nd} {rest : List Nd} {at_ : Nat} {R : List (Int × Int)} {d : Int} (hd : d ≤ 64) (hx : x.leaf = false) :
    wholeGo (x :: rest) at_ false R d = if x.left = (at_ : Int) + 1 then wholeGo rest (at_ + 1) false (R ++ [(x.right, d + 1)]) (d + 1) else false := by
  have : ¬ 64 < d := by omega
  simp [wholeGo, this, hx]

theorem bare_leaf {x : Nd} {dim : Int} (hx : x.leaf = true) : bareB x dim = leafOk x := by
  unfold bareB leafOk
  rw [if_pos hx]
  cases h : x.pl.normal <;> simp [Bool.and_comm, Bool.and_left_comm, Bool.and_assoc]
theorem bare_split {x : Nd} {dim : Int} (hx : x.leaf = false) : bareB x dim = true ↔ ¬ 0 < x.ids.length ∧ planeCheck x.pl dim = 0 := by
  unfold bareB
  rw [if_neg (by simp [hx])]
  cases h : x.ids <;> simp

theorem drop_at {l : List Nd} {k : Nat} {x : Nd} (hx : l[k]? = some x) : l.drop k = x :: l.drop (k + 1) := by
  obtain ⟨h1, h2⟩ := List.getElem?_eq_some_iff.1 hx
  rw [List.drop_eq_getElem_cons h1, h2]

/-- What the tree says, of the nodes that are told and of the stack of rights. -/
theorem tree_whole (l : List Nd) (dim : Int) : ∀ (f at_ d : Nat) (R : List (Int × Int)), f + d = 65 →
    ((treeGo l dim f at_ d).2.2 = true → wholeGo (l.drop at_) at_ false R d = wholeGo (l.drop (treeGo l dim f at_ d).2.1) (treeGo l dim f at_ d).2.1 true R 0 ∧ at_ < (treeGo l dim f at_ d).2.1 ∧
      ∀ (i : Nat) x, at_ ≤ i → i < (treeGo l dim f at_ d).2.1 → l[i]? = some x → bareB x dim = true) ∧
    ((treeGo l dim f at_ d).2.2 = false → (∃ (i : Nat) (x : Nd), l[i]? = some x ∧ bareB x dim = false) ∨ wholeGo (l.drop at_) at_ false R d = false) := by
  intro f
  induction f with
  | zero =>
    intro at_ d R hf
    refine ⟨by simp [treeGo], fun _ => .inr ?_⟩
    have hd : (64 : Int) < (d : Int) := by omega
    cases l.drop at_ with
    | nil => simp [wholeGo]
    | cons x rest => simp [wholeGo, hd]
  | succ f ih =>
    intro at_ d R hf
    have hd : (d : Int) ≤ 64 := by omega
    cases hx : l[at_]? with
    | none =>
      have e : treeGo l dim (f + 1) at_ d = ([], 0, false) := by unfold treeGo; rw [hx]
      rw [e]
      refine ⟨by simp, fun _ => .inr ?_⟩
      have : l.drop at_ = [] := List.drop_eq_nil_of_le (by simpa using hx)
      rw [this]
      simp [wholeGo]
    | some x =>
      have e : treeGo l dim (f + 1) at_ d = if x.leaf then ([((at_ : Int), (d : Int))], at_ + 1, leafOk x)
        else if 0 < x.ids.length ∨ planeCheck x.pl dim ≠ 0 ∨ x.left ≠ (at_ : Int) + 1 then ([], 0, false)
        else
          let a := treeGo l dim f (at_ + 1) (d + 1)
          if a.2.2 = false ∨ x.right ≠ (a.2.1 : Int) then ([], 0, false)
          else
            let b := treeGo l dim f a.2.1 (d + 1)
            ([((at_ : Int), (d : Int))] ++ a.1 ++ b.1, b.2.1, b.2.2) := by
        conv => lhs; unfold treeGo
        rw [hx]
      rw [e, drop_at hx]
      cases hl : x.leaf with
      | true =>
        simp only [if_true]
        rw [wholeGo_leaf hd hl]
        refine ⟨fun h => ⟨wholeGo_prev _ _ _ _ _, by omega, fun i y h1 h2 h3 => ?_⟩, fun h => .inl ⟨at_, x, hx, by rw [bare_leaf hl]; exact h⟩⟩
        obtain rfl : i = at_ := by omega
        rw [hx] at h3; cases h3
        rw [bare_leaf hl]; exact h
      | false =>
        simp only [Bool.false_eq_true, if_false]
        rw [wholeGo_split hd hl]
        by_cases h1 : 0 < x.ids.length ∨ planeCheck x.pl dim ≠ 0 ∨ x.left ≠ (at_ : Int) + 1
        · rw [if_pos h1]
          refine ⟨by simp, fun _ => ?_⟩
          rcases h1 with h1 | h1 | h1
          · exact .inl ⟨at_, x, hx, by rw [Bool.eq_false_iff]; intro hb; exact (bare_split hl).1 hb |>.1 h1⟩
          · exact .inl ⟨at_, x, hx, by rw [Bool.eq_false_iff]; intro hb; exact h1 ((bare_split hl).1 hb).2⟩
          · exact .inr (by rw [if_neg h1])
        · rw [if_neg h1]
          have hleft : x.left = (at_ : Int) + 1 := by
            by_cases h : x.left = (at_ : Int) + 1
            · exact h
            · exact absurd (Or.inr (Or.inr h)) h1
          have hbare : bareB x dim = true := (bare_split hl).2 ⟨fun h => h1 (Or.inl h), by
            by_cases h : planeCheck x.pl dim = 0
            · exact h
            · exact absurd (Or.inr (Or.inl h)) h1⟩
          rw [if_pos hleft]
          have iha := ih (at_ + 1) (d + 1) (R ++ [(x.right, (d : Int) + 1)]) (by omega)
          rw [show ((d + 1 : Nat) : Int) = (d : Int) + 1 from rfl] at iha
          generalize treeGo l dim f (at_ + 1) (d + 1) = a at *
          obtain ⟨al, mid, aok⟩ := a
          simp only at iha ⊢
          cases aok with
          | false =>
            simp only [true_or, if_true]
            refine ⟨by simp, fun _ => ?_⟩
            exact iha.2 rfl
          | true =>
            obtain ⟨ha1, ha2, ha3⟩ := iha.1 rfl
            rw [ha1, wholeGo_pop]
            by_cases hr : x.right = (mid : Int)
            · rw [if_neg (by simp [hr])]
              have ihb := ih mid (d + 1) R (by omega)
              rw [show ((d + 1 : Nat) : Int) = (d : Int) + 1 from rfl] at ihb
              have hble := treeGo_len l dim f mid (d + 1)
              generalize treeGo l dim f mid (d + 1) = b at *
              obtain ⟨bl, fin, bok⟩ := b
              simp only at ihb hble ⊢
              simp only [hr, if_true]
              refine ⟨fun h => ?_, fun h => ?_⟩
              · obtain ⟨hb1, hb2, hb3⟩ := ihb.1 h
                refine ⟨?_, by omega, fun i y h1 h2 h3 => ?_⟩
                · have hml : mid < l.length := by
                    rw [h] at hble
                    simp only [Bool.true_eq_false, and_false, false_and, false_or, or_false] at hble
                    omega
                  rw [if_neg (by intro hn; have := List.drop_eq_nil_iff.1 hn; omega)]
                  exact hb1
                · rcases Nat.lt_or_ge i (at_ + 1) with h4 | h4
                  · obtain rfl : i = at_ := by omega
                    rw [hx] at h3; cases h3; exact hbare
                  · rcases Nat.lt_or_ge i mid with h5 | h5
                    · exact ha3 i y h4 h5 h3
                    · exact hb3 i y h5 h2 h3
              · rcases ihb.2 h with h | h
                · exact .inl h
                · right
                  split
                  · rfl
                  · exact h
            · rw [if_pos (Or.inr hr)]
              exact ⟨by simp, fun _ => .inr (by simp [hr])⟩

theorem whole_tree (l : List Nd) (dim : Int) : (l.any (fun x => !bareB x dim) = false ∧ wholeGo l 0 false [] 0 = true) ↔ ((treeGo l dim 65 0 0).2.2 = true ∧ (treeGo l dim 65 0 0).2.1 = l.length) := by
  have h := tree_whole l dim 65 0 0 [] rfl
  have hle := (treeGo_le l dim 65 0 0).2
  generalize treeGo l dim 65 0 0 = t at *
  obtain ⟨tl, e, ok⟩ := t
  simp only [List.drop_zero] at h hle ⊢
  cases ok with
  | false =>
    simp only [Bool.false_eq_true, false_and, iff_false, not_and]
    intro ha hw
    rcases h.2 rfl with ⟨i, x, hx, hb⟩ | hb
    · have := List.any_eq_false.1 ha x (List.mem_of_getElem? hx)
      simp [hb] at this
    · rw [show ((0 : Nat) : Int) = 0 from rfl, hw] at hb
      simp at hb
  | true =>
    obtain ⟨h1, h2, h3⟩ := h.1 rfl
    simp only [true_and]
    rw [show ((0 : Nat) : Int) = 0 from rfl] at h1
    constructor
    · rintro ⟨ha, hw⟩
      rw [hw] at h1
      rcases Nat.lt_or_ge e l.length with hlt | hge
      · obtain ⟨x, hx⟩ : ∃ x, l[e]? = some x := ⟨_, List.getElem?_eq_getElem hlt⟩
        rw [drop_at hx] at h1
        simp [wholeGo] at h1
      · omega
    · rintro rfl
      refine ⟨?_, ?_⟩
      · rw [List.any_eq_false]
        intro x hx
        obtain ⟨i, hi, rfl⟩ := List.getElem_of_mem hx
        simp [h3 i _ (by omega) hi (List.getElem?_eq_getElem hi)]
      · rw [h1, List.drop_length]
        simp [wholeGo]
        omega

end Go.Proofs.Ytfkmkhojedfccaa
