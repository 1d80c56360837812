/-
The first few of many are the beginning of the ranking, in plain words.
-/
import Derived.Test.YtglghgjbnoldaaaBrute
namespace Go.Proofs.Ytglghgjbnoldaaa
set_option linter.unusedVariables false
set_option linter.unusedSimpArgs false
open Go.RowKit

theorem nearer_iff (a b : Rs) : nearer a b = true ↔ a.far < b.far ∨ (a.far = b.far ∧ a.id < b.id) := by
  simp [nearer]
theorem nearer_false (a b : Rs) : nearer a b = false ↔ b.far < a.far ∨ (b.far = a.far ∧ b.id ≤ a.id) := by
  rw [← Bool.not_eq_true, nearer_iff]
  omega
theorem nearer_eq {a b : Rs} (h1 : nearer a b = false) (h2 : nearer b a = false) : a = b := by
  rw [nearer_false] at h1 h2
  obtain ⟨a1, a2⟩ := a
  obtain ⟨b1, b2⟩ := b
  simp only [Rs.mk.injEq] at h1 h2 ⊢
  omega
abbrev InOrder (l : List Rs) : Prop := l.Pairwise (fun a b => nearer b a = false)

theorem insAt_le (x : Rs) (out : List Rs) : ∀ k, insAt x out k ≤ k
  | 0 => Nat.le_refl _
  | k + 1 => by
    unfold insAt
    split
    · split
      · exact Nat.le_succ_of_le (insAt_le x out k)
      · exact Nat.le_refl _
    · omega
theorem insAt_spec (x : Rs) (out : List Rs) : ∀ k, k ≤ out.length → (∀ i y, insAt x out k ≤ i → i < k → out[i]? = some y → nearer x y = true) ∧ (∀ j y, insAt x out k = j + 1 → out[j]? = some y → nearer x y = false)
  | 0, _ => ⟨fun i y h1 h2 _ => by omega, fun j y h _ => by simp [insAt] at h⟩
  | k + 1, hk => by
    obtain ⟨y, hy⟩ : ∃ y, out[k]? = some y := ⟨_, List.getElem?_eq_getElem (by omega)⟩
    obtain ⟨h1, h2⟩ := insAt_spec x out k (by omega)
    simp only [insAt, hy]
    cases hq : nearer x y with
    | true =>
      simp only [if_true]
      refine ⟨fun i z h3 h4 hz => ?_, h2⟩
      by_cases hik : i = k
      · subst hik
        rw [hy] at hz; cases hz; exact hq
      · exact h1 i z h3 (by omega) hz
    | false =>
      simp only [Bool.false_eq_true, if_false]
      refine ⟨fun i z h3 h4 _ => by omega, fun j z hj hz => ?_⟩
      obtain rfl : j = k := by omega
      rw [hy] at hz; cases hz; exact hq
theorem ins4_perm (out : List Rs) (x : Rs) : (ins4 out x).Perm (out ++ [x]) := by
  unfold ins4
  simp only [List.nil_append, List.append_assoc]
  have : (out.take (insAt x out out.length) ++ ([x] ++ out.drop (insAt x out out.length))).Perm (out.take (insAt x out out.length) ++ (out.drop (insAt x out out.length) ++ [x])) := List.Perm.append_left _ List.perm_append_comm
  refine this.trans ?_
  rw [← List.append_assoc, List.take_append_drop]
theorem ins4_order {out : List Rs} (h : InOrder out) (x : Rs) : InOrder (ins4 out x) := by
  obtain ⟨h1, h2⟩ := insAt_spec x out out.length (Nat.le_refl _)
  have hle := insAt_le x out out.length
  unfold ins4
  generalize insAt x out out.length = j at *
  simp only [List.nil_append, List.append_assoc, List.singleton_append]
  refine List.pairwise_append.2 ⟨h.sublist (List.take_sublist _ _), List.pairwise_cons.2 ⟨fun b hb => ?_, h.sublist (List.drop_sublist _ _)⟩, fun a ha b hb => ?_⟩
  · obtain ⟨i, hi, rfl⟩ := List.getElem_of_mem hb
    have hi' := hi
    rw [List.length_drop] at hi'
    have := h1 (j + i) (out[j + i]'(by omega)) (by omega) (by omega) (List.getElem?_eq_getElem (by omega))
    rw [List.getElem_drop]
    rw [nearer_iff] at this
    rw [nearer_false]
    omega
  · have key : ∀ a ∈ out.take j, nearer x a = false := fun a ha => by
      cases j with
      | zero => simp at ha
      | succ j =>
        obtain ⟨y, hy⟩ : ∃ y, out[j]? = some y := ⟨_, List.getElem?_eq_getElem (by omega)⟩
        have hxy := h2 j y rfl hy
        rw [take_snoc' hy] at ha
        rcases List.mem_append.1 ha with ha | ha
        · have hp := h
          have e : out = out.take j ++ out.drop j := (List.take_append_drop _ _).symm
          have hya : nearer y a = false := by
            have hp2 : InOrder (out.take j ++ out.drop j) := by rw [List.take_append_drop]; exact hp
            exact (List.pairwise_append.1 hp2).2.2 a ha y (List.mem_of_getElem? (i := 0) (by rw [List.getElem?_drop]; exact hy))
          rw [nearer_false] at hxy hya ⊢
          omega
        · simp at ha; subst ha; exact hxy
    rcases List.mem_cons.1 hb with rfl | hb
    · exact key a ha
    · have hp2 : InOrder (out.take j ++ out.drop j) := by rw [List.take_append_drop]; exact h
      exact (List.pairwise_append.1 hp2).2.2 a ha b hb
theorem sort4_spec (l : List Rs) : (sort4 l).Perm l ∧ InOrder (sort4 l) := by
  have : ∀ (l out : List Rs), InOrder out → (l.foldl ins4 out).Perm (out ++ l) ∧ InOrder (l.foldl ins4 out) := by
    intro l
    induction l with
    | nil => intro out h; simpa using h
    | cons x l ih =>
      intro out h
      obtain ⟨a, b⟩ := ih (ins4 out x) (ins4_order h x)
      refine ⟨a.trans ?_, b⟩
      have := (ins4_perm out x).append_right l
      simpa using this
  have := this l [] List.Pairwise.nil
  simpa [sort4] using this
theorem order_unique {a b : List Rs} (hp : a.Perm b) (ha : InOrder a) (hb : InOrder b) : a = b :=
  List.Perm.eq_of_pairwise (le := fun a b => nearer b a = false) (fun x y _ _ h1 h2 => nearer_eq h2 h1) ha hb hp

theorem enum_rs (xs : List Rs) : (E3.enum xs).map E3.rs = xs := by
  unfold E3.enum
  rw [List.map_map]
  apply List.ext_getElem
  · simp
  · intro i h1 h2
    simp [E3.rs]
theorem ahd_nearer {a b : E3.Tk} (h : E3.ahd b a = false) : nearer (E3.rs b) (E3.rs a) = false := by
  rw [E3.ahd_false] at h
  rw [nearer_false]
  simp only [E3.rs]
  omega
/-- The first few are the beginning of the ranking. -/
theorem E3.Chosen.rank {most : Int} {xs out : List Rs} (h : E3.Chosen most xs out) : out = (sort4 xs).take most.toNat := by
  obtain ⟨es, rest, rfl, h1, h2, h3, h4, h5⟩ := h.ex
  have hp : (es.map E3.rs ++ rest.map E3.rs).Perm xs := by
    rw [← List.map_append]
    have := h1.map E3.rs
    rwa [enum_rs] at this
  have hin : InOrder (es.map E3.rs) := List.pairwise_map.2 (h2.imp (fun h => ahd_nearer h))
  obtain ⟨p1, p2⟩ := sort4_spec xs
  obtain ⟨q1, q2⟩ := sort4_spec (rest.map E3.rs)
  have hall : InOrder (es.map E3.rs ++ sort4 (rest.map E3.rs)) := List.pairwise_append.2 ⟨hin, q2, fun a ha b hb => by
    obtain ⟨a', ha', rfl⟩ := List.mem_map.1 ha
    obtain ⟨b', hb', rfl⟩ := List.mem_map.1 (q1.mem_iff.1 hb)
    exact ahd_nearer (h3 a' ha' b' hb')⟩
  have e := order_unique (p1.trans (hp.symm.trans (List.Perm.append_left _ q1.symm))) p2 hall
  rw [e]
  by_cases hr : rest = []
  · subst hr
    have : sort4 ([] : List Rs) = [] := rfl
    simp only [List.map_nil, this, List.append_nil]
    by_cases hle : es.length ≤ most.toNat
    · rw [List.take_of_length_le (by simpa using hle)]
    · exfalso; omega
  · have := h4 hr
    rw [List.take_append_of_le_length (by simp; omega), List.take_of_length_le (by simp; omega)]

end Go.Proofs.Ytglghgjbnoldaaa
