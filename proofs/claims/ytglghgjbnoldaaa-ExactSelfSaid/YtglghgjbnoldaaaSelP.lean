/-
The first few of many, in plain words: what a selector keeps. No program stands in this text.
-/
import Derived.Test.YtglghgjbnoldaaaHeapEQ
import Derived.Test.YtglghgjbnoldaaaNear
namespace Go.Proofs.Ytglghgjbnoldaaa.E3
set_option linter.unusedVariables false
set_option linter.unusedSimpArgs false
open Go.RowKit Go.Proofs.Ytglghgjbnoldaaa

def rs (a : Tk) : Rs := ⟨a.id, a.far⟩
/-- Whose turn is first: the nearer one; of two the one that came first. -/
def ahd (a b : Tk) : Bool := nearer (rs a) (rs b) || (!nearer (rs b) (rs a) && decide (a.at_ < b.at_))
theorem ahd_iff (a b : Tk) : ahd a b = true ↔ a.far < b.far ∨ (a.far = b.far ∧ (a.id < b.id ∨ (a.id = b.id ∧ a.at_ < b.at_))) := by
  unfold ahd nearer rs
  simp only [Bool.or_eq_true, Bool.and_eq_true, decide_eq_true_eq, Bool.not_eq_true', Bool.or_eq_false_iff, Bool.and_eq_false_iff, decide_eq_false_iff_not]
  omega
theorem ahd_false (a b : Tk) : ahd a b = false ↔ b.far < a.far ∨ (b.far = a.far ∧ (b.id < a.id ∨ (b.id = a.id ∧ b.at_ ≤ a.at_))) := by
  rw [← Bool.not_eq_true, ahd_iff]
  omega
/-- The heap's order: the last one is on top. -/
def top (a b : Tk) : Bool := ahd b a
theorem top_asym (a b : Tk) (h : top a b = true) : top b a = false := by
  unfold top at h ⊢
  rw [ahd_iff] at h
  rw [ahd_false]
  omega
theorem top_negt (a b c : Tk) (h1 : top b a = false) (h2 : top c b = false) : top c a = false := by
  unfold top at h1 h2 ⊢
  rw [ahd_false] at h1 h2 ⊢
  omega
theorem top_irr (a : Tk) : top a a = false := by
  unfold top
  rw [ahd_false]
  omega

/-- What has been offered, each with its number. -/
def enum (xs : List Rs) : List Tk := xs.zipIdx.map (fun p => ⟨p.1.id, p.1.far, (p.2 : Int)⟩)
theorem enum_snoc (xs : List Rs) (x : Rs) : enum (xs ++ [x]) = enum xs ++ [⟨x.id, x.far, (xs.length : Int)⟩] := by
  simp [enum, List.zipIdx_append]
theorem enum_len (xs : List Rs) : (enum xs).length = xs.length := by simp [enum]
theorem enum_at {xs : List Rs} {e : Tk} (h : e ∈ enum xs) : 0 ≤ e.at_ ∧ e.at_ < (xs.length : Int) ∧ xs[e.at_.toNat]? = some (rs e) := by
  simp only [enum, List.mem_map, List.mem_zipIdx_iff_getElem?] at h
  obtain ⟨⟨x, i⟩, hx, rfl⟩ := h
  have hi := (List.getElem?_eq_some_iff.1 hx).1
  simp only at hx hi
  refine ⟨by simp, by simp; exact hi, ?_⟩
  simpa [rs] using hx

/-- Of what was offered just the first few are kept. -/
structure Kept (most : Int) (xs : List Rs) (l : List Tk) : Prop where
  ex : ∃ rest, (l ++ rest).Perm (enum xs) ∧ (∀ a ∈ l, ∀ b ∈ rest, ahd b a = false) ∧ (rest ≠ [] → most ≤ (l.length : Int)) ∧ ((l.length : Int) ≤ max most 0)
theorem Kept.start (most : Int) : Kept most [] [] := ⟨[], by simp [enum], by simp, by simp, by simp; omega⟩
theorem Kept.push {most : Int} {xs : List Rs} {l l' : List Tk} {x : Rs} (h : Kept most xs l) (hm : (l.length : Int) < most) (hp : l'.Perm (l ++ [⟨x.id, x.far, (xs.length : Int)⟩])) : Kept most (xs ++ [x]) l' := by
  obtain ⟨rest, h1, h2, h3, h4⟩ := h.ex
  have hr : rest = [] := Classical.byContradiction fun hr => by have := h3 hr; omega
  subst hr
  simp only [List.append_nil] at h1
  refine ⟨[], ?_, by simp, by simp, ?_⟩
  · rw [List.append_nil, enum_snoc]
    exact hp.trans (h1.append_right _)
  · rw [hp.length_eq]; simp; omega
theorem Kept.stay {most : Int} {xs : List Rs} {l : List Tk} {x : Rs} (h : Kept most xs l) (hm : most ≤ (l.length : Int)) (hx : l = [] ∨ ∃ t ∈ l, (∀ y ∈ l, top y t = false) ∧ ahd ⟨x.id, x.far, (xs.length : Int)⟩ t = false) : Kept most (xs ++ [x]) l := by
  obtain ⟨rest, h1, h2, h3, h4⟩ := h.ex
  refine ⟨rest ++ [⟨x.id, x.far, (xs.length : Int)⟩], ?_, fun a ha b hb => ?_, fun _ => hm, h4⟩
  · rw [← List.append_assoc, enum_snoc]
    exact h1.append_right _
  · rcases List.mem_append.1 hb with hb | hb
    · exact h2 a ha b hb
    · simp at hb
      subst hb
      rcases hx with rfl | ⟨t, ht, h5, h6⟩
      · simp at ha
      · exact top_negt _ t _ h6 (h5 a ha) |> fun h => h
theorem Kept.swap {most : Int} {xs : List Rs} {l l1 l' : List Tk} {x : Rs} {t t' : Tk} (h : Kept most xs l) (hm : most ≤ (l.length : Int)) (ht : t ∈ l) (hx : ahd ⟨x.id, x.far, (xs.length : Int)⟩ t = true)
    (hp : (t' :: l1).Perm l) (hy : ∀ y ∈ l, top y t' = false) (hl : l'.Perm (l1 ++ [⟨x.id, x.far, (xs.length : Int)⟩])) : Kept most (xs ++ [x]) l' := by
  obtain ⟨rest, h1, h2, h3, h4⟩ := h.ex
  have hlen := hp.length_eq
  have hlen2 := hl.length_eq
  simp only [List.length_cons, List.length_append, List.length_nil] at hlen hlen2
  refine ⟨t' :: rest, ?_, fun a ha b hb => ?_, fun _ => by omega, by omega⟩
  · rw [enum_snoc]
    have e1 : (l' ++ t' :: rest).Perm ((l1 ++ [⟨x.id, x.far, (xs.length : Int)⟩]) ++ t' :: rest) := hl.append_right _
    refine e1.trans ?_
    have e2 : ((l1 ++ [(⟨x.id, x.far, (xs.length : Int)⟩ : Tk)]) ++ t' :: rest).Perm (((t' :: l1) ++ rest) ++ [⟨x.id, x.far, (xs.length : Int)⟩]) := by
      refine List.perm_middle.trans ?_
      simp only [List.cons_append, List.append_assoc]
      refine List.Perm.cons _ ?_
      refine List.Perm.append_left _ ?_
      simp only [List.nil_append]
      exact (List.perm_append_singleton _ _).symm
    refine e2.trans ?_
    exact ((hp.append_right _).trans h1).append_right _
  · have ha' := hl.mem_iff.1 ha
    rcases List.mem_append.1 ha' with ha1 | ha1
    · have hal : a ∈ l := hp.mem_iff.1 (List.mem_cons_of_mem _ ha1)
      rcases List.mem_cons.1 hb with rfl | hb
      · exact hy a hal
      · exact h2 a hal b hb
    · simp at ha1
      subst ha1
      have ht' : top t t' = false := hy t ht
      have hz : ahd t' ⟨x.id, x.far, (xs.length : Int)⟩ = false := by
        unfold top at ht'
        rw [ahd_false] at ht' ⊢
        rw [ahd_iff] at hx
        omega
      rcases List.mem_cons.1 hb with rfl | hb
      · exact hz
      · have := h2 t' (hp.mem_iff.1 (List.mem_cons_self ..)) b hb
        rw [ahd_false] at this hz ⊢
        omega

/-- At the end: in order. -/
structure Chosen (most : Int) (xs : List Rs) (out : List Rs) : Prop where
  ex : ∃ es rest : List Tk, out = es.map rs ∧ (es ++ rest).Perm (enum xs) ∧ es.Pairwise (fun a b => ahd b a = false) ∧ (∀ a ∈ es, ∀ b ∈ rest, ahd b a = false) ∧ (rest ≠ [] → most ≤ (es.length : Int)) ∧ ((es.length : Int) ≤ max most 0)
theorem Kept.done {most : Int} {xs : List Rs} {l es : List Tk} (h : Kept most xs l) (hp : es.Perm l) (hs : es.Pairwise (fun a b => ahd b a = false)) : Chosen most xs (es.map rs) := by
  obtain ⟨rest, h1, h2, h3, h4⟩ := h.ex
  exact ⟨es, rest, rfl, (hp.append_right _).trans h1, hs, fun a ha b hb => h2 a (hp.mem_iff.1 ha) b hb, fun hr => by rw [hp.length_eq]; exact h3 hr, by rw [hp.length_eq]; exact h4⟩

end Go.Proofs.Ytglghgjbnoldaaa.E3
