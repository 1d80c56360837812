/-
Records, there and back, in plain words.
-/
import Derived.Test.YtfkmkhojedfccaaRecGet
namespace Go.Proofs.Ytfkmkhojedfccaa
set_option linter.unusedVariables false
set_option linter.unusedSimpArgs false
open Go.RowKit

theorem recI_parts (k a b : Int) (r : List Int) : ((recI k a b r).drop 0).take 1 = leI 1 (IntKind.u64.wrap k) ∧ ((recI k a b r).drop 1).take 4 = leI 4 (IntKind.u64.wrap a) ∧ ((recI k a b r).drop 5).take 8 = leI 8 (IntKind.u64.wrap b) ∧ (recI k a b r).drop 13 = r := by
  unfold recI
  generalize hA : leI 1 (IntKind.u64.wrap k) = A
  generalize hB : leI 4 (IntKind.u64.wrap a) = B
  generalize hC : leI 8 (IntKind.u64.wrap b) = C
  have la : A.length = 1 := by rw [← hA, leI_len]
  have lb : B.length = 4 := by rw [← hB, leI_len]
  have lc : C.length = 8 := by rw [← hC, leI_len]
  have e1 : (A ++ (B ++ (C ++ r))).drop 1 = B ++ (C ++ r) := List.drop_left' la
  have e2 : (A ++ (B ++ (C ++ r))).drop 5 = C ++ r := by
    rw [show 5 = 1 + 4 from rfl, ← List.drop_drop, e1, List.drop_left' lb]
  have e3 : (A ++ (B ++ (C ++ r))).drop 13 = r := by
    rw [show 13 = 5 + 8 from rfl, ← List.drop_drop, e2, List.drop_left' lc]
  refine ⟨?_, ?_, ?_, e3⟩
  · rw [List.drop_zero, List.take_left' la]
  · rw [e1, List.take_left' lb]
  · rw [e2, List.take_left' lc]

theorem wrap_back {b : Int} (h0 : -9223372036854775808 ≤ b) (h1 : b ≤ 9223372036854775807) : wrap64 (leV (leI 8 (IntKind.u64.wrap b))) = b := by
  rw [wrapU, leV_leI8 (by omega) (by omega)]
  unfold wrap64
  omega
theorem four_back {b : Int} (h0 : 0 ≤ b) (h1 : b < 4294967296) : leV (leI 4 (IntKind.u64.wrap b)) = b := by
  rw [wrapU, leV_leI4 (by omega) (by omega)]
  omega

/-- What is laid is told. -/
theorem parse_put {x : Rw} {dim : Int} (h : mayB x dim = true) : parseRec (putI' x dim) = x := by
  unfold putI'
  cases hl : x.leaf with
  | true =>
    obtain ⟨a1, a2, a3, a4⟩ := mayB_leaf hl h
    rw [if_pos rfl]
    obtain ⟨p1, p2, p3, p4⟩ := recI_parts 1 x.count x.place (List.replicate (4 * dim).toNat 0)
    unfold parseRec
    rw [p1, p2, p3, if_pos (by decide), four_back (by omega) (by omega), wrap_back (by omega) (by omega)]
    obtain ⟨l, c, p, q, r⟩ := x
    simp only at *
    subst hl a3 a4
    rfl
  | false =>
    obtain ⟨a1, a2, a3, a4⟩ := mayB_split hl h
    obtain ⟨b1, b2, b3⟩ := planeCheck_ok a3
    rw [if_neg (by simp)]
    obtain ⟨p1, p2, p3, p4⟩ := recI_parts 2 x.right x.pl.off (rowI x.pl.normal)
    unfold parseRec
    rw [p1, p2, p3, p4, if_neg (by decide), four_back (by omega) (by omega), wrap_back (by omega) (by omega), recI_len, rowI_len, show (13 + 4 * x.pl.normal.length - 13) / 4 = x.pl.normal.length by omega, colK_row _ (fun y hy => by have := b2 y hy; omega)]
    obtain ⟨l, c, p, ⟨nn, o⟩, r⟩ := x
    simp only at *
    subst hl a1 a2
    rfl

theorem getRec_put {x : Rw} {dim : Int} {s : ByteArray} (h : putRec x dim = (s, 0)) : getRec s dim = (x, 0) := by
  obtain ⟨p1, p2, p3, p4, p5⟩ := putRec_ok (x := x) (dim := dim) (by rw [h])
  rw [h] at p4
  simp only at p4
  have hz : (s.size : Int) = 13 + 4 * dim := by rw [p4, strOfNums_size]; exact p5
  have hp : parseRec (bytesI s) = x := by rw [p4, bytesI_str (putI'_mem x dim), parse_put p3]
  unfold getRec
  rw [if_neg (by omega), if_neg (by omega), if_neg (by omega), hp, h, if_pos rfl]
theorem putRec_get {g : Rw} {dim : Int} {s : ByteArray} (h : getRec s dim = (g, 0)) : putRec g dim = (s, 0) := by
  unfold getRec at h
  split at h
  · simp at h
  · split at h
    · simp at h
    · split at h
      · simp at h
      · split at h
        · rename_i h4
          obtain ⟨rfl, _⟩ := Prod.mk.inj h
          exact h4
        · simp at h
theorem getRec_bad {g : Rw} {dim e : Int} {s : ByteArray} (h : getRec s dim = (g, e)) (he : e ≠ 0) : g = noRw := by
  unfold getRec at h
  split at h
  · exact (Prod.mk.inj h).1.symm
  · split at h
    · exact (Prod.mk.inj h).1.symm
    · split at h
      · exact (Prod.mk.inj h).1.symm
      · split at h
        · exact absurd (Prod.mk.inj h).2.symm he
        · exact (Prod.mk.inj h).1.symm

end Go.Proofs.Ytfkmkhojedfccaa
