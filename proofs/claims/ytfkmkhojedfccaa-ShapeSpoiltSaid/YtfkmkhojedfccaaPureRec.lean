/-
Plain laws of records: bytes and what they tell.
-/
import Derived.Test.YtfkmkhojedfccaaRecPut
namespace Go.Proofs.Ytfkmkhojedfccaa
set_option linter.unusedVariables false
set_option linter.unusedSimpArgs false
open Go.RowKit

theorem strOfNums_append (a b : List Int) : strOfNums (a ++ b) = strOfNums a ++ strOfNums b := by
  unfold strOfNums
  apply ByteArray.ext
  simp
theorem str_inj {a b : List Int} (ha : ∀ x ∈ a, 0 ≤ x ∧ x < 256) (hb : ∀ x ∈ b, 0 ≤ x ∧ x < 256) (h : strOfNums a = strOfNums b) : a = b := by
  rw [← bytesI_str ha, ← bytesI_str hb, h]
theorem zerosS_eq (n : Nat) : zerosS n = strOfNums (List.replicate n 0) := by
  unfold zerosS strOfNums
  rw [List.map_replicate]
  rfl
theorem wrapU (x : Int) : IntKind.u64.wrap x = x % 18446744073709551616 := by simp [IntKind.wrap, IntKind.signed, IntKind.bits]

/-- A record's bytes. -/
def recI (kind a b : Int) (rest : List Int) : List Int := leI 1 (IntKind.u64.wrap kind) ++ (leI 4 (IntKind.u64.wrap a) ++ (leI 8 (IntKind.u64.wrap b) ++ rest))
theorem recS_eq (kind a b : Int) (rest : List Int) : recS kind a b (strOfNums rest) = strOfNums (recI kind a b rest) := by
  unfold recS recI
  rw [strOfNums_append, strOfNums_append, strOfNums_append, ByteArray.append_assoc, ByteArray.append_assoc]
  rfl
theorem recI_mem {kind a b : Int} {rest : List Int} (hr : ∀ x ∈ rest, 0 ≤ x ∧ x < 256) : ∀ x ∈ recI kind a b rest, 0 ≤ x ∧ x < 256 := by
  intro x hx
  unfold recI at hx
  simp only [List.mem_append] at hx
  rcases hx with hx | hx | hx | hx
  · exact leI_mem _ _ _ hx
  · exact leI_mem _ _ _ hx
  · exact leI_mem _ _ _ hx
  · exact hr x hx
theorem recI_len (kind a b : Int) (rest : List Int) : (recI kind a b rest).length = 13 + rest.length := by
  unfold recI
  simp only [List.length_append, leI_len]
  omega

theorem leI4_inj {n m : Int} (h : leI 4 n = leI 4 m) : n % 4294967296 = m % 4294967296 := by
  simp only [leI, List.cons.injEq, and_true] at h
  omega
theorem leI8_inj {n m : Int} (h : leI 8 n = leI 8 m) : n % 18446744073709551616 = m % 18446744073709551616 := by
  simp only [leI, List.cons.injEq, and_true] at h
  omega
theorem leI1_inj {n m : Int} (h : leI 1 n = leI 1 m) : n % 256 = m % 256 := by
  simp only [leI, List.cons.injEq, and_true] at h
  exact h

theorem recI_inj {k k' a a' b b' : Int} {r r' : List Int} (h : recI k a b r = recI k' a' b' r') : leI 1 (IntKind.u64.wrap k) = leI 1 (IntKind.u64.wrap k') ∧ leI 4 (IntKind.u64.wrap a) = leI 4 (IntKind.u64.wrap a') ∧ leI 8 (IntKind.u64.wrap b) = leI 8 (IntKind.u64.wrap b') ∧ r = r' := by
  unfold recI at h
  obtain ⟨h1, h⟩ := List.append_inj h (by simp [leI_len])
  obtain ⟨h2, h⟩ := List.append_inj h (by simp [leI_len])
  obtain ⟨h3, h⟩ := List.append_inj h (by simp [leI_len])
  exact ⟨h1, h2, h3, h⟩

theorem rowI_inj : ∀ (a b : List Int), (∀ x ∈ a, -2097152 ≤ x ∧ x ≤ 2097152) → (∀ x ∈ b, -2097152 ≤ x ∧ x ≤ 2097152) → rowI a = rowI b → a = b
  | [], [], _, _, _ => rfl
  | [], y :: b, _, _, h => by
    have := congrArg List.length h
    simp [rowI_len] at this
  | x :: a, [], _, _, h => by
    have := congrArg List.length h
    simp [rowI_len] at this
  | x :: a, y :: b, ha, hb, h => by
    have e1 : rowI (x :: a) = leI 4 (IntKind.u64.wrap x) ++ rowI a := by simp [rowI]
    have e2 : rowI (y :: b) = leI 4 (IntKind.u64.wrap y) ++ rowI b := by simp [rowI]
    rw [e1, e2] at h
    obtain ⟨h1, h2⟩ := List.append_inj h (by simp [leI_len])
    have h3 := leI4_inj h1
    rw [wrapU, wrapU] at h3
    have hx := ha x (by simp)
    have hy := hb y (by simp)
    rw [rowI_inj a b (fun z hz => ha z (by simp [hz])) (fun z hz => hb z (by simp [hz])) h2]
    congr 1
    omega

/-- What a plane that may be has. -/
theorem planeCheck_ok {p : Pl} {dim : Int} (h : planeCheck p dim = 0) : (p.normal.length : Int) = dim ∧ (∀ x ∈ p.normal, -2097152 ≤ x ∧ x ≤ 2097152) ∧ -9007199254740992 ≤ p.off ∧ p.off ≤ 9007199254740992 := by
  unfold planeCheck at h
  split at h
  · simp at h
  · split at h
    · simp at h
    · rename_i h1
      split at h
      · simp at h
      · rename_i h2
        split at h
        · simp at h
        · rename_i h3
          refine ⟨by omega, fun x hx => ?_, by omega, by omega⟩
          have := List.any_eq_false.1 (Bool.eq_false_iff.2 h2) x hx
          simp at this
          omega

/-- A row's bytes, where it may be. -/
def putI' (x : Rw) (dim : Int) : List Int := if x.leaf then recI 1 x.count x.place (List.replicate (4 * dim).toNat 0) else recI 2 x.right x.pl.off (rowI x.pl.normal)
theorem putI'_mem (x : Rw) (dim : Int) : ∀ y ∈ putI' x dim, 0 ≤ y ∧ y < 256 := by
  unfold putI'
  split
  · exact recI_mem (fun y hy => by have := List.eq_of_mem_replicate hy; omega)
  · exact recI_mem (fun y hy => rowI_mem hy)
theorem putRec_ok {x : Rw} {dim : Int} (h : (putRec x dim).2 = 0) : 1 ≤ dim ∧ dim ≤ 1024 ∧ mayB x dim = true ∧ (putRec x dim).1 = strOfNums (putI' x dim) ∧ ((putI' x dim).length : Int) = 13 + 4 * dim := by
  by_cases hr : dim < 1 ∨ 1024 < dim
  · simp [putRec, hr] at h
  · by_cases hm : mayB x dim = true
    · refine ⟨by omega, by omega, hm, ?_, ?_⟩
      · unfold putRec putI'
        rw [if_neg hr, if_neg (by simp [hm])]
        split
        · rw [zerosS_eq, recS_eq]
        · rw [recS_eq]
      · unfold putI'
        split
        · rw [recI_len, List.length_replicate]; omega
        · rename_i hl
          have hl : x.leaf = false := by simpa using hl
          unfold mayB at hm
          rw [if_neg (by simp [hl])] at hm
          simp only [Bool.and_eq_true, beq_iff_eq] at hm
          have := (planeCheck_ok hm.2.2.1).1
          rw [recI_len, rowI_len]; omega
    · simp [putRec, hr, hm] at h
theorem putRec_bad {x : Rw} {dim : Int} (h : (putRec x dim).2 ≠ 0) : (putRec x dim).1 = ⟨#[]⟩ := by
  unfold putRec at h ⊢
  split
  · rfl
  · rename_i h1
    rw [if_neg h1] at h
    split
    · rfl
    · rename_i h2
      rw [if_neg h2] at h
      split at h <;> simp at h

/-- Bounds of what may be. -/
theorem mayB_leaf {x : Rw} {dim : Int} (hl : x.leaf = true) (h : mayB x dim = true) : (0 ≤ x.count ∧ x.count ≤ 1048576) ∧ (0 ≤ x.place ∧ x.place ≤ 268435456) ∧ x.pl = ⟨[], 0⟩ ∧ x.right = 0 := by
  unfold mayB at h
  rw [if_pos hl] at h
  simp only [Bool.and_eq_true, beq_iff_eq, inB, decide_eq_true_eq] at h
  obtain ⟨h1, h2, ⟨h3, h4⟩, h5⟩ := h
  refine ⟨h1, h2, ?_, h5⟩
  obtain ⟨l, c, p, ⟨nn, o⟩, r⟩ := x
  simp only at h3 h4 ⊢
  rw [h3, h4]
theorem mayB_split {x : Rw} {dim : Int} (hl : x.leaf = false) (h : mayB x dim = true) : x.count = 0 ∧ x.place = 0 ∧ planeCheck x.pl dim = 0 ∧ (0 ≤ x.right ∧ x.right ≤ 1073741824) := by
  unfold mayB at h
  rw [if_neg (by simp [hl])] at h
  simp only [Bool.and_eq_true, beq_iff_eq, inB, decide_eq_true_eq] at h
  exact ⟨h.1, h.2.1, h.2.2.1, h.2.2.2⟩

theorem putI'_inj {x y : Rw} {dim : Int} (hx : mayB x dim = true) (hy : mayB y dim = true) (h : putI' x dim = putI' y dim) : x = y := by
  unfold putI' at h
  cases hl : x.leaf with
  | true =>
    rw [if_pos hl] at h
    cases hm : y.leaf with
    | true =>
      rw [if_pos hm] at h
      obtain ⟨_, h2, h3, _⟩ := recI_inj h
      have h2 := leI4_inj h2
      have h3 := leI8_inj h3
      rw [wrapU, wrapU] at h2 h3
      obtain ⟨a1, a2, a3, a4⟩ := mayB_leaf hl hx
      obtain ⟨b1, b2, b3, b4⟩ := mayB_leaf hm hy
      obtain ⟨l, c, p, q, r⟩ := x
      obtain ⟨l', c', p', q', r'⟩ := y
      simp only at *
      subst hl hm a3 a4 b3 b4
      have e1 : c = c' := by omega
      have e2 : p = p' := by omega
      rw [e1, e2]
    | false =>
      rw [if_neg (by simp [hm])] at h
      have h1 := leI1_inj (recI_inj h).1
      rw [wrapU, wrapU] at h1
      omega
  | false =>
    rw [if_neg (by simp [hl])] at h
    cases hm : y.leaf with
    | true =>
      rw [if_pos hm] at h
      have h1 := leI1_inj (recI_inj h).1
      rw [wrapU, wrapU] at h1
      omega
    | false =>
      rw [if_neg (by simp [hm])] at h
      obtain ⟨_, h2, h3, h4⟩ := recI_inj h
      have h2 := leI4_inj h2
      have h3 := leI8_inj h3
      rw [wrapU, wrapU] at h2 h3
      obtain ⟨a1, a2, a3, a4⟩ := mayB_split hl hx
      obtain ⟨b1, b2, b3, b4⟩ := mayB_split hm hy
      obtain ⟨p1, p2, p3⟩ := planeCheck_ok a3
      obtain ⟨q1, q2, q3⟩ := planeCheck_ok b3
      have h4 := rowI_inj _ _ p2 q2 h4
      obtain ⟨l, c, p, ⟨nn, o⟩, r⟩ := x
      obtain ⟨l', c', p', ⟨nn', o'⟩, r'⟩ := y
      simp only at *
      subst hl hm h4 a1 a2 b1 b2
      have e1 : r = r' := by omega
      have e2 : o = o' := by omega
      rw [e1, e2]

/-- A record's first byte. -/
theorem putI'_head (x : Rw) (dim : Int) : ∃ rest, putI' x dim = (if x.leaf then 1 else 2) :: rest := by
  unfold putI'
  split
  · exact ⟨_, rfl⟩
  · exact ⟨_, rfl⟩

end Go.Proofs.Ytfkmkhojedfccaa
