/-
What a store's files are, in plain words: few, of unlike and good names; their names in order, their sizes.
-/
import Derived.Test.YteafbhpjjibdeaaFiles
namespace Go.Proofs.Yteafbhpjjibdeaa
set_option linter.unusedVariables false
set_option linter.unusedSimpArgs false
open Go.RowKit

/-- A store's files: at most sixteen, of unlike and good names. -/
structure FineC (L : List (ByteArray × ByteArray)) : Prop where
  len : L.length ≤ 16
  nd : (L.map (·.1)).Nodup
  ok : ∀ n ∈ L.map (·.1), fname n = true
theorem FineC.nil : FineC [] := ⟨by simp, by simp, by simp⟩
theorem sdel_sublist (n : ByteArray) : ∀ L : List (ByteArray × ByteArray), (sdel L n).Sublist L
  | [] => by simp [sdel]
  | x :: L => by
    by_cases hn : (n == x.1) = true
    · simp only [sdel, hn, if_true]
      exact List.sublist_cons_self _ _
    · simp only [Bool.not_eq_true] at hn
      simp only [sdel, hn, Bool.false_eq_true, if_false]
      exact (sdel_sublist n L).cons_cons _
theorem FineC.put {L : List (ByteArray × ByteArray)} (h : FineC L) {n t : ByteArray} (hn : fname n = true) (hl : (sput L n t).length ≤ 16) : FineC (sput L n t) :=
  ⟨hl, (sput_keys n t L h.nd).1, fun k hk => by
    rcases (sput_keys n t L h.nd).2 k hk with rfl | h1
    · exact hn
    · exact h.ok k h1⟩
theorem ffind_name {L : List (ByteArray × ByteArray)} {n : ByteArray} (h : (ffind L n).2 = 0) : fname n = true := by
  unfold ffind at h
  cases hf : fname n <;> simp_all
theorem FineC.write {L : List (ByteArray × ByteArray)} (h : FineC L) (n t : ByteArray) : FineC (fwrite L n t).1 := by
  have hl := fwrite_length n t L h.len
  unfold fwrite at hl ⊢
  split
  · rename_i hn
    rw [if_pos hn] at hl
    split
    · exact h
    · rename_i h2
      rw [if_neg h2] at hl
      exact h.put hn hl
  · exact h
theorem FineC.remove {L : List (ByteArray × ByteArray)} (h : FineC L) (n : ByteArray) : FineC (fremove L n).1 := by
  unfold fremove
  split
  · have hs := (sdel_sublist n L).map (·.1)
    exact ⟨Nat.le_trans (sdel_sublist n L).length_le h.len, h.nd.sublist hs, fun k hk => h.ok k (hs.subset hk)⟩
  · exact h
theorem FineC.spoil {L : List (ByteArray × ByteArray)} (h : FineC L) (n : ByteArray) (i by_ : Int) : FineC (fspoil L n i by_).1 := by
  unfold fspoil
  split
  · rename_i h0
    split
    · have hf := ffind_zero h0
      refine h.put (ffind_name h0) ?_
      rw [sput_length, hf]
      exact h.len
    · exact h
  · exact h

theorem beqB_ne {a b : ByteArray} (h : a ≠ b) : (a == b) = false := beqB_false.2 h
theorem sfind_mem : ∀ {L : List (ByteArray × ByteArray)}, (L.map (·.1)).Nodup → ∀ x ∈ L, sfind L x.1 = some x.2
  | [], _, x, hx => by simp at hx
  | y :: L, hn, x, hx => by
    simp only [List.map_cons, List.nodup_cons] at hn
    rw [sfind_cons]
    rcases List.mem_cons.1 hx with rfl | hx
    · rw [if_pos (by exact beqB_self _)]
    · rw [if_neg (by
        intro e
        have : x.1 = y.1 := beqB.1 e
        exact hn.1 (by rw [← this]; exact List.mem_map_of_mem hx))]
      exact sfind_mem hn.2 x hx

def sumOf (l : List (ByteArray × Int)) : Int := (l.map (·.2)).sum
theorem sumOf_snoc (l : List (ByteArray × Int)) (x : ByteArray × Int) : sumOf (l ++ [x]) = sumOf l + x.2 := by simp [sumOf, List.sum_append]

theorem names_perm (L : List (ByteArray × ByteArray)) : (namesOf L).Perm (L.map (·.1)) := by
  unfold namesOf sortedNames
  have h1 := (List.mergeSort_perm (bsOf (L.map (·.1))) leB).map (fun s : List UInt8 => (⟨s.toArray⟩ : ByteArray))
  have h2 := of_bs (L.map (·.1))
  unfold ofBs at h2 ⊢
  rw [h2] at h1
  exact h1
theorem names_sorted {L : List (ByteArray × ByteArray)} (h : (L.map (·.1)).Nodup) : (bsOf (namesOf L)).Pairwise (· < ·) := by
  have tr : ∀ a b c : List UInt8, leB a b = true → leB b c = true → leB a c = true := fun a b c h1 h2 => by simp only [leB, decide_eq_true_eq] at *; exact List.le_trans h1 h2
  have tot : ∀ a b : List UInt8, (leB a b || leB b a) = true := fun a b => by simp only [leB, Bool.or_eq_true, decide_eq_true_eq]; exact List.le_total a b
  have hp := List.pairwise_mergeSort tr tot (bsOf (L.map (·.1)))
  have e : bsOf (namesOf L) = (bsOf (L.map (·.1))).mergeSort leB := by
    unfold namesOf sortedNames bsOf ofBs
    rw [List.map_map]
    exact (List.map_congr_left (fun s _ => by simp)).trans (List.map_id _)
  rw [e]
  have hnd : ((bsOf (L.map (·.1))).mergeSort leB).Nodup := by
    refine (List.mergeSort_perm _ leB).nodup_iff.2 ?_
    unfold bsOf
    rw [List.Nodup, List.pairwise_map]
    exact h.imp (fun hne e => hne (by
      exact ByteArray.ext (Array.toList_inj.1 e)))
  rw [List.Nodup] at hnd
  exact (hp.and hnd).imp (fun ⟨h1, h2⟩ => bs_lt_of_le_ne _ _ (by simpa [leB] using h1) h2)

theorem sum_ints : ∀ l : List (ByteArray × ByteArray), (l.map (fun x => (x.2.size : Int))).sum = ((fsum l : Nat) : Int)
  | [] => rfl
  | x :: l => by
    have ih := sum_ints l
    simp only [List.map_cons, List.sum_cons, fsum] at ih ⊢
    omega
theorem perm_sum {a b : List Int} (h : a.Perm b) : a.sum = b.sum := by
  induction h with
  | nil => rfl
  | cons x _ ih => simp [ih]
  | swap x y l => simp only [List.sum_cons]; omega
  | trans _ _ h1 h2 => exact h1.trans h2
theorem files_sum {L : List (ByteArray × ByteArray)} (h : (L.map (·.1)).Nodup) : sumOf (filesOf L) = fsum L := by
  unfold sumOf filesOf
  rw [List.map_map]
  have h1 : ((namesOf L).map ((fun x : ByteArray × Int => x.2) ∘ sizeAt L)).Perm ((L.map (·.1)).map ((fun x : ByteArray × Int => x.2) ∘ sizeAt L)) := (names_perm L).map _
  rw [perm_sum h1, List.map_map, ← sum_ints L]
  congr 1
  refine List.map_congr_left (fun x hx => ?_)
  simp only [Function.comp, sizeAt]
  rw [sfind_mem h x hx]
  rfl

/-- The name told last. -/
def lastOf (pre : List (ByteArray × Int)) : ByteArray := (pre.getLast?.map (·.1)).getD ⟨#[]⟩

theorem sum_part {xs pre rest : List (ByteArray × Int)} {x : ByteArray × Int} (h : xs = pre ++ x :: rest) (hp : ∀ y ∈ xs, 0 ≤ y.2) : 0 ≤ sumOf pre ∧ 0 ≤ x.2 ∧ sumOf pre + x.2 ≤ sumOf xs := by
  have hnn : ∀ l : List (ByteArray × Int), (∀ y ∈ l, 0 ≤ y.2) → 0 ≤ sumOf l := by
    intro l
    induction l with
    | nil => intro _; simp [sumOf]
    | cons a r ih =>
      intro hl
      have h1 := ih (fun y hy => hl y (by simp [hy]))
      have h2 := hl a (by simp)
      simp only [sumOf, List.map_cons, List.sum_cons] at h1 ⊢
      omega
  subst h
  have h1 := hnn pre (fun y hy => hp y (by simp [hy]))
  have h2 := hnn rest (fun y hy => hp y (by simp [hy]))
  have h3 := hp x (by simp)
  refine ⟨h1, h3, ?_⟩
  simp only [sumOf, List.map_append, List.map_cons, List.sum_append, List.sum_cons] at h1 h2 ⊢
  omega

/-- What is told of each file, behind those told before. -/
theorem files_at {L : List (ByteArray × ByteArray)} (h : FineC L) {pre rest : List (ByteArray × Int)} {x : ByteArray × Int} (hx : filesOf L = pre ++ x :: rest) :
    (∃ t, ffind L x.1 = (t, 0) ∧ (t.size : Int) = x.2 ∧ sfind L x.1 = some t) ∧ (Op.bytesLess x.1.toList (lastOf pre).toList || x.1.toList == (lastOf pre).toList) = false ∧ 0 ≤ sumOf pre ∧ 0 ≤ x.2 ∧ sumOf pre + x.2 ≤ fsum L := by
  have hxm : x ∈ filesOf L := by rw [hx]; simp
  obtain ⟨n, hn, rfl⟩ := List.mem_map.1 hxm
  have hnk : n ∈ L.map (·.1) := (names_perm L).mem_iff.1 hn
  obtain ⟨y, hy, rfl⟩ := List.mem_map.1 hnk
  have hf := sfind_mem h.nd y hy
  have hok := h.ok y.1 hnk
  have hpos : ∀ z ∈ filesOf L, 0 ≤ z.2 := fun z hz => by
    obtain ⟨m, _, rfl⟩ := List.mem_map.1 hz
    simp [sizeAt]
  have hsp := sum_part hx hpos
  rw [files_sum h.nd] at hsp
  refine ⟨⟨y.2, by simp [ffind, sizeAt, hok, hf], by simp [sizeAt, hf], by simp [sizeAt, hf]⟩, ?_, hsp.1, hsp.2.1, hsp.2.2⟩
  show (Op.bytesLess y.1.toList (lastOf pre).toList || y.1.toList == (lastOf pre).toList) = false
  unfold lastOf
  cases hg : pre.getLast? with
  | none =>
    have hne : y.1.toList ≠ [] := by
      rw [ByteArray.toList_eq]
      intro e
      have : y.1.data.size = 0 := by rw [← Array.length_toList, e]; rfl
      have h2 : 1 ≤ y.1.size := by have := hok; unfold fname at this; simp at this; exact this.1
      have h3 : y.1.size = y.1.data.size := rfl
      omega
    have e0 : ((Option.map (fun x : ByteArray × Int => x.1) none).getD (⟨#[]⟩ : ByteArray)).toList = [] := by
      rw [ByteArray.toList_eq]; rfl
    rw [e0]
    cases hq : y.1.toList with
    | nil => exact absurd hq hne
    | cons a r => simp [Op.bytesLess]
  | some z =>
    obtain ⟨p0, rfl⟩ := List.getLast?_eq_some_iff.1 hg
    have hmap : namesOf L = (p0.map (·.1)) ++ z.1 :: y.1 :: rest.map (·.1) := by
      have : (filesOf L).map (·.1) = namesOf L := by
        unfold filesOf
        rw [List.map_map]
        exact (List.map_congr_left (fun s _ => rfl)).trans (List.map_id _)
      rw [← this, hx]
      simp [sizeAt]
    have hs := names_sorted h.nd
    rw [hmap] at hs
    unfold bsOf at hs
    rw [List.map_append, List.map_cons, List.map_cons, List.pairwise_append] at hs
    have hlt := (List.pairwise_cons.1 hs.2.1).1 y.1.data.toList (by simp)
    simp only [Option.map_some, Option.getD_some]
    rw [ByteArray.toList_eq, ByteArray.toList_eq, bytesLess_lt]
    simp only [Bool.or_eq_false_iff, decide_eq_false_iff_not, beq_eq_false_iff_ne]
    exact ⟨List.not_lt.2 (List.le_of_lt hlt), fun e => by rw [e] at hlt; exact absurd hlt (List.lt_irrefl _)⟩

theorem lastOf_snoc (pre : List (ByteArray × Int)) (x : ByteArray × Int) : lastOf (pre ++ [x]) = x.1 := by simp [lastOf]
theorem lastOf_nil : lastOf [] = ⟨#[]⟩ := rfl

end Go.Proofs.Yteafbhpjjibdeaa
