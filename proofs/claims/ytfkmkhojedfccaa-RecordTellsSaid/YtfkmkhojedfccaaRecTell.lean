/-
What the document says of a record's bytes is what the program finds by laying it again. No program stands in this text.
-/
import Derived.Test.YtfkmkhojedfccaaRecLaws
namespace Go.Proofs.Ytfkmkhojedfccaa
set_option linter.unusedVariables false
set_option linter.unusedSimpArgs false
open Go.RowKit

theorem rec_split {l : List Int} : l = (l.drop 0).take 1 ++ ((l.drop 1).take 4 ++ ((l.drop 5).take 8 ++ l.drop 13)) := by
  have e1 : (l.drop 5).take 8 ++ l.drop 13 = l.drop 5 := by
    have := List.take_append_drop 8 (l.drop 5)
    rwa [List.drop_drop] at this
  have e2 : (l.drop 1).take 4 ++ l.drop 5 = l.drop 1 := by
    have := List.take_append_drop 4 (l.drop 1)
    rwa [List.drop_drop] at this
  rw [e1, e2, List.drop_zero, List.take_append_drop]
theorem leI_part {l : List Int} {a k : Nat} (h : ∀ x ∈ l, 0 ≤ x ∧ x < 256) (hl : a + k ≤ l.length) : leI k (leV ((l.drop a).take k)) = (l.drop a).take k := by
  have := leI_leV ((l.drop a).take k) (fun x hx => h x (List.mem_of_mem_drop (List.mem_of_mem_take hx)))
  rwa [List.length_take, List.length_drop, Nat.min_eq_left (by omega)] at this
theorem recI_of {l : List Int} (h : ∀ x ∈ l, 0 ≤ x ∧ x < 256) (hl : 13 ≤ l.length) (k : Int) (r : List Int) : recI k (leV ((l.drop 1).take 4)) (wrap64 (leV ((l.drop 5).take 8))) r = leI 1 (IntKind.u64.wrap k) ++ ((l.drop 1).take 4 ++ ((l.drop 5).take 8 ++ r)) := by
  have hm : ∀ a k, ∀ x ∈ (l.drop a).take k, 0 ≤ x ∧ x < 256 := fun a k x hx => h x (List.mem_of_mem_drop (List.mem_of_mem_take hx))
  have b4 := leV_le (k := 4) (hm 1 4) (by rw [List.length_take]; omega)
  have b8 := leV_le (k := 8) (hm 5 8) (by rw [List.length_take]; omega)
  have h4 : (256 : Int) ^ 4 = 4294967296 := by decide
  have h8 : (256 : Int) ^ 8 = 18446744073709551616 := by decide
  rw [h4] at b4
  rw [h8] at b8
  unfold recI
  have e4 : IntKind.u64.wrap (leV ((l.drop 1).take 4)) = leV ((l.drop 1).take 4) := by rw [wrapU]; omega
  have e8 : IntKind.u64.wrap (wrap64 (leV ((l.drop 5).take 8))) = leV ((l.drop 5).take 8) := by rw [wrapU]; unfold wrap64; omega
  rw [e4, e8, leI_part h (by omega), leI_part h (by omega)]
theorem putRec_may {x : Rw} {dim : Int} (h1 : 1 ≤ dim) (h2 : dim ≤ 1024) (hm : mayB x dim = true) : putRec x dim = (strOfNums (putI' x dim), 0) := by
  unfold putRec putI'
  rw [if_neg (by omega), if_neg (by rw [hm]; simp)]
  cases hl : x.leaf with
  | true => rw [if_pos rfl, if_pos rfl, zerosS_eq, recS_eq]
  | false => rw [if_neg (by simp), if_neg (by simp), recS_eq]
theorem all_zero {l : List Int} : l.all (· == 0) = true ↔ l = List.replicate l.length 0 := by
  rw [List.all_eq_true, List.eq_replicate_iff]
  simp

/-- The document's reading of a record. -/
def tellRec (l : List Int) (dim : Int) : Rw × Int :=
  if l[0]? = some 1 then (if (l.drop 13).all (· == 0) && mayB (parseRec l) dim then (parseRec l, 0) else (noRw, 6))
  else if l[0]? = some 2 then (if mayB (parseRec l) dim then (parseRec l, 0) else (noRw, 6)) else (noRw, 6)

theorem getRec_tell {s : ByteArray} {dim : Int} {m : Nat} (hd : dim = m) (h1 : 1 ≤ m) (h2 : m ≤ 1024) (hs : s.size = 13 + 4 * m) : getRec s dim = tellRec (bytesI s) dim := by
  have hl : (bytesI s).length = 13 + 4 * m := by rw [bytesI_len, hs]
  have hb : ∀ x ∈ bytesI s, 0 ≤ x ∧ x < 256 := fun x hx => bytesI_mem hx
  have hse : s = strOfNums (bytesI s) := (str_bytesI s).symm
  have hg : getRec s dim = if putRec (parseRec (bytesI s)) dim = (s, 0) then (parseRec (bytesI s), 0) else (noRw, 6) := by
    unfold getRec
    rw [if_neg (by omega), if_neg (by omega), if_neg (by omega)]
  rw [hg]
  generalize bytesI s = l at *
  obtain ⟨x0, hx0⟩ : ∃ x, l[0]? = some x := ⟨_, List.getElem?_eq_getElem (by omega)⟩
  have ht1 : (l.drop 0).take 1 = [x0] := by
    cases l with
    | nil => simp at hx0
    | cons a l => simp at hx0; simp [hx0]
  have hxb := hb x0 (List.mem_of_getElem? hx0)
  have hlv : leV ((l.drop 0).take 1) = x0 := by rw [ht1]; simp [leV]
  -- whenever it is laid again as it was
  have key : putRec (parseRec l) dim = (s, 0) ↔ (mayB (parseRec l) dim = true ∧ putI' (parseRec l) dim = l) := by
    constructor
    · intro h
      obtain ⟨_, _, p3, p4, _⟩ := putRec_ok (x := parseRec l) (dim := dim) (by rw [h])
      rw [h] at p4
      refine ⟨p3, ?_⟩
      have := hse.symm.trans p4
      exact (str_inj hb (putI'_mem _ _) this).symm
    · rintro ⟨h1', h2'⟩
      rw [putRec_may (by omega) (by omega) h1', h2', ← hse]
  have hdl : (l.drop 13).length = 4 * m := by rw [List.length_drop]; omega
  have hnat : (4 * dim).toNat = 4 * m := by omega
  have hsp := rec_split (l := l)
  rw [ht1] at hsp
  unfold tellRec
  by_cases h01 : x0 = 1
  · subst h01
    rw [if_pos hx0]
    have hp : parseRec l = ⟨true, leV ((l.drop 1).take 4), wrap64 (leV ((l.drop 5).take 8)), ⟨[], 0⟩, 0⟩ := by unfold parseRec; rw [if_pos hlv]
    have hput : putI' (parseRec l) dim = [1] ++ ((l.drop 1).take 4 ++ ((l.drop 5).take 8 ++ List.replicate (4 * m) 0)) := by
      rw [hp]
      unfold putI'
      simp only [if_true]
      rw [recI_of hb (by omega), hnat, show leI 1 (IntKind.u64.wrap 1) = [1] by decide]
    by_cases hz : (l.drop 13).all (· == 0) = true
    · have hz' := all_zero.1 hz
      rw [hdl] at hz'
      have e : putI' (parseRec l) dim = l := by rw [hput, ← hz', ← hsp]
      rw [hz, Bool.true_and]
      by_cases hm : mayB (parseRec l) dim = true
      · rw [if_pos (key.2 ⟨hm, e⟩), if_pos hm]
      · rw [if_neg (fun h => hm (key.1 h).1), if_neg hm]
    · rw [if_neg (fun h => hz ?_), if_neg (by simp only [Bool.and_eq_true]; exact fun h => hz h.1)]
      have e := (key.1 h).2
      rw [hput] at e
      have e2 : l.drop 13 = List.replicate (4 * m) 0 := by
        have := congrArg (List.drop 13) e
        rw [← this]
        have l4 : ((l.drop 1).take 4).length = 4 := by rw [List.length_take, List.length_drop]; omega
        have l8 : ((l.drop 5).take 8).length = 8 := by rw [List.length_take, List.length_drop]; omega
        rw [← List.append_assoc, ← List.append_assoc]
        exact List.drop_left' (by rw [List.length_append, List.length_append, l4, l8]; rfl)
      rw [e2]
      rw [List.all_eq_true]
      intro x hx
      simp [(List.mem_replicate.1 hx).2]
  · have n1 : ¬ l[0]? = some 1 := by rw [hx0]; simpa using h01
    simp only [n1, if_false]
    have hp : parseRec l = ⟨false, 0, 0, ⟨colK (l.drop 13) ((l.length - 13) / 4), wrap64 (leV ((l.drop 5).take 8))⟩, leV ((l.drop 1).take 4)⟩ := by unfold parseRec; rw [if_neg (by rw [hlv]; exact h01)]
    have hput : putI' (parseRec l) dim = [2] ++ ((l.drop 1).take 4 ++ ((l.drop 5).take 8 ++ l.drop 13)) := by
      rw [hp]
      unfold putI'
      simp only [Bool.false_eq_true, if_false]
      rw [recI_of hb (by omega), show (l.length - 13) / 4 = m by omega, row_colK m _ hdl (fun x hx => hb x (List.mem_of_mem_drop hx)), show leI 1 (IntKind.u64.wrap 2) = [2] by decide]
    by_cases h02 : x0 = 2
    · subst h02
      simp only [hx0, if_true]
      have e : putI' (parseRec l) dim = l := by rw [hput, ← hsp]
      by_cases hm : mayB (parseRec l) dim = true
      · rw [if_pos (key.2 ⟨hm, e⟩), if_pos hm]
      · rw [if_neg (fun h => hm (key.1 h).1), if_neg hm]
    · have n2 : ¬ l[0]? = some 2 := by rw [hx0]; simpa using h02
      simp only [n2, if_false]
      rw [if_neg (fun h => h02 ?_)]
      have e := (key.1 h).2
      rw [hput] at e
      rw [← e] at hx0
      simp at hx0
      exact hx0.symm

end Go.Proofs.Ytfkmkhojedfccaa
