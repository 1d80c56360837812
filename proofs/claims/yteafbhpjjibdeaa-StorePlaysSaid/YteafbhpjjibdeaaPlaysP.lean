/-
The document's files are the store's files in the order of their names, in plain words.
-/
import Derived.Test.YteafbhpjjibdeaaWrite23
namespace Go.Proofs.Yteafbhpjjibdeaa
set_option linter.unusedVariables false
set_option linter.unusedSimpArgs false
open Go.RowKit

/-- In rising order of names. -/
def Rising (R : List (ByteArray × ByteArray)) : Prop := R.Pairwise (fun a b => a.1.data.toList < b.1.data.toList)
theorem Rising.eq {R R' : List (ByteArray × ByteArray)} (h : Rising R) (h' : Rising R') (hp : R.Perm R') : R = R' :=
  List.Perm.eq_of_pairwise (le := fun (a b : ByteArray × ByteArray) => a.1.data.toList < b.1.data.toList) (fun a b _ _ (h1 : a.1.data.toList < b.1.data.toList) (h2 : b.1.data.toList < a.1.data.toList) => absurd (List.lt_trans h1 h2) (List.lt_irrefl _)) h h' hp

/-- The store's files, in order. -/
def listOf (L : List (ByteArray × ByteArray)) : List (ByteArray × ByteArray) := (namesOf L).map (fun n => (n, (sfind L n).getD ⟨#[]⟩))
theorem listOf_perm {L : List (ByteArray × ByteArray)} (h : (L.map (·.1)).Nodup) : (listOf L).Perm L := by
  unfold listOf
  have h1 := (names_perm L).map (fun n => (n, (sfind L n).getD (⟨#[]⟩ : ByteArray)))
  refine h1.trans ?_
  rw [List.map_map]
  have : L.map ((fun n => (n, (sfind L n).getD (⟨#[]⟩ : ByteArray))) ∘ (fun x => x.1)) = L.map id := List.map_congr_left (fun x hx => by simp only [Function.comp, sfind_mem h x hx]; rfl)
  rw [this, List.map_id]
theorem listOf_rising {L : List (ByteArray × ByteArray)} (h : (L.map (·.1)).Nodup) : Rising (listOf L) := by
  have := names_sorted h
  unfold bsOf at this
  rw [List.pairwise_map] at this
  unfold Rising listOf
  rw [List.pairwise_map]
  exact this
theorem listOf_eq {L R : List (ByteArray × ByteArray)} (h : (L.map (·.1)).Nodup) (hr : Rising R) (hp : R.Perm L) : R = listOf L :=
  hr.eq (listOf_rising h) (hp.trans (listOf_perm h).symm)
theorem listOf_nil : listOf [] = [] := by
  have := (listOf_perm (L := []) (by simp)).length_eq
  exact List.eq_nil_of_length_eq_zero this
theorem listOf_nodup {L : List (ByteArray × ByteArray)} (h : (L.map (·.1)).Nodup) : ((listOf L).map (·.1)).Nodup := ((listOf_perm h).map (·.1)).nodup_iff.2 h

theorem beqB_iff {a b : ByteArray} : (a == b) = true ↔ a = b := beqB
theorem sans_sdel (n : ByteArray) : ∀ {L : List (ByteArray × ByteArray)}, (L.map (·.1)).Nodup → sans L n = sdel L n
  | [], _ => rfl
  | x :: L, h => by
    simp only [List.map_cons, List.nodup_cons] at h
    by_cases hn : (n == x.1) = true
    · have e : n = x.1 := beqB.1 hn
      simp only [sdel, hn, if_true, sans, List.filter_cons, Bool.not_true, Bool.false_eq_true, if_false]
      rw [List.filter_eq_self]
      intro y hy
      have : n ≠ y.1 := fun e2 => h.1 (by rw [← e, e2]; exact List.mem_map_of_mem hy)
      rw [beqB_ne this]; rfl
    · simp only [Bool.not_eq_true] at hn
      have ih := sans_sdel n h.2
      unfold sans at ih ⊢
      simp only [sdel, hn, List.filter_cons, Bool.not_false, if_true, Bool.false_eq_true, if_false, ih]
theorem sput_perm (n t : ByteArray) : ∀ L : List (ByteArray × ByteArray), (sput L n t).Perm ((n, t) :: sdel L n)
  | [] => by simp [sput, sdel]
  | x :: L => by
    by_cases hn : (n == x.1) = true
    · simp only [sput, sdel, hn, if_true]
      exact List.Perm.refl _
    · simp only [Bool.not_eq_true] at hn
      simp only [sput, sdel, hn, Bool.false_eq_true, if_false]
      exact ((sput_perm n t L).cons x).trans (List.Perm.swap _ _ _)
theorem fsum_perm {a b : List (ByteArray × ByteArray)} (h : a.Perm b) : fsum a = fsum b := by
  have := h.map (fun x : ByteArray × ByteArray => x.2.size)
  unfold fsum
  exact this.sum_nat
theorem sans_perm {L : List (ByteArray × ByteArray)} (h : (L.map (·.1)).Nodup) (n : ByteArray) : (sans (listOf L) n).Perm (sdel L n) := by
  rw [← sans_sdel n h]
  exact (listOf_perm h).filter _
theorem sans_rising {R : List (ByteArray × ByteArray)} (h : Rising R) (n : ByteArray) : Rising (sans R n) := h.filter _
theorem less_iff (f : ByteArray) (x : ByteArray × ByteArray) : lessF f x = true ↔ x.1.data.toList < f.data.toList := by
  unfold lessF
  rw [bytesLess_lt, ByteArray.toList_eq, ByteArray.toList_eq, decide_eq_true_eq]

theorem insert_rising {f : ByteArray × ByteArray} : ∀ {S : List (ByteArray × ByteArray)}, Rising S → (∀ x ∈ S, x.1 ≠ f.1) → Rising (S.takeWhile (lessF f.1) ++ [f] ++ S.dropWhile (lessF f.1))
  | [], _, _ => by simp [Rising]
  | x :: S, h, hn => by
    have h' := List.pairwise_cons.1 h
    cases hx : lessF f.1 x with
    | true =>
      rw [List.takeWhile_cons_of_pos hx, List.dropWhile_cons_of_pos hx]
      have ih := insert_rising (f := f) h'.2 (fun y hy => hn y (by simp [hy]))
      refine List.pairwise_cons.2 ⟨fun y hy => ?_, ih⟩
      have hy : y ∈ S.takeWhile (lessF f.1) ++ [f] ++ S.dropWhile (lessF f.1) := hy
      simp only [List.mem_append, List.mem_cons, List.not_mem_nil, or_false] at hy
      rcases hy with (hy | hy) | hy
      · exact h'.1 y ((List.takeWhile_sublist _).subset hy)
      · subst hy; exact (less_iff _ _).1 hx
      · exact h'.1 y ((List.dropWhile_sublist _).subset hy)
    | false =>
      rw [List.takeWhile_cons_of_neg (by simp [hx]), List.dropWhile_cons_of_neg (by simp [hx])]
      refine List.pairwise_cons.2 ⟨fun y hy => ?_, h⟩
      have hlt : f.1.data.toList < x.1.data.toList := by
        have h1 : ¬ x.1.data.toList < f.1.data.toList := fun hc => by rw [(less_iff _ _).2 hc] at hx; cases hx
        exact bs_lt_of_le_ne _ _ (List.not_lt.1 h1) (fun e => hn x (by simp) (ByteArray.ext (Array.toList_inj.1 e)).symm)
      rcases List.mem_cons.1 hy with rfl | hy
      · exact hlt
      · exact List.lt_trans hlt (h'.1 y hy)

theorem rput_eq (R : List (ByteArray × ByteArray)) (f : ByteArray × ByteArray) : rput R f = (sans R f.1).takeWhile (lessF f.1) ++ [f] ++ (sans R f.1).dropWhile (lessF f.1) := by
  unfold rput
  simp only
  have h := List.takeWhile_append_dropWhile (p := lessF f.1) (l := sans R f.1)
  generalize sans R f.1 = S at h ⊢
  have h1 : S.take (S.takeWhile (lessF f.1)).length = S.takeWhile (lessF f.1) := by
    conv => lhs; arg 2; rw [← h]
    rw [List.take_left]
  have h2 : S.drop (S.takeWhile (lessF f.1)).length = S.dropWhile (lessF f.1) := by
    conv => lhs; arg 2; rw [← h]
    rw [List.drop_left]
  rw [h1, h2]
theorem rput_list {L : List (ByteArray × ByteArray)} (h : (L.map (·.1)).Nodup) (n t : ByteArray) : rput (listOf L) (n, t) = listOf (sput L n t) := by
  refine listOf_eq (sput_keys n t L h).1 ?_ ?_
  · rw [rput_eq]
    refine insert_rising (sans_rising (listOf_rising h) n) (fun x hx => ?_)
    unfold sans at hx
    have := (List.mem_filter.1 hx).2
    intro e
    simp only [e, beqB_self, Bool.not_true] at this
    cases this
  · rw [rput_eq]
    have h0 := List.takeWhile_append_dropWhile (p := lessF n) (l := sans (listOf L) n)
    have h1 : ((sans (listOf L) n).takeWhile (lessF n) ++ [(n, t)] ++ (sans (listOf L) n).dropWhile (lessF n)).Perm ((n, t) :: sans (listOf L) n) := by
      conv => rhs; rw [← h0]
      rw [List.append_assoc]
      exact List.perm_middle
    exact h1.trans (((sans_perm h n).cons _).trans (sput_perm n t L).symm)
theorem sans_list {L : List (ByteArray × ByteArray)} (h : (L.map (·.1)).Nodup) (n : ByteArray) : sans (listOf L) n = listOf (sdel L n) :=
  listOf_eq (h.sublist ((sdel_sublist n L).map _)) (sans_rising (listOf_rising h) n) (sans_perm h n)

theorem sfind_none_iff {L : List (ByteArray × ByteArray)} {n : ByteArray} (h : n ∉ L.map (·.1)) : sfind L n = none := by
  unfold sfind
  rw [List.find?_eq_none.2 (fun x hx => by
    intro e
    exact h (by rw [beqB.1 e]; exact List.mem_map_of_mem hx))]
  rfl
theorem sfind_list {L : List (ByteArray × ByteArray)} (h : (L.map (·.1)).Nodup) (n : ByteArray) : sfind (listOf L) n = sfind L n := by
  by_cases hm : n ∈ L.map (·.1)
  · obtain ⟨x, hx, rfl⟩ := List.mem_map.1 hm
    rw [sfind_mem h x hx, sfind_mem (listOf_nodup h) x ((listOf_perm h).mem_iff.2 hx)]
  · rw [sfind_none_iff hm, sfind_none_iff (fun hc => hm (((listOf_perm h).map (·.1)).mem_iff.1 hc))]
/-- The document's Find over the store's files. -/
theorem rfind_list {L : List (ByteArray × ByteArray)} (h : (L.map (·.1)).Nodup) (n : ByteArray) : (rfind (listOf L) n).2 = (ffind L n).2 ∧ ((ffind L n).2 = 0 → (listOf L)[(rfind (listOf L) n).1]? = some (n, (ffind L n).1)) := by
  have hs := sidx_sfind n (listOf L) 0
  rw [sfind_list h] at hs
  unfold rfind ffind
  cases hf : fname n with
  | false => simp
  | true =>
    simp only [if_true]
    cases hx : sidx (listOf L) n 0 with
    | none =>
      rw [hx] at hs
      simp only [Option.map_none] at hs
      rw [← hs]
      simp
    | some y =>
      rw [hx] at hs
      simp only [Option.map_some] at hs
      rw [← hs]
      refine ⟨rfl, fun _ => ?_⟩
      obtain ⟨_, _, h3⟩ := sidx_lt n (listOf L) 0 (j := y.1) (t := y.2) hx
      obtain ⟨q1, q2, _⟩ := h3 y.1 (by omega)
      cases hq : (listOf L)[y.1]? with
      | none => rw [hq] at q1; simp at q1
      | some z =>
        rw [hq] at q1 q2
        simp at q1 q2
        simp only
        rw [← q1, ← q2]

theorem rwrite_list {L : List (ByteArray × ByteArray)} (h : FineC L) (n t : ByteArray) : rwrite (listOf L) n t = (listOf (fwrite L n t).1, (fwrite L n t).2) := by
  have hl := (listOf_perm (sput_keys n t L h.nd).1).length_eq
  have hf := fsum_perm (listOf_perm (sput_keys n t L h.nd).1)
  have h1 := fsum_sput n t L
  have h2 := sput_length n t L
  have hr := (rfind_list h.nd n).1
  have hle := h.len
  have hol := sfind_le n L
  unfold rwrite fwrite
  rw [hr, rput_list h.nd, hl, hf]
  cases hn : fname n with
  | false =>
    have e : ffind L n = (⟨#[]⟩, 13) := by simp [ffind, hn]
    rw [e]; simp
  | true =>
    simp only [if_true]
    have h13 : (ffind L n).2 ≠ 13 := by
      unfold ffind
      rw [if_pos hn]
      cases sfind L n <;> simp
    rw [if_neg h13]
    have hiff : (16 < (sput L n t).length ∨ 16777216 < fsum (sput L n t)) ↔ (16777216 < fsum L - ((sfind L n).getD ⟨#[]⟩).size + t.size ∨ ((sfind L n).isSome = false ∧ 16 ≤ L.length)) := by
      rw [h2]
      cases hs : (sfind L n).isSome <;> simp <;> omega
    by_cases hc : 16777216 < fsum L - ((sfind L n).getD ⟨#[]⟩).size + t.size ∨ ((sfind L n).isSome = false ∧ 16 ≤ L.length)
    · rw [if_pos hc, if_pos (hiff.2 hc)]
    · rw [if_neg hc, if_neg (fun hx => hc (hiff.1 hx))]
theorem rremove_list {L : List (ByteArray × ByteArray)} (h : FineC L) (n : ByteArray) : rremove (listOf L) n = (listOf (fremove L n).1, (fremove L n).2) := by
  have hr := (rfind_list h.nd n).1
  unfold rremove fremove
  rw [hr]
  by_cases h0 : (ffind L n).2 = 0
  · rw [if_pos h0, if_pos h0, sans_list h.nd]
  · rw [if_neg h0, if_neg h0]
theorem fsum_list {L : List (ByteArray × ByteArray)} (h : FineC L) : fsum (listOf L) = fsum L := fsum_perm (listOf_perm h.nd)
theorem list_len {L : List (ByteArray × ByteArray)} (h : FineC L) : (listOf L).length = L.length := (listOf_perm h.nd).length_eq

/-- The spoilt text, in the document's words and in the program's. -/
theorem rtext_eq (s : ByteArray) (j : Nat) (by_ : Int) (hj : j < s.size) : rtext s j by_ = bturn s (j : Int) by_ := by
  have hd : s.data.size = s.size := rfl
  have hjd : j < s.data.size := hj
  have e1 : (bnums s).getD j 0 = (s.data[j].toNat : Int) := bnums_get s j hjd
  have e2 : s[j]?.getD 0 = s.data[j] := by
    rw [getElem?_pos s j hj]; rfl
  unfold rtext bturn bspoil
  rw [Int.toNat_natCast, e1, e2]
  apply ByteArray.ext
  apply Array.toList_inj.1
  generalize bits .xor .u8 (s.data[j].toNat : Int) by_ = z
  have hb : (bnums s).map (fun n => UInt8.ofNat n.toNat) = s.data.toList := by
    unfold bnums
    rw [List.map_map]
    exact (List.map_congr_left (fun b _ => by simp)).trans (List.map_id _)
  show _ = (((bnums s).set j z).map fun n => UInt8.ofNat n.toNat)
  rw [List.map_set, hb]
  simp only [ByteArray.data_append, ByteArray.data_extract, Array.toList_append, Array.toList_extract, strOfNums, List.extract_eq_take_drop]
  have hlen : s.data.toList.length = s.size := by rw [Array.length_toList]; rfl
  rw [List.set_eq_take_append_cons_drop, if_pos (by rw [hlen]; exact hj)]
  simp
  rw [List.take_of_length_le (by rw [List.length_drop, hlen]; exact Nat.le_refl _)]

end Go.Proofs.Yteafbhpjjibdeaa
