/-
The document's Write, Remove, Spoil over the store's files in order.
-/
import Derived.Test.YteafbhpjjibdeaaAlike
namespace Go.Proofs.Yteafbhpjjibdeaa
set_option linter.unusedVariables false
set_option linter.unusedSimpArgs false
open Go.RowKit

attribute [local go_sem] Oper.semAt_some

theorem list_write_calls (v : Value) (L : List (ByteArray × ByteArray)) (n t : ByteArray) (M : List Nat) (w : World) (h : kFile.slice.At M w [v] (listOf L)) (hM : ∀ k, k ∈ M → k < w.heap.size) (hfc : FineC L) (hfew : fsum L ≤ 16777216) (hn : n.size ≤ maxLen) (ht : t.size ≤ 1000000) :
    Calls Try.prog 29 #[v, .string n, .string t] w fun e w' => ∃ v', e = .returned (.tuple #[v', .int .i64 (fwrite L n t).2]) ∧ Below w.heap.size w w' ∧ kFile.slice.At M w' [v'] (listOf (fwrite L n t).1) := by
  have h1 := fsum_sput n t L
  have h2 := fsum_perm (listOf_perm (sput_keys n t L hfc.nd).1)
  have h3 := list_len hfc
  have h4 := hfc.len
  have := ref_write_calls v (listOf L) n t M w h hM (by omega) hn (by unfold maxLen; omega) (by rw [rput_list hfc.nd, h2]; omega)
  rwa [rwrite_list hfc] at this
theorem list_remove_calls (v : Value) (L : List (ByteArray × ByteArray)) (n : ByteArray) (M : List Nat) (w : World) (h : kFile.slice.At M w [v] (listOf L)) (hM : ∀ k, k ∈ M → k < w.heap.size) (hfc : FineC L) :
    Calls Try.prog 31 #[v, .string n] w fun e w' => ∃ v', e = .returned (.tuple #[v', .int .i64 (fremove L n).2]) ∧ Below w.heap.size w w' ∧ kFile.slice.At M w' [v'] (listOf (fremove L n).1) := by
  have h3 := list_len hfc
  have h4 := hfc.len
  have := ref_remove_calls v (listOf L) n M w h hM (by omega)
  rwa [rremove_list hfc] at this

set_option maxHeartbeats 4000000 in
set_option maxRecDepth 100000 in
theorem list_spoil_calls (v : Value) (L : List (ByteArray × ByteArray)) (n : ByteArray) (i by_ : Int) (M : List Nat) (w : World) (h : kFile.slice.At M w [v] (listOf L)) (hM : ∀ k, k ∈ M → k < w.heap.size) (hfc : FineC L) (hfew : fsum L ≤ 16777216) (hn : n.size ≤ maxLen) (hb0 : 0 ≤ by_) (hb1 : by_ ≤ 255) :
    Calls Try.prog 33 #[v, .string n, .int .i64 i, .int .u8 by_] w fun e w' => ∃ v', e = .returned (.tuple #[v', .int .i64 (fspoil L n i by_).2]) ∧ Below w.heap.size w w' ∧ kFile.slice.At M w' [v'] (listOf (fspoil L n i by_).1) := by
  obtain ⟨hr1, hr2⟩ := rfind_list hfc.nd n
  have hlen := list_len hfc
  have hl16 := hfc.len
  have hle := ffind_le L n
  obtain ⟨k, e, hke⟩ : ∃ k e, rfind (listOf L) n = (k, e) := ⟨_, _, rfl⟩
  rw [hke] at hr1 hr2
  simp only at hr1 hr2
  by_cases h0 : (ffind L n).2 = 0
  · have hk := hr2 h0
    rw [h0] at hr1
    subst hr1
    by_cases hi : 0 ≤ i ∧ i < ((ffind L n).1.size : Int)
    · obtain ⟨j, rfl⟩ : ∃ j : Nat, i = j := ⟨i.toNat, by omega⟩
      have e1 : fspoil L n (j : Int) by_ = (sput L n (bturn (ffind L n).1 j by_), 0) := by simp only [fspoil, h0, if_true]; rw [if_pos hi]
      have := ref_spoil_core v (listOf L) n (ffind L n).1 k j by_ M w h hM (by omega) hn hke hk (by omega) (by omega) hb0 hb1
      rw [rtext_eq _ _ _ (by omega), rput_list hfc.nd] at this
      rw [e1]
      exact this
    · have e1 : fspoil L n i by_ = (L, 1) := by simp only [fspoil, h0, if_true]; rw [if_neg hi]
      rw [e1]
      have HF := ref_find_calls _ (listOf L) n M w h
      rw [hke] at HF
      have HFF := Lib.hid HF
      obtain ⟨b, o, c, hv, _, _, d0, d1, _⟩ := file_at h hk
      subst hv
      have H := Lib.hid h
      obtain ⟨s, hs⟩ : ∃ s, (ffind L n).1 = s := ⟨_, rfl⟩
      rw [hs] at hi d1 hle
      have hkl := (List.getElem?_eq_some_iff.1 hk).1
      obtain ⟨R, hR⟩ : ∃ R, listOf L = R := ⟨_, rfl⟩
      rw [hR] at hkl HFF H ⊢
      have hi' : i < 0 ∨ (s.size : Int) ≤ i := by omega
      have hk1 : (k : Int) < (R.length : Int) := by omega
      have hk0 : (0 : Int) ≤ (k : Int) := by omega
      clear h hM hr2 hk HF hs hke hR hfc e1 hi h0 hlen
      by_cases hi2 : i < 0
      · go_enter Try.func33, Try.ntmps33
        go_wp2_with fail
        refine HFF.out.mono ?_
        rintro e w' ⟨rfl, rfl⟩
        go_wp2_with fail
        go_ret2
        exact ⟨_, rfl, Below.refl _ _, H.out⟩
      · have hi3 : (s.size : Int) ≤ i := by omega
        clear hi'
        go_enter Try.func33, Try.ntmps33
        go_wp2_with fail
        refine HFF.out.mono ?_
        rintro e w' ⟨rfl, rfl⟩
        go_wp2_with fail
        go_ret2
        exact ⟨_, rfl, Below.refl _ _, H.out⟩
  · have e1 : fspoil L n i by_ = (L, (ffind L n).2) := by unfold fspoil; rw [if_neg h0]
    rw [e1]
    have HF := ref_find_calls _ (listOf L) n M w h
    rw [hke] at HF
    rw [hr1] at HF
    have HFF := Lib.hid HF
    obtain ⟨ao, cap, rfl, hl, hcap⟩ := Kd.slice_form h
    have H := Lib.hid h
    obtain ⟨E, hE⟩ : ∃ E, (ffind L n).2 = E := ⟨_, rfl⟩
    rw [hE] at h0 HFF ⊢
    have hb : (E != 0) = true := by simpa using h0
    clear h hM hr1 hr2 HF hke hfc e1 h0 hE hlen
    go_enter Try.func33, Try.ntmps33
    go_wp2_with fail
    refine HFF.out.mono ?_
    rintro e w' ⟨rfl, rfl⟩
    go_wp2_with fail
    go_ret2
    exact ⟨_, rfl, Below.refl _ _, H.out⟩

end Go.Proofs.Yteafbhpjjibdeaa
