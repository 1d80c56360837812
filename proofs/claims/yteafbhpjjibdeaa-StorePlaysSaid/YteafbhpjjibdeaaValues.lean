/-
slices.Values of lists of ids; the document's example of marks.
-/
import Derived.Test.YteafbhpjjibdeaaUniqM
import Derived.Test.YteafbhpjjibdeaaRefB
import Derived.Test.YteafbhpjjibdeaaCovers
namespace Go.Proofs.Yteafbhpjjibdeaa
set_option linter.unusedVariables false
set_option linter.unusedSimpArgs false
open Go.RowKit

attribute [local go_sem] Oper.semAt_some

set_option maxHeartbeats 2000000 in
set_option maxRecDepth 100000 in
theorem values_it (bx : Nat) (v : Value) (t : TypeId) (xs : List (List Int)) (w : World) (hb : w.heap[bx]? = some (.cells #[v] t)) (N : List Nat) (hbN : bx ∉ N) (h : (Kd.int .i64).slice.slice.At N w [v] xs) :
    ItFrom Try.prog w N 45 #[.pointer (some ⟨bx, 0, none⟩)] xs valInts := by
  intro W0 lp M0 hW hlp hM0 J Jx hJ hY hlpl hMl h0
  obtain ⟨ao, cap, rfl, hl, hcap⟩ := Kd.slice_form h
  have hbx := block_lt hb
  have D0 : (Kd.int .i64).slice.slice.At (lp :: M0) W0 [.slice ao xs.length cap] xs := h.upd hW (fun k hk => hk) (fun k hk => by rcases List.mem_cons.1 hk with rfl | hk; exact .inr hlp; exact hM0 k hk)
  have B0 : W0.heap[bx]? = some (.cells #[.slice ao xs.length cap] t) := (hW.block bx hbx hbN).trans hb
  have hs0 := hW.size
  unfold maxLen at hcap
  have c0 : W0.cell? ⟨bx, 0, none⟩ = some (.slice ao xs.length cap) := by rw [cell_of_block B0]; rfl
  have DD0 := Lib.hid D0
  have HJ := Lib.hid hJ
  have HY := Lib.hid hY
  have HM := Lib.hid hMl
  have HM0 := Lib.hid hM0
  have H0 := Lib.hid h0
  clear D0 B0 hJ hY h hb hMl hM0 h0 hW
  refine callsIn_of_wp Try.func45 rfl trivial ?_
  simp only [Try.ntmps45, List.size_toArray, List.length_cons, List.length_nil, Nat.reduceAdd, Nat.reduceSub, Array.replicate_succ, Array.replicate_zero, List.push_toArray, List.append_toArray, List.nil_append, List.cons_append]
  gi_wp2
  gi_loopw [7] (fun i wr => ∃ (k : Nat) (M : List Nat), k ≤ xs.length ∧ i = .int .i64 k ∧ Hid (J (xs.take k) M wr) ∧ Hid ((Kd.int .i64).slice.slice.At (lp :: M) wr [.slice ao xs.length cap] xs) ∧ Hid (∀ k, k ∈ M → k < wr.heap.size) ∧ W0.heap.size ≤ wr.heap.size) (fun i _ => xs.length - (intOf i).toNat)
  case atStart => exact ⟨0, M0, Nat.zero_le _, rfl, H0.out, DD0.out, HM.out, Nat.le_refl _⟩
  case round =>
    clear c0
    obtain ⟨k, M, hk, rfl, hj, hd, hm, hsz⟩ := hrel
    by_cases hlt : k < xs.length
    · obtain ⟨x, hx⟩ : ∃ x, xs[k]? = some x := ⟨_, List.getElem?_eq_getElem hlt⟩
      obtain ⟨b, o, c, vi, hv, hbs, _, _, _, c0, hi⟩ := lists_at hd.out hx
      simp at hv
      obtain ⟨rfl, rfl⟩ := hv
      have hrest : xs = xs.take k ++ x :: xs.drop (k + 1) := by
        rw [← (List.getElem?_eq_some_iff.1 hx).2, ← List.drop_eq_getElem_cons hlt, List.take_append_drop]
      have HR := Lib.hid hrest
      have htk : xs.take (k + 1) = xs.take k ++ [x] := take_snoc' hx
      have HTK := Lib.hid htk
      obtain ⟨fn, tmps, assign, body, hy, hRR⟩ := HY.out _ _ _ M wr #[vi] HR.out hj.out ⟨vi, rfl, hi⟩ hm.out 0
      clear hx hrest htk hi
      gi_wp2
      refine ⟨rfl, hRR.mono ?_⟩
      rintro e w3 ⟨M', hU3, hM', hcase⟩
      have hz3 := hU3.size
      have HD3 := Lib.hid (hd.out.upd hU3 (fun k hk => hk) (M' := lp :: M') (fun k hk => by
        rcases List.mem_cons.1 hk with rfl | hk
        · exact .inl (by simp)
        · rcases (hM' k hk).2 with h | h
          · exact .inl (by simp [h])
          · exact .inr h))
      have HM3 := Lib.hid (fun k hk => (hM' k hk).1)
      rcases hcase with ⟨rfl, hj3⟩ | ⟨rfl, hj3⟩
      · have HJ3 := Lib.hid hj3
        clear hU3 hM' hj3 hRR hy c0
        gi_wp2
        go_roundw
        case rel => exact ⟨k + 1, M', by omega, by go_num, by rw [HTK.out]; exact HJ3.out, HD3.out, HM3.out, by omega⟩
        case measure => simp [intOf]; omega
      · have HJ3 := Lib.hid hj3
        clear hU3 hM' hj3 hRR hy c0
        gi_wp2
        refine bodyPost_ret (results_none rfl _ _ _) rfl ?_
        exact ⟨⟨_, rfl⟩, M', .inr ⟨_, ⟨xs.drop (k + 1), by rw [List.append_assoc]; exact HR.out.symm⟩, HJ3.out⟩⟩
    · gi_wp2
      go_end0
      have hkl : k = xs.length := by omega
      subst hkl
      rw [List.take_length] at hj
      exact ⟨⟨_, rfl⟩, M, .inl hj.out⟩

theorem values_calls (v : Value) (xs : List (List Int)) (M : List Nat) (w : World) (h : (Kd.int .i64).slice.slice.At M w [v] xs) (hM : ∀ k, k ∈ M → k < w.heap.size) :
    Calls Try.prog 16 #[v] w fun e w' => ∃ bx, e = .returned (.func (.func 45) #[] #[.pointer (some ⟨bx, 0, none⟩)]) ∧ Below w.heap.size w w' ∧
      ItFrom Try.prog w' M 45 #[.pointer (some ⟨bx, 0, none⟩)] xs valInts := by
  have hit : ∀ W t, Upd [] w W → W.heap[w.heap.size]? = some (.cells #[v] t) → ItFrom Try.prog W M 45 #[.pointer (some ⟨w.heap.size, 0, none⟩)] xs valInts := fun W t hu hb =>
    values_it w.heap.size v t xs W hb M (fun hm => by have := hM _ hm; omega) (h.upd hu (by simp) (fun k hk => .inl hk))
  obtain ⟨ao, cap, rfl, _, _⟩ := Kd.slice_form h
  have HIT := Lib.hid hit
  have HB := Lib.hid (fun o => (Below.refl _ w).alloc (Nat.le_refl _) o)
  clear hit h hM
  go_enter Try.func16, Try.ntmps16
  go_wp2_with fail
  go_ret
  exact ⟨_, rfl, HB.out _, HIT.out _ _ (Upd.alloc [] w _) (Go.heap_alloc_new w _)⟩

theorem covers_ref' (k : Int) (xs : List (List Int)) : covers k xs = coversRef k xs := by
  by_cases hk : 0 ≤ k
  · exact covers_ref k hk xs
  · have e1 : covers k xs = covers 0 xs := by unfold covers; rw [show k.toNat = (0 : Int).toNat by omega]
    have e2 : coversRef k xs = coversRef 0 xs := by simp only [coversRef, show max k 0 = (0 : Int) by omega, show max (0 : Int) 0 = 0 by omega]
    rw [e1, e2, covers_ref 0 (by omega)]

end Go.Proofs.Yteafbhpjjibdeaa
