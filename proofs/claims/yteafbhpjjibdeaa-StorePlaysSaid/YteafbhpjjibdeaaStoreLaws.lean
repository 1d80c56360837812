/-
The store's first laws: the walks of awake and StoreBack.
-/
import Derived.Test.YteafbhpjjibdeaaStore
namespace Go.Proofs.Yteafbhpjjibdeaa
set_option linter.unusedVariables false
set_option linter.unusedSimpArgs false
open Go.RowKit

theorem Upd.chain {w w1 w2 : World} {S : List Nat} (h : Below w.heap.size w w1) (k : Upd S w1 w2) (hS : ∀ k, k ∈ S → w.heap.size ≤ k) : Below w.heap.size w w2 :=
  h.trans (k.belowB h.size hS)

set_option maxHeartbeats 1000000 in
theorem awake23_calls (w : World) : Calls Try.prog 25 #[] w fun e w' => e = .returned (.bool true) ∧ Below w.heap.size w w' := by
  go_enter Try.func25, Try.ntmps25
  go_wp2_with fail
  refine (new_calls w).mono ?_
  rintro e w1 ⟨rfl, hs1, hb1⟩
  have hp : w.heap.size ≤ w.heap.size + 1 := by omega
  generalize w.heap.size + 1 = p at *
  have HS1 := Lib.hid hs1
  clear hs1
  go_wp2_with fail
  refine (write_calls ⟨#[102]⟩ ⟨#[97, 98]⟩ w1 p _ [] HS1.out (by decide) (by simp)).mono ?_
  rw [show fwrite [] ⟨#[102]⟩ ⟨#[97, 98]⟩ = ([(⟨#[102]⟩, ⟨#[97, 98]⟩)], 0) by decide]
  rintro e w2 ⟨rfl, hs2, hu2⟩
  have HS2 := Lib.hid hs2
  clear hs2
  go_wp2_with fail
  refine (spoil_calls ⟨#[102]⟩ 1 1 w2 p _ _ HS2.out (by decide) (by decide)).mono ?_
  rw [show fspoil [(⟨#[102]⟩, ⟨#[97, 98]⟩)] ⟨#[102]⟩ 1 1 = ([(⟨#[102]⟩, ⟨#[97, 99]⟩)], 0) by rfl]
  rintro e w3 ⟨rfl, hs3, hu3⟩
  have HS3 := Lib.hid hs3
  clear hs3
  go_wp2_with fail
  refine (read_calls ⟨#[102]⟩ w3 p _ _ HS3.out).mono ?_
  rw [show ffind [(⟨#[102]⟩, ⟨#[97, 99]⟩)] ⟨#[102]⟩ = (⟨#[97, 99]⟩, 0) by rfl]
  rintro e w4 ⟨rfl, rfl⟩
  go_wp2_with fail
  refine (bytes_calls w3 p _ _ HS3.out).mono ?_
  rw [show fsum [(⟨#[102]⟩, ⟨#[97, 99]⟩)] = 2 by rfl]
  rintro e w4 ⟨rfl, rfl⟩
  go_wp2_with fail
  go_ret
  have hS : ∀ k, k ∈ [p, w.heap.size] → w.heap.size ≤ k := by simp; exact hp
  exact ⟨rfl, Upd.chain (Upd.chain hb1 hu2 hS) hu3 hS⟩

/-- StoreBack's walk behind its guard, where both names are allowed. -/
theorem fwrite_small (n t : ByteArray) (L : List (ByteArray × ByteArray)) (h : fname n = true) (h1 : fsum L + t.size ≤ 16777216) (h2 : L.length < 16) : fwrite L n t = (sput L n t, 0) := by
  unfold fwrite
  rw [if_pos h, if_neg]
  rintro (h3 | ⟨_, h3⟩) <;> omega
theorem fwrite_bad (n t : ByteArray) (L : List (ByteArray × ByteArray)) (h : fname n = false) : fwrite L n t = (L, 13) := by simp [fwrite, h]

def First (other rest : ByteArray) (L : List (ByteArray × ByteArray)) (f : Int) : Prop :=
  fwrite [] other rest = (L, f) ∧ L.length ≤ 1 ∧ fsum L ≤ 2000 ∧ (f = 0 ∨ f = 13) ∧ (∀ n, (n == other) = false → sfind L n = none) ∧ (ffind L other).2 = f ∧ (f = 0 → (ffind L other).1 = rest)
theorem first_is (other rest : ByteArray) (h : rest.size ≤ 2000) : ∃ L f, First other rest L f := by
  cases ho : fname other with
  | true =>
    refine ⟨[(other, rest)], 0, ?_, by simp, by simpa [fsum] using h, .inl rfl, ?_, ?_, ?_⟩
    · rw [fwrite_small other rest [] ho (by simp [fsum]; omega) (by simp)]; rfl
    · intro n hn; simp [sfind, hn]
    · simp [ffind, ho, sfind, beqB_self]
    · simp [ffind, ho, sfind, beqB_self]
  | false =>
    refine ⟨[], 13, fwrite_bad _ _ _ ho, by simp, by simp [fsum], .inr rfl, ?_, ?_, by simp⟩
    · intro n hn; simp [sfind]
    · simp [ffind, ho]

theorem wf64 {i : Int} (h : (Lit.int .i64 i).wf = true) : -9223372036854775808 ≤ i ∧ i ≤ 9223372036854775807 := by
  simp [Lit.wf, IntKind.min, IntKind.max, IntKind.signed, IntKind.bits] at h
  omega

end Go.Proofs.Yteafbhpjjibdeaa
