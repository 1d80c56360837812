/-
The store's first laws: the walks of awake and StoreBack.
-/
import Derived.Test.YtdffiofjdjimkaaStore
namespace Go.Proofs.Ytdffiofjdjimkaa
set_option linter.unusedVariables false
set_option linter.unusedSimpArgs false
open Go.RowKit

theorem Upd.chain {w w1 w2 : World} {S : List Nat} (h : Below w.heap.size w w1) (k : Upd S w1 w2) (hS : ∀ k, k ∈ S → w.heap.size ≤ k) : Below w.heap.size w w2 :=
  h.trans (k.belowB h.size hS)

set_option maxHeartbeats 1000000 in
theorem awake23_calls (w : World) : Calls Try.prog 5 #[] w fun e w' => e = .returned (.bool true) ∧ Below w.heap.size w w' := by
  go_enter Try.func5, Try.ntmps5
  go_wp2_with fail
  refine (new_calls w).mono ?_
  rintro e w1 ⟨rfl, hs1, hb1⟩
  have hp : w.heap.size ≤ w.heap.size + 1 := by omega
  generalize w.heap.size + 1 = p at *
  have HS1 := Lib.hid hs1
  clear hs1
  go_wp2_with fail
  refine (write_calls ⟨#[102]⟩ ⟨#[97, 98]⟩ w1 p _ [] HS1.out (by decide) (by simp)).mono ?_
  rw [show fwrite [] ⟨#[102]⟩ ⟨#[97, 98]⟩ = ([(⟨#[102]⟩, ⟨#[97, 98]⟩)], 0) by decide]
  rintro e w2 ⟨rfl, hs2, hu2⟩
  have HS2 := Lib.hid hs2
  clear hs2
  go_wp2_with fail
  refine (spoil_calls ⟨#[102]⟩ 1 1 w2 p _ _ HS2.out (by decide) (by decide)).mono ?_
  rw [show fspoil [(⟨#[102]⟩, ⟨#[97, 98]⟩)] ⟨#[102]⟩ 1 1 = ([(⟨#[102]⟩, ⟨#[97, 99]⟩)], 0) by rfl]
  rintro e w3 ⟨rfl, hs3, hu3⟩
  have HS3 := Lib.hid hs3
  clear hs3
  go_wp2_with fail
  refine (read_calls ⟨#[102]⟩ w3 p _ _ HS3.out).mono ?_
  rw [show ffind [(⟨#[102]⟩, ⟨#[97, 99]⟩)] ⟨#[102]⟩ = (⟨#[97, 99]⟩, 0) by rfl]
  rintro e w4 ⟨rfl, rfl⟩
  go_wp2_with fail
  refine (bytes_calls w3 p _ _ HS3.out).mono ?_
  rw [show fsum [(⟨#[102]⟩, ⟨#[97, 99]⟩)] = 2 by rfl]
  rintro e w4 ⟨rfl, rfl⟩
  go_wp2_with fail
  go_ret
  have hS : ∀ k, k ∈ [p, w.heap.size] → w.heap.size ≤ k := by simp; exact hp
  exact ⟨rfl, Upd.chain (Upd.chain hb1 hu2 hS) hu3 hS⟩

/-- StoreBack's walk behind its guard, where both names are allowed. -/
theorem fwrite_small (n t : ByteArray) (L : List (ByteArray × ByteArray)) (h : fname n = true) (h1 : fsum L + t.size ≤ 16777216) (h2 : L.length < 16) : fwrite L n t = (sput L n t, 0) := by
  unfold fwrite
  rw [if_pos h, if_neg]
  rintro (h3 | ⟨_, h3⟩) <;> omega
theorem fwrite_bad (n t : ByteArray) (L : List (ByteArray × ByteArray)) (h : fname n = false) : fwrite L n t = (L, 13) := by simp [fwrite, h]

def First (other rest : ByteArray) (L : List (ByteArray × ByteArray)) (f : Int) : Prop :=
  fwrite [] other rest = (L, f) ∧ L.length ≤ 1 ∧ fsum L ≤ 2000 ∧ (f = 0 ∨ f = 13) ∧ (∀ n, (n == other) = false → sfind L n = none) ∧ (ffind L other).2 = f ∧ (f = 0 → (ffind L other).1 = rest)
theorem first_is (other rest : ByteArray) (h : rest.size ≤ 2000) : ∃ L f, First other rest L f := by
  cases ho : fname other with
  | true =>
    refine ⟨[(other, rest)], 0, ?_, by simp, by simpa [fsum] using h, .inl rfl, ?_, ?_, ?_⟩
    · rw [fwrite_small other rest [] ho (by simp [fsum]; omega) (by simp)]; rfl
    · intro n hn; simp [sfind, hn]
    · simp [ffind, ho, sfind, beqB_self]
    · simp [ffind, ho, sfind, beqB_self]
  | false =>
    refine ⟨[], 13, fwrite_bad _ _ _ ho, by simp, by simp [fsum], .inr rfl, ?_, ?_, by simp⟩
    · intro n hn; simp [sfind]
    · simp [ffind, ho]

theorem wf64 {i : Int} (h : (Lit.int .i64 i).wf = true) : -9223372036854775808 ≤ i ∧ i ≤ 9223372036854775807 := by
  simp [Lit.wf, IntKind.min, IntKind.max, IntKind.signed, IntKind.bits] at h
  omega

set_option maxHeartbeats 2000000 in
set_option maxRecDepth 100000 in
theorem storeBack_bad (n o t r : ByteArray) (i by_ : Int) (w : World) (hn : (n.size : Int) ≤ 100) (ho : (o.size : Int) ≤ 100) (ht : (t.size : Int) ≤ 2000) (hr : (r.size : Int) ≤ 2000) (hne : (n == o) = false) (hnm : fname n = false) :
    Calls Try.prog 3 #[.string n, .string o, .string t, .string r, .int .i64 i, .int .u8 by_] w fun e w' => e = .returned (.bool true) ∧ Below w.heap.size w w' := by
  obtain ⟨L, f, hfw, hl, hsum, hf, hno, hof, hor⟩ := first_is o r (by omega)
  have hfw2 := fwrite_bad n t L hnm
  have hne' : (n.toList == o.toList) = false := by rw [strB]; exact hne
  have hd : (n.size : Int) < 1 ∨ 32 < (n.size : Int) := by simp [fname] at hnm; omega
  have HFW := Lib.hid hfw
  have HFW2 := Lib.hid hfw2
  clear hfw hfw2 hf hno hof hor hnm
  go_enter Try.func3, Try.ntmps3
  go_wp2_with fail
  refine (awake23_calls w).mono ?_
  rintro e w0 ⟨rfl, hb0⟩
  go_wp2_with fail
  refine (new_calls w0).mono ?_
  rintro e w1 ⟨rfl, hs1, hb1⟩
  have hp : w0.heap.size ≤ w0.heap.size + 1 := by omega
  generalize w0.heap.size + 1 = p at *
  have HS1 := Lib.hid hs1
  clear hs1
  go_wp2_with fail
  refine (write_calls o r w1 p _ [] HS1.out (by omega) (by simp)).mono ?_
  rw [HFW.out]
  rintro e w2 ⟨rfl, hs2, hu2⟩
  have HS2 := Lib.hid hs2
  clear hs2
  go_wp2_with fail
  refine (write_calls n t w2 p _ L HS2.out (by omega) (by omega)).mono ?_
  rw [HFW2.out]
  rintro e w3 ⟨rfl, hs3, hu3⟩
  clear hs3 HS2 HS1
  rcases hd with hd | hd
  all_goals
    go_wp2_with fail
    go_ret
    have hS : ∀ k, k ∈ [p, w0.heap.size] → w0.heap.size ≤ k := by simp; exact hp
    exact ⟨rfl, hb0.trans ((Upd.chain (Upd.chain hb1 hu2 hS) hu3 hS).mono hb0.size)⟩

set_option maxHeartbeats 2000000 in
set_option maxRecDepth 100000 in
theorem storeBack_good (n o t r : ByteArray) (i by_ : Int) (w : World) (hn : (n.size : Int) ≤ 100) (ho : (o.size : Int) ≤ 100) (ht : (t.size : Int) ≤ 2000) (hr : (r.size : Int) ≤ 2000) (hne : (n == o) = false) (hnm : fname n = true)
    (hi : (Lit.int .i64 i).wf = true) (h0 : 0 ≤ by_) (h1 : by_ ≤ 255) :
    Calls Try.prog 3 #[.string n, .string o, .string t, .string r, .int .i64 i, .int .u8 by_] w fun e w' => e = .returned (.bool true) ∧ Below w.heap.size w w' := by
  obtain ⟨hi1, hi2⟩ := wf64 hi
  clear hi
  obtain ⟨L, f, hfw, hl, hsum, hf, hno, hof, hor⟩ := first_is o r (by omega)
  have hon : (o == n) = false := beqB_false.2 (fun e => beqB_false.1 hne e.symm)
  have hfw2 := fwrite_small n t L hnm (by omega) (by omega)
  have hne' : (n.toList == o.toList) = false := by rw [strB]; exact hne
  have hd1 : 1 ≤ (n.size : Int) := by simp [fname] at hnm; omega
  have hd2 : (n.size : Int) ≤ 32 := by simp [fname] at hnm; omega
  have hx1 := ffind_sput_same n t L hnm
  -- what the two turns leave
  have hq : ∃ (c : Int) (mid : ByteArray) (L3 L4 : List (ByteArray × ByteArray)), fspoil (sput L n t) n i by_ = (L3, c) ∧ ffind L3 n = (mid, 0) ∧ fspoil L3 n i by_ = (L4, c) ∧ ffind L4 n = (t, 0) ∧ ffind L4 o = ffind L o ∧
      ((0 ≤ i ∧ i < t.size ∧ c = 0 ∧ (mid == t) = (by_ == 0)) ∨ ((i < 0 ∨ (t.size : Int) ≤ i) ∧ c = 1 ∧ mid = t)) := by
    by_cases h : 0 ≤ i ∧ i < (t.size : Int)
    · refine ⟨0, bturn t i by_, sput (sput L n t) n (bturn t i by_), sput (sput (sput L n t) n (bturn t i by_)) n t, ?_, ffind_sput_same _ _ _ hnm, ?_, ffind_sput_same _ _ _ hnm, ?_, .inl ⟨h.1, h.2, rfl, ?_⟩⟩
      · simp only [fspoil, hx1, if_true]; rw [if_pos h]
      · simp only [fspoil, ffind_sput_same _ _ _ hnm, if_true]
        rw [if_pos (by rw [bturn_size]; exact h), bturn_twice t i by_ h.1 h.2 h0 h1]
      · rw [ffind_sput_other _ _ _ hon, ffind_sput_other _ _ _ hon, ffind_sput_other _ _ _ hon]
      · rw [Bool.eq_iff_iff, beqB, bturn_same t i by_ h.1 h.2 h0 h1]; simp
    · refine ⟨1, t, sput L n t, sput L n t, ?_, hx1, ?_, hx1, ffind_sput_other _ _ _ hon _, .inr ⟨by omega, rfl, rfl⟩⟩
      · simp only [fspoil, hx1, if_true]; rw [if_neg h]
      · simp only [fspoil, hx1, if_true]; rw [if_neg h]
  obtain ⟨c, mid, L3, L4, q1, q2, q3, q4, q5, hcase⟩ := hq
  have hfo : ffind L o = ((ffind L o).1, f) := by rw [← hof]
  rw [hfo] at q5
  generalize hu : (ffind L o).1 = u at *
  have HFW := Lib.hid hfw
  have HFW2 := Lib.hid hfw2
  have Q1 := Lib.hid q1
  have Q2 := Lib.hid q2
  have Q3 := Lib.hid q3
  have Q4 := Lib.hid q4
  have Q5 := Lib.hid q5
  have HC := Lib.hid hcase
  have HF := Lib.hid hf
  have HOR := Lib.hid hor
  clear hfw hfw2 hf hno hof hor hnm q1 q2 q3 q4 q5 hcase hx1 hfo hu hon
  go_enter Try.func3, Try.ntmps3
  go_wp2_with fail
  refine (awake23_calls w).mono ?_
  rintro e w0 ⟨rfl, hb0⟩
  go_wp2_with fail
  refine (new_calls w0).mono ?_
  rintro e w1 ⟨rfl, hs1, hb1⟩
  have hp : w0.heap.size ≤ w0.heap.size + 1 := by omega
  generalize w0.heap.size + 1 = p at *
  have HS1 := Lib.hid hs1
  clear hs1
  go_wp2_with fail
  refine (write_calls o r w1 p _ [] HS1.out (by omega) (by simp)).mono ?_
  rw [HFW.out]
  rintro e w2 ⟨rfl, hs2, hu2⟩
  have HS2 := Lib.hid hs2
  clear hs2
  go_wp2_with fail
  refine (write_calls n t w2 p _ L HS2.out (by omega) (by omega)).mono ?_
  rw [HFW2.out]
  rintro e w3 ⟨rfl, hs3, hu3⟩
  have HS3 := Lib.hid hs3
  clear hs3 HS2 HS1
  go_wp2_with fail
  refine (spoil_calls n i by_ w3 p _ _ HS3.out h0 h1).mono ?_
  rw [Q1.out]
  rintro e w4 ⟨rfl, hs4, hu4⟩
  have HS4 := Lib.hid hs4
  clear hs4 HS3
  go_wp2_with fail
  refine (read_calls n w4 p _ _ HS4.out).mono ?_
  rw [Q2.out]
  rintro e w5 ⟨rfl, rfl⟩
  go_wp2_with fail
  refine (spoil_calls n i by_ w4 p _ _ HS4.out h0 h1).mono ?_
  rw [Q3.out]
  rintro e w5 ⟨rfl, hs5, hu5⟩
  have HS5 := Lib.hid hs5
  clear hs5 HS4
  go_wp2_with fail
  refine (read_calls n w5 p _ _ HS5.out).mono ?_
  rw [Q4.out]
  rintro e w6 ⟨rfl, rfl⟩
  have hall : Below w.heap.size w w5 := by
    have hS : ∀ k, k ∈ [p, w0.heap.size] → w0.heap.size ≤ k := by simp; exact hp
    exact hb0.trans ((Upd.chain (Upd.chain (Upd.chain (Upd.chain hb1 hu2 hS) hu3 hS) hu4 hS) hu5 hS).mono hb0.size)
  have HALL := Lib.hid hall
  clear hall hu2 hu3 hu4 hu5 hb0 hb1
  have hlast : ∀ K : Ending → World → Prop, (f = 0 → K (.returned (.tuple #[.string r, .int .i64 0])) w5) → (f = 13 → K (.returned (.tuple #[.string u, .int .i64 13])) w5) → ∀ e w', (e = .returned (.tuple #[.string u, .int .i64 f]) ∧ w5 = w') → K e w' := by
    rintro K k1 k2 e w' ⟨rfl, rfl⟩
    rcases HF.out with h | h
    · have := HOR.out h; subst this; subst h; exact k1 rfl
    · subst h; exact k2 rfl
  have HL := Lib.hid hlast
  clear hlast
  rcases HC.out with ⟨c1, c2, c3, c4⟩ | ⟨c1, c2, c3⟩
  · subst c3
    clear HC
    rw [← strB] at c4
    by_cases hz : by_ = 0
    · subst hz
      have c5 : (mid.toList == t.toList) = true := by rw [c4]; rfl
      clear c4
      go_wp2_with fail
      refine (read_calls o w5 p _ _ HS5.out).mono ?_
      rw [Q5.out]
      refine HL.out _ ?_ ?_
      all_goals
        intro hf
        subst hf
        clear HL
        go_wp2_with fail
        go_ret
        exact ⟨rfl, HALL.out⟩
    · have hz' : (by_ == 0) = false := by simpa using hz
      have hz2 : (by_ != 0) = true := by simpa using hz
      have c5 : (mid.toList == t.toList) = false := by rw [c4]; exact hz'
      clear c4
      go_wp2_with fail
      refine (read_calls o w5 p _ _ HS5.out).mono ?_
      rw [Q5.out]
      refine HL.out _ ?_ ?_
      all_goals
        intro hf
        subst hf
        clear HL
        go_wp2_with fail
        go_ret
        exact ⟨rfl, HALL.out⟩
  · subst c2 c3
    clear HC
    rcases c1 with c1 | c1
    all_goals
      go_wp2_with fail
      refine (read_calls o w5 p _ _ HS5.out).mono ?_
      rw [Q5.out]
      refine HL.out _ ?_ ?_
      all_goals
        intro hf
        subst hf
        clear HL
        go_wp2_with fail
        go_ret
        exact ⟨rfl, HALL.out⟩

set_option maxHeartbeats 2000000 in
set_option maxRecDepth 100000 in
theorem storeBack_guard (n o t r : ByteArray) (i by_ : Int) (w : World) (h : 2000 < (t.size : Int) ∨ (t.size : Int) ≤ 2000 ∧ (2000 < (r.size : Int) ∨ (r.size : Int) ≤ 2000 ∧ (100 < (n.size : Int) ∨ (n.size : Int) ≤ 100 ∧ (100 < (o.size : Int) ∨ (o.size : Int) ≤ 100 ∧ (n.toList == o.toList) = true)))) :
    Calls Try.prog 3 #[.string n, .string o, .string t, .string r, .int .i64 i, .int .u8 by_] w fun e w' => e = .returned (.bool true) ∧ Below w.heap.size w w' := by
  rcases h with h | ⟨_, h | ⟨_, h | ⟨_, h | ⟨_, h⟩⟩⟩⟩
  all_goals
    go_enter Try.func3, Try.ntmps3
    go_wp2_with fail
    refine (awake23_calls w).mono ?_
    rintro e w0 ⟨rfl, hb0⟩
    go_wp2_with fail
    go_ret
    exact ⟨rfl, hb0⟩

theorem StoreBack_walk (a0 a1 a2 a3 : ByteArray) (a4 a5 : Int) (w : World) (w0 : a0.size ≤ 140737488351232) (w1 : a1.size ≤ 140737488351232) (w2 : a2.size ≤ 140737488351232) (w3 : a3.size ≤ 140737488351232) (w4 : (Lit.int .i64 a4).wf = true) (w5 : (Lit.int .u8 a5).wf = true) :
    Calls Try.prog 3 #[.string a0, .string a1, .string a2, .string a3, .int .i64 a4, .int .u8 a5] w fun e w' => e = .returned (.bool true) ∧ Below w.heap.size w w' := by
  have hb : 0 ≤ a5 ∧ a5 ≤ 255 := by
    simp [Lit.wf, IntKind.min, IntKind.max, IntKind.signed, IntKind.bits] at w5
    omega
  by_cases g : (a2.size : Int) ≤ 2000 ∧ (a3.size : Int) ≤ 2000 ∧ (a0.size : Int) ≤ 100 ∧ (a1.size : Int) ≤ 100 ∧ (a0.toList == a1.toList) = false
  · obtain ⟨h1, h2, h3, h4, h5⟩ := g
    rw [strB] at h5
    cases hn : fname a0 with
    | true => exact storeBack_good a0 a1 a2 a3 a4 a5 w h3 h4 h1 h2 h5 hn w4 hb.1 hb.2
    | false => exact storeBack_bad a0 a1 a2 a3 a4 a5 w h3 h4 h1 h2 h5 hn
  · refine storeBack_guard a0 a1 a2 a3 a4 a5 w ?_
    by_cases h1 : (a2.size : Int) ≤ 2000
    · by_cases h2 : (a3.size : Int) ≤ 2000
      · by_cases h3 : (a0.size : Int) ≤ 100
        · by_cases h4 : (a1.size : Int) ≤ 100
          · have h5 : (a0.toList == a1.toList) = true := by
              cases h : (a0.toList == a1.toList) with
              | true => rfl
              | false => exact absurd ⟨h1, h2, h3, h4, h⟩ g
            exact .inr ⟨h1, .inr ⟨h2, .inr ⟨h3, .inr ⟨h4, h5⟩⟩⟩⟩
          · exact .inr ⟨h1, .inr ⟨h2, .inr ⟨h3, .inl (by omega)⟩⟩⟩
        · exact .inr ⟨h1, .inr ⟨h2, .inl (by omega)⟩⟩
      · exact .inr ⟨h1, .inl (by omega)⟩
    · exact .inl (by omega)

end Go.Proofs.Ytdffiofjdjimkaa
