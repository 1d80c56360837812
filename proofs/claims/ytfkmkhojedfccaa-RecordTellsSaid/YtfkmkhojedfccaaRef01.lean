/-
The document's fields: ref01.power, Put, Row, Value, Signed.
-/
import Derived.Test.YtfkmkhojedfccaaParse
import Derived.Test.YtfkmkhojedfccaaPureRec
namespace Go.Proofs.Ytfkmkhojedfccaa
set_option linter.unusedVariables false
set_option linter.unusedSimpArgs false
open Go.RowKit

theorem pow256_le : ∀ (n : Nat), n ≤ 7 → (1 : Int) ≤ 256 ^ n ∧ (256 : Int) ^ n ≤ 72057594037927936 := by decide
set_option maxHeartbeats 1000000 in
theorem power_calls (n : Nat) (hn : n ≤ 7) (w : World) : Calls Try.prog 84 #[.int .i64 n] w fun e w' => e = .returned (.int .u64 (256 ^ n : Int)) ∧ w = w' := by
  go_enter Try.func84, Try.ntmps84
  go_wp2_with fail
  go_loopw [3, 4] (fun p i wr => ∃ k : Nat, k ≤ n ∧ i = .int .i64 k ∧ p = .int .u64 (256 ^ k : Int) ∧ wr = w) (fun _ i _ => n - (intOf i).toNat)
  case atStart => exact ⟨0, Nat.zero_le _, rfl, rfl, rfl⟩
  case round =>
    obtain ⟨k, hk, rfl, rfl, rfl⟩ := hrel
    by_cases hlt : k < n
    · obtain ⟨P, hP⟩ : ∃ P : Int, (256 : Int) ^ k = P := ⟨_, rfl⟩
      obtain ⟨Q, hQ⟩ : ∃ P : Int, (256 : Int) ^ (k + 1) = P := ⟨_, rfl⟩
      have hPQ : P * 256 = Q := by rw [← hP, ← hQ, Int.pow_succ]
      have hb := pow256_le (k + 1) (by omega)
      rw [hQ] at hb
      have hw : IntKind.u64.wrap (P * 256) = Q := by rw [hPQ]; exact IntWalk.u64_in _ ⟨by omega, by omega⟩
      have HQ := Lib.hid hQ
      rw [hP]
      clear hP hQ hPQ hb
      go_wp2_with fail
      go_roundw
      case rel => exact ⟨k + 1, by omega, by go_num, by rw [HQ.out], by first | rfl | trivial⟩
      case measure => simp [intOf]; omega
    · obtain rfl : k = n := by omega
      go_wp2_with fail
      go_ret
      exact ⟨rfl, rfl⟩

theorem leV_snoc : ∀ (l : List Int) (x : Int), leV (l ++ [x]) = leV l + x * 256 ^ l.length
  | [], x => by simp [leV]
  | y :: l, x => by
    have ih := leV_snoc l x
    simp only [List.cons_append, leV, List.length_cons, ih, Int.pow_succ]
    rw [Int.mul_add, ← Int.mul_assoc, Int.mul_comm 256 x, Int.mul_assoc, Int.mul_comm 256 (256 ^ l.length)]
    omega

set_option maxHeartbeats 2000000 in
theorem value_calls (s : ByteArray) (hs : s.size ≤ 8) (w : World) : Calls Try.prog 45 #[.string s] w fun e w' => e = .returned (.int .u64 (leV (bytesI s))) ∧ ∃ n, w' = w.drewN n := by
  go_enter Try.func45, Try.ntmps45
  go_wp2_with fail
  go_loopw [3, 4] (fun n i wr => ∃ k : Nat, k ≤ s.size ∧ i = .int .i64 k ∧ n = .int .u64 (leV ((bytesI s).take k)) ∧ Hid (∃ m, wr = w.drewN m)) (fun _ i _ => s.size - (intOf i).toNat)
  case atStart => exact ⟨0, Nat.zero_le _, rfl, by simp [leV], ⟨0, rfl⟩⟩
  case round =>
    obtain ⟨k, hk, rfl, rfl, hw⟩ := hrel
    by_cases hlt : k < s.size
    · obtain ⟨x, hx⟩ : ∃ x, (bytesI s)[k]? = some x := ⟨_, List.getElem?_eq_getElem (by rw [bytesI_len]; omega)⟩
      have hsn := leV_snoc ((bytesI s).take k) x
      rw [← take_snoc' hx, List.length_take, bytesI_len, Nat.min_eq_left (by omega)] at hsn
      have hb := leV_le (k := 8) (fun y (hy : y ∈ (bytesI s).take (k + 1)) => bytesI_mem (List.mem_of_mem_take hy)) (by rw [List.length_take]; omega)
      have hb0 := leV_le (k := 8) (fun y (hy : y ∈ (bytesI s).take k) => bytesI_mem (List.mem_of_mem_take hy)) (by rw [List.length_take]; omega)
      have h8 : (256 : Int) ^ 8 = 18446744073709551616 := by decide
      rw [h8] at hb hb0
      obtain ⟨bt, hbt, rfl⟩ : ∃ bt : UInt8, s[k]? = some bt ∧ ((bt.toNat : Nat) : Int) = x := by
        refine ⟨s[k], by simp [hlt], ?_⟩
        unfold bytesI at hx
        rw [List.getElem?_map, List.getElem?_eq_getElem (by simpa using hlt)] at hx
        exact Option.some.inj hx
      have hix : ∀ W : World, (Instr.index 9 (.string s) (.int .i64 (k : Int))).run Try.prog W = .ok (.int .u8 (bt.toNat : Int)) W := fun W => by
        simp [Instr.index, run_underlying Try.underlying9, asIntOf, hbt, Sem.run_bind, Result.andThen]
      have HP : Hid (∀ W, Calls Try.prog 84 #[.int .i64 k] W fun e w' => e = .returned (.int .u64 (256 ^ k : Int)) ∧ W = w') := Lib.hid (fun W => power_calls k (by omega) W)
      have hpb := pow256_le k (by omega)
      obtain ⟨P, hP⟩ : ∃ P : Int, (256 : Int) ^ k = P := ⟨_, rfl⟩
      rw [hP] at hsn HP hpb
      obtain ⟨N, hN⟩ : ∃ P : Int, leV ((bytesI s).take k) = P := ⟨_, rfl⟩
      obtain ⟨N', hN'⟩ : ∃ P : Int, leV ((bytesI s).take (k + 1)) = P := ⟨_, rfl⟩
      rw [hN] at hsn hb0
      rw [hN'] at hsn hb
      obtain ⟨b, hbn⟩ : ∃ b : Int, (bt.toNat : Int) = b := ⟨_, rfl⟩
      rw [hbn] at hsn
      simp only [hbn] at hix
      have hb1 : 0 ≤ b ∧ b < 256 := by have := bt.toNat_lt; omega
      obtain ⟨Q, hQ⟩ : ∃ Q : Int, b * P = Q := ⟨_, rfl⟩
      have hq0 : 0 ≤ Q := by rw [← hQ]; exact Int.mul_nonneg hb1.1 (by omega)
      rw [hQ] at hsn
      have hw1 : IntKind.u64.wrap (b * P) = Q := by rw [hQ]; exact IntWalk.u64_in _ ⟨by omega, by omega⟩
      have hw2 : IntKind.u64.wrap (N + Q) = N' := by rw [← hsn]; exact IntWalk.u64_in _ ⟨by omega, by omega⟩
      have hw3 : IntKind.u64.wrap b = b := IntWalk.u64_in _ ⟨by omega, by omega⟩
      have HN' := Lib.hid hN'
      have i0 : (0 : Int) ≤ (k : Int) := by omega
      have i1 : (k : Int) < (s.size : Int) := by omega
      rw [hN]
      clear hx hsn hb hb0 h8 hbt hP hN hN' hbn hQ
      go_wp2
      go_quiet ((go_at_call 84; exact Calls.quiet_of_same ((HP.out _).mono (fun _ _ ⟨a, b⟩ => ⟨a, b.symm⟩))))
      go_wp2
      go_roundw
      case rel => exact ⟨k + 1, by omega, by go_num, by rw [HN'.out], by obtain ⟨nn, hnn⟩ := hw.out; exact ⟨nn + nq, by rw [hnn, World.drewN_drewN]⟩⟩
      case measure => simp [intOf]; omega
    · obtain ⟨nn, rfl⟩ := hw
      obtain rfl : k = s.size := by omega
      rw [List.take_of_length_le (by rw [bytesI_len]; exact Nat.le_refl _)]
      go_wp2_with fail
      go_ret
      exact ⟨rfl, nn, rfl⟩

theorem upI_eq : ∀ (k : Nat) (n : Int), 0 ≤ n → upI k n = n / 256 ^ k
  | 0, n, _ => by simp [upI]
  | k + 1, n, h => by
    rw [upI_succ, upI_eq k n h, Int.pow_succ, Int.ediv_ediv_of_nonneg (by have : (0 : Int) < 256 ^ k := Int.pow_pos (by omega); omega)]

/-- A number's digits, one behind the other. -/
theorem str_one (s : ByteArray) (l : List Int) (x : Int) (h : s = strOfNums l) : s ++ strOfNums [x] = strOfNums (l ++ [x]) := by
  rw [h, strOfNums_append]

theorem strNums_size (l : List Int) : (strOfNums l).size = l.length := by
  simp [strOfNums, ByteArray.size]

set_option maxHeartbeats 4000000 in
set_option maxRecDepth 100000 in
theorem ref01_put_calls (n : Int) (z : Nat) (hn : (Lit.int .u64 n).wf = true) (h1 : 1 ≤ z) (h8 : z ≤ 8) (w : World) : Calls Try.prog 41 #[.int .u64 n, .int .i64 z] w fun e w' => e = .returned (.string (strOfNums (leI z n))) ∧ Below w.heap.size w w' := by
  obtain ⟨hn0, hn1⟩ := wf_u64 hn
  have z1 : (1 : Int) ≤ (z : Int) := by omega
  have z8 : (z : Int) ≤ 8 := by omega
  go_enter Try.func41, Try.ntmps41
  go_wp2_with fail
  go_loopw [5, 6] (fun s i wr => ∃ k : Nat, k ≤ z ∧ i = .int .i64 k ∧ s = .string (strOfNums (leI k n)) ∧ Hid (Below w.heap.size w wr)) (fun _ i _ => z - (intOf i).toNat)
  case atStart => exact ⟨0, Nat.zero_le _, rfl, rfl, Below.refl _ _⟩
  case round =>
    obtain ⟨k, hk, rfl, rfl, hw⟩ := hrel
    by_cases hlt : k < z
    · have HP := Lib.hid (power_calls k (by omega) wr)
      have hpb := pow256_le k (by omega)
      have hup := upI_eq k n hn0
      have hsn := leI_snoc k n
      rw [hup] at hsn
      obtain ⟨P, hP⟩ : ∃ P : Int, (256 : Int) ^ k = P := ⟨_, rfl⟩
      rw [hP] at HP hpb hsn
      have hst := strOfNums_append (leI k n) [n / P % 256]
      rw [← hsn] at hst
      obtain ⟨S, hS⟩ : ∃ S, strOfNums (leI k n) = S := ⟨_, rfl⟩
      obtain ⟨S', hS'⟩ : ∃ S, strOfNums (leI (k + 1) n) = S := ⟨_, rfl⟩
      have hsS : S.size = k := by rw [← hS]; exact (strNums_size _).trans (leI_len k n)
      rw [hS, hS'] at hst
      have HST := Lib.hid hst
      have HS' := Lib.hid hS'
      have hq0 : 0 ≤ n / P := Int.ediv_nonneg hn0 (by omega)
      have hq1 : n / P ≤ n := Int.ediv_le_self _ hn0
      have hr0 : 0 ≤ n / P % 256 ∧ n / P % 256 < 256 := by omega
      have hpne : P ≠ 0 := by omega
      obtain ⟨D, hD⟩ : ∃ D, n / P = D := ⟨_, rfl⟩
      rw [hD] at hq0 hq1 hr0 HST
      obtain ⟨E, hE⟩ : ∃ E, D % 256 = E := ⟨_, rfl⟩
      rw [hE] at hr0 HST
      have hw1 : IntKind.u64.wrap (n.tdiv P) = D := by rw [Int.tdiv_eq_ediv_of_nonneg hn0, hD]; exact IntWalk.u64_in _ ⟨by omega, by omega⟩
      have hw2 : D.tmod 256 = E := by rw [Int.tmod_eq_emod_of_nonneg hq0, hE]
      have hw3 : E % 256 = E := Int.emod_eq_of_lt hr0.1 hr0.2
      have hcv : (convert 89 9 (.slice (some ⟨wr.heap.size, 0, none⟩) 1 1)).run Try.prog (wr.alloc (.cells #[.int .u8 E] 5)) = .ok (.string (strOfNums [E])) (wr.alloc (.cells #[.int .u8 E] 5)) :=
        run_convert_bytes_arg (P := Try.prog) _ 89 5 Try.underlying89 Try.underlying5 wr.heap.size 0 1 1 [E] rfl (fun i hi => by
          obtain rfl : i = 0 := by omega
          rw [cell_of_block (Go.heap_alloc_new wr _)]; rfl) 9 Try.underlying9
      obtain ⟨T, hT⟩ : ∃ T, strOfNums [E] = T := ⟨_, rfl⟩
      have hsT : T.size = 1 := by rw [← hT]; exact strNums_size _
      have hk8 : k ≤ 8 := by omega
      rw [hT] at hcv HST
      have hST : S ++ T = S' := HST.out.symm
      have hw' := hw
      rw [hS]
      clear hpb hup hsn hP hst hS hS' hD hE hT hq0 hq1
      go_wp2_with fail
      refine HP.out.mono ?_
      rintro e w2 ⟨rfl, rfl⟩
      go_wp2_with fail
      go_roundw
      case rel => exact ⟨k + 1, by omega, by go_num, by rw [HS'.out], Lib.hid (hw'.out.alloc hw'.out.size _)⟩
      case measure => simp [intOf]; omega
    · obtain rfl : k = z := by omega
      go_wp2_with fail
      go_ret
      exact ⟨rfl, hw.out⟩

theorem rowI_take {l : List Int} {k : Nat} {x : Int} (h : l[k]? = some x) : rowI (l.take (k + 1)) = rowI (l.take k) ++ leI 4 (IntKind.u64.wrap x) := by rw [take_snoc' h, rowI_snoc]

set_option maxHeartbeats 2000000 in
set_option maxRecDepth 100000 in
theorem ref01_row_calls (v : Value) (l : List Int) (M : List Nat) (w : World) (h : (Kd.int .i32).slice.At M w [v] l) (hlen : l.length ≤ 1048576) : Calls Try.prog 42 #[v] w fun e w' => e = .returned (.string (strOfNums (rowI l))) ∧ Below w.heap.size w w' := by
  obtain ⟨ao, cap, rfl, hl, hcap⟩ := Kd.slice_form h
  unfold maxLen at hcap
  have H := Lib.hid h
  clear h
  go_enter Try.func42, Try.ntmps42
  go_wp2_with fail
  go_loopw [3, 4] (fun s i wr => ∃ k : Nat, k ≤ l.length ∧ i = .int .i64 k ∧ s = .string (strOfNums (rowI (l.take k))) ∧ Hid (Below w.heap.size w wr)) (fun _ i _ => l.length - (intOf i).toNat)
  case atStart => exact ⟨0, Nat.zero_le _, rfl, rfl, Below.refl _ _⟩
  case round =>
    obtain ⟨k, hk, rfl, rfl, hw⟩ := hrel
    by_cases hlt : k < l.length
    · obtain ⟨x, hx⟩ : ∃ x, l[k]? = some x := ⟨_, List.getElem?_eq_getElem hlt⟩
      obtain ⟨b, o, c, hvv, _, _, _, _, e0, hwf⟩ := ints_at (H.out.below hw.out) hx
      simp at hvv
      obtain ⟨rfl, rfl⟩ := hvv
      have hrt := rowI_take hx
      have HP := Lib.hid (ref01_put_calls (IntKind.u64.wrap x) 4 (wrap_u64_wf x) (by omega) (by omega) wr)
      have hw1 : IntKind.i64.wrap x = x := by
        have : -2147483648 ≤ x ∧ x ≤ 2147483647 := by simpa [Lit.wf, IntKind.min, IntKind.max, IntKind.signed, IntKind.bits] using hwf
        exact IntWalk.i64_in _ ⟨by omega, by omega⟩
      have hst := strOfNums_append (rowI (l.take k)) (leI 4 (IntKind.u64.wrap x))
      rw [← hrt] at hst
      obtain ⟨S, hS⟩ : ∃ S, strOfNums (rowI (l.take k)) = S := ⟨_, rfl⟩
      obtain ⟨S', hS'⟩ : ∃ S, strOfNums (rowI (l.take (k + 1))) = S := ⟨_, rfl⟩
      obtain ⟨T, hT⟩ : ∃ T, strOfNums (leI 4 (IntKind.u64.wrap x)) = T := ⟨_, rfl⟩
      have hsS : S.size = 4 * k := by rw [← hS, strNums_size, rowI_len, List.length_take, Nat.min_eq_left (by omega)]
      have hsT : T.size = 4 := by rw [← hT, strNums_size, leI_len]
      rw [hS, hS', hT] at hst
      have hST : S ++ T = S' := hst.symm
      have HS' := Lib.hid hS'
      rw [hT] at HP
      have i0 : (0 : Int) ≤ (k : Int) := by omega
      have i1 : (k : Int) < (l.length : Int) := by omega
      rw [hS]
      clear hx hrt hst hS hS' hT
      go_wp2_with fail
      refine HP.out.mono ?_
      rintro e w2 ⟨rfl, hb2⟩
      have HB2 := Lib.hid (hw.out.trans (hb2.mono hw.out.size))
      clear hb2
      go_wp2_with fail
      go_roundw
      case rel => exact ⟨k + 1, by omega, by go_num, by rw [HS'.out], HB2⟩
      case measure => simp [intOf]; omega
    · obtain rfl : k = l.length := by omega
      rw [List.take_length]
      go_wp2_with fail
      go_ret
      exact ⟨rfl, hw.out⟩

set_option maxHeartbeats 1000000 in
theorem ref01_signed4_calls (n : Int) (h0 : 0 ≤ n) (h1 : n < 4294967296) (w : World) : Calls Try.prog 46 #[.int .u64 n, .int .i64 4] w fun e w' => e = .returned (.int .i64 (sgn4 n)) ∧ w = w' := by
  have HP : Hid (∀ W, Calls Try.prog 84 #[.int .i64 4] W fun e w' => e = .returned (.int .u64 4294967296) ∧ W = w') := Lib.hid (fun W => power_calls 4 (by omega) W)
  have ht : n.tmod 4294967296 = n := by rw [Int.tmod_eq_emod_of_nonneg h0]; omega
  have hw : IntKind.i64.wrap n = n := IntWalk.i64_in _ ⟨by omega, by omega⟩
  have hw2 : IntKind.i64.wrap (n - 4294967296) = n - 4294967296 := IntWalk.i64_in _ ⟨by omega, by omega⟩
  have P1 := Lib.hid (HP.out w)
  clear HP
  by_cases hs : n < 2147483648
  · have e : sgn4 n = n := by unfold sgn4; rw [if_pos hs]
    rw [e]
    clear e
    go_enter Try.func46, Try.ntmps46
    go_wp2_with fail
    refine P1.out.mono ?_
    rintro e w2 ⟨rfl, rfl⟩
    go_wp2_with fail
    refine P1.out.mono ?_
    rintro e w2 ⟨rfl, rfl⟩
    go_wp2_with fail
    go_ret
    exact ⟨rfl, rfl⟩
  · have e : sgn4 n = n - 4294967296 := by unfold sgn4; rw [if_neg hs]
    rw [e]
    clear e
    go_enter Try.func46, Try.ntmps46
    go_wp2_with fail
    refine P1.out.mono ?_
    rintro e w2 ⟨rfl, rfl⟩
    go_wp2_with fail
    refine P1.out.mono ?_
    rintro e w2 ⟨rfl, rfl⟩
    go_wp2_with fail
    refine P1.out.mono ?_
    rintro e w2 ⟨rfl, rfl⟩
    go_wp2_with fail
    go_ret
    exact ⟨rfl, rfl⟩

end Go.Proofs.Ytfkmkhojedfccaa
