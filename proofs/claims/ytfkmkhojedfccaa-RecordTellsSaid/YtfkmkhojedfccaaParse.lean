/-
What bytes tell: field.Get, field.Signed.
-/
import Derived.Test.YtfkmkhojedfccaaRecSame
namespace Go.Proofs.Ytfkmkhojedfccaa
set_option linter.unusedVariables false
set_option linter.unusedSimpArgs false
open Go.RowKit

/-- The number that bytes tell, the lowest first. -/
def leV : List Int → Int
  | [] => 0
  | x :: l => x + 256 * leV l
theorem leV_bound : ∀ (l : List Int), (∀ x ∈ l, 0 ≤ x ∧ x < 256) → 0 ≤ leV l ∧ leV l < 256 ^ l.length
  | [], _ => by simp [leV]
  | x :: l, h => by
    have h1 := h x (by simp)
    have ⟨h2, h3⟩ := leV_bound l (fun y hy => h y (by simp [hy]))
    rw [leV, List.length_cons, Int.pow_succ]
    omega
theorem leV_le {l : List Int} {k : Nat} (h : ∀ x ∈ l, 0 ≤ x ∧ x < 256) (hk : l.length ≤ k) : 0 ≤ leV l ∧ leV l < 256 ^ k := by
  have ⟨h2, h3⟩ := leV_bound l h
  have h5 : (256 : Nat) ^ l.length ≤ 256 ^ k := Nat.pow_le_pow_right (by omega) hk
  have h6 : (256 : Int) ^ l.length = ((256 ^ l.length : Nat) : Int) := by simp
  have h7 : (256 : Int) ^ k = ((256 ^ k : Nat) : Int) := by simp
  omega
theorem leI_leV : ∀ (l : List Int), (∀ x ∈ l, 0 ≤ x ∧ x < 256) → leI l.length (leV l) = l
  | [], _ => rfl
  | x :: l, h => by
    have h1 := h x (by simp)
    have h2 := leI_leV l (fun y hy => h y (by simp [hy]))
    rw [List.length_cons, leI, leV, show (x + 256 * leV l) % 256 = x by omega, show (x + 256 * leV l) / 256 = leV l by omega, h2]
theorem leV_leI4 {n : Int} (h0 : 0 ≤ n) (h1 : n < 4294967296) : leV (leI 4 n) = n := by
  simp only [leI, leV]; omega
theorem leV_leI8 {n : Int} (h0 : 0 ≤ n) (h1 : n < 18446744073709551616) : leV (leI 8 n) = n := by
  simp only [leI, leV]; omega
theorem leV_leI1 {n : Int} (h0 : 0 ≤ n) (h1 : n < 256) : leV (leI 1 n) = n := by
  simp only [leI, leV]; omega
theorem bytesI_mem {s : ByteArray} {x : Int} (h : x ∈ bytesI s) : 0 ≤ x ∧ x < 256 := by
  unfold bytesI at h
  obtain ⟨b, _, rfl⟩ := List.mem_map.1 h
  have := b.toNat_lt
  omega
theorem part_mem {s : ByteArray} {a k : Nat} {x : Int} (h : x ∈ ((bytesI s).drop a).take k) : 0 ≤ x ∧ x < 256 := bytesI_mem (List.mem_of_mem_drop (List.mem_of_mem_take h))
theorem part_cons {l : List Int} {a k : Nat} {x : Int} (h : l[a]? = some x) : (l.drop a).take (k + 1) = x :: (l.drop (a + 1)).take k := by
  rw [List.drop_eq_getElem_cons (List.getElem?_eq_some_iff.1 h).1, (List.getElem?_eq_some_iff.1 h).2, List.take_succ_cons]

set_option maxHeartbeats 2000000 in
theorem field_get_calls (s : ByteArray) (a z : Nat) (hz1 : 1 ≤ z) (hz8 : z ≤ 8) (haz : a + z ≤ s.size) (hs : s.size ≤ 1099511627776) (w : World) :
    Calls Try.prog 43 #[.string s, .int .i64 a, .int .i64 z] w fun e w' => e = .returned (.tuple #[.int .u64 (leV (((bytesI s).drop a).take z)), .bool true]) ∧ w = w' := by
  have HO := Lib.hid (field_odd_calls z w)
  have ho : decide ((z : Int) < 1 ∨ 8 < (z : Int)) = false := by simp; omega
  rw [ho] at HO
  obtain ⟨r, hr⟩ : ∃ r, leV (((bytesI s).drop a).take z) = r := ⟨_, rfl⟩
  rw [hr]
  have HR := Lib.hid hr
  clear ho hr
  have f1 : (0 : Int) ≤ (a : Int) := by omega
  have f2 : (a : Int) ≤ (s.size : Int) - (z : Int) := by omega
  have f3 : (z : Int) ≤ 8 := by omega
  have f4 : (s.size : Int) ≤ 1099511627776 := by omega
  have f5 : (1 : Int) ≤ z := by omega
  go_enter Try.func43, Try.ntmps43
  go_wp2_with fail
  refine HO.out.mono ?_
  rintro e w1 ⟨rfl, rfl⟩
  go_wp2_with fail
  go_loopw [8, 9] (fun n k wr => ∃ i : Nat, i ≤ z ∧ k = .int .i64 ((a : Int) + i - 1) ∧ n = .int .u64 (leV (((bytesI s).drop (a + i)).take (z - i))) ∧ wr = w) (fun _ k _ => (intOf k + 1 - a).toNat)
  case atStart => exact ⟨z, Nat.le_refl _, by congr 1, by simp [leV], rfl⟩
  case round =>
    obtain ⟨i, hi, rfl, rfl, rfl⟩ := hrel
    cases i with
    | zero =>
      have e1 : (a : Int) + (0 : Nat) - 1 = (a : Int) - 1 := by omega
      rw [e1]
      have e2 : leV (((bytesI s).drop (a + 0)).take (z - 0)) = r := by rw [Nat.add_zero, Nat.sub_zero]; exact HR.out
      rw [e2]
      clear e1 e2
      have g1 : (a : Int) - 1 < (a : Int) := by omega
      go_wp2_with fail
      go_ret2
      exact ⟨rfl, rfl⟩
    | succ i =>
      obtain ⟨x, hx⟩ : ∃ x, (bytesI s)[a + i]? = some x := ⟨_, List.getElem?_eq_getElem (by rw [bytesI_len]; omega)⟩
      have hp := part_cons (k := z - (i + 1)) hx
      rw [show z - (i + 1) + 1 = z - i by omega] at hp
      have hb := leV_le (k := 7) (fun y (hy : y ∈ ((bytesI s).drop (a + i + 1)).take (z - (i + 1))) => part_mem hy) (by rw [List.length_take]; omega)
      have e1 : (a : Int) + ((i + 1 : Nat) : Int) - 1 = ((a + i : Nat) : Int) := by omega
      rw [e1, show a + (i + 1) = a + i + 1 by omega]
      clear e1
      obtain ⟨m, hm⟩ : ∃ m, a + i = m := ⟨_, rfl⟩
      rw [hm] at hx hp hb ⊢
      have hms : m < s.size := by omega
      obtain ⟨bt, hbt, rfl⟩ : ∃ bt : UInt8, s[m]? = some bt ∧ ((bt.toNat : Nat) : Int) = x := by
        refine ⟨s[m], by simp [hms], ?_⟩
        unfold bytesI at hx
        rw [List.getElem?_map, List.getElem?_eq_getElem (by simpa using hms)] at hx
        exact Option.some.inj hx
      have hix : ∀ W : World, (Instr.index 9 (.string s) (.int .i64 (m : Int))).run Try.prog W = .ok (.int .u8 (bt.toNat : Int)) W := fun W => by
        simp [Instr.index, run_underlying Try.underlying9, asIntOf, hbt, Sem.run_bind, Result.andThen]
      obtain ⟨n, hn⟩ : ∃ n, leV (((bytesI s).drop (m + 1)).take (z - (i + 1))) = n := ⟨_, rfl⟩
      rw [hn] at hb ⊢
      have hq : leV (((bytesI s).drop (a + i)).take (z - i)) = n * 256 + (bt.toNat : Int) := by
        rw [hm, hp, leV, hn]; omega
      have HQ := Lib.hid hq
      have g1 : (a : Int) ≤ (m : Int) := by omega
      have hbt2 := bt.toNat_lt
      clear hn hx hp hq
      go_wp2_with fail
      go_roundw
      case rel => exact ⟨i, by omega, by congr 1; omega, by rw [HQ.out], by first | rfl | trivial⟩
      case measure => simp [intOf]; omega

/-- A number of four bytes, with its sign. -/
def sgn4 (n : Int) : Int := if n < 2147483648 then n else n - 4294967296
set_option maxHeartbeats 1000000 in
theorem signed4_calls (n : Int) (h0 : 0 ≤ n) (h1 : n < 4294967296) (w : World) : Calls Try.prog 85 #[.int .u64 n, .int .i64 4] w fun e w' => e = .returned (.int .i64 (sgn4 n)) ∧ w = w' := by
  have HO := Lib.hid (field_odd_calls 4 w)
  have ho : decide ((4 : Int) < 1 ∨ 8 < (4 : Int)) = false := by simp
  rw [ho] at HO
  clear ho
  go_enter Try.func85, Try.ntmps85
  go_wp2_with fail
  refine HO.out.mono ?_
  rintro e w1 ⟨rfl, rfl⟩
  go_wp2_with fail
  go_ret
  refine ⟨?_, rfl⟩
  show Ending.returned (.int .i64 (wrap64 (n * 4294967296) / 4294967296)) = _
  congr 2
  unfold wrap64 sgn4
  split <;> omega

/-! ### Columns -/
def colAt (l : List Int) (k : Nat) : Int := sgn4 (leV ((l.drop (4 * k)).take 4))
def colK (l : List Int) (k : Nat) : List Int := (List.range k).map (colAt l)
theorem colK_succ (l : List Int) (k : Nat) : colK l (k + 1) = colK l k ++ [colAt l k] := by
  unfold colK
  rw [List.range_succ, List.map_append]; rfl
theorem colK_len (l : List Int) (k : Nat) : (colK l k).length = k := by simp [colK]
theorem colK_cons {a r : List Int} (ha : a.length = 4) (k : Nat) : colK (a ++ r) (k + 1) = sgn4 (leV a) :: colK r k := by
  unfold colK
  rw [List.range_succ_eq_map, List.map_cons, List.map_map]
  congr 1
  · unfold colAt
    rw [Nat.mul_zero, List.drop_zero, List.take_left' ha]
  · apply List.map_congr_left
    intro j _
    simp only [Function.comp_apply, colAt]
    rw [show 4 * (j + 1) = a.length + 4 * j by omega, List.drop_length_add_append]
theorem leI4_congr {n m : Int} (h : n % 4294967296 = m % 4294967296) : leI 4 n = leI 4 m := by
  simp only [leI, List.cons.injEq, and_true]; omega
/-- What is laid is told. -/
theorem colK_row : ∀ (l : List Int), (∀ x ∈ l, -2147483648 ≤ x ∧ x ≤ 2147483647) → colK (rowI l) l.length = l
  | [], _ => rfl
  | x :: l, h => by
    have hx := h x (by simp)
    have e1 : rowI (x :: l) = leI 4 (IntKind.u64.wrap x) ++ rowI l := by simp [rowI]
    rw [e1, List.length_cons, colK_cons (by simp [leI_len]), colK_row l (fun y hy => h y (by simp [hy]))]
    congr 1
    rw [leI4_congr (m := x % 4294967296) (by rw [wrapU]; omega), leV_leI4 (by omega) (by omega)]
    unfold sgn4
    split <;> omega
/-- What is told is laid. -/
theorem row_colK : ∀ (m : Nat) (l : List Int), l.length = 4 * m → (∀ x ∈ l, 0 ≤ x ∧ x < 256) → rowI (colK l m) = l
  | 0, l, h, _ => by
    have : l = [] := List.eq_nil_of_length_eq_zero (by omega)
    subst this; rfl
  | m + 1, l, h, hl => by
    have e : l = l.take 4 ++ l.drop 4 := (List.take_append_drop 4 l).symm
    have h4 : (l.take 4).length = 4 := by rw [List.length_take]; omega
    have hm := fun x (hx : x ∈ l.take 4) => hl x (List.mem_of_mem_take hx)
    conv => lhs; rw [e]
    rw [colK_cons h4]
    have e1 : ∀ (x : Int) (r : List Int), rowI (x :: r) = leI 4 (IntKind.u64.wrap x) ++ rowI r := fun x r => by simp [rowI]
    rw [e1, row_colK m (l.drop 4) (by rw [List.length_drop]; omega) (fun x hx => hl x (List.mem_of_mem_drop hx))]
    have hv := leV_bound _ hm
    rw [h4] at hv
    have h8 : (256 : Int) ^ 4 = 4294967296 := by decide
    rw [h8] at hv
    rw [leI4_congr (m := leV (l.take 4)) (by rw [wrapU]; unfold sgn4; split <;> omega)]
    have := leI_leV _ hm
    rw [h4] at this
    rw [this, List.take_append_drop]
theorem sgn4_bound {n : Int} (h0 : 0 ≤ n) (h1 : n < 4294967296) : -2147483648 ≤ sgn4 n ∧ sgn4 n ≤ 2147483647 := by unfold sgn4; split <;> omega
theorem part4_bound (s : ByteArray) (a : Nat) : 0 ≤ leV (((bytesI s).drop a).take 4) ∧ leV (((bytesI s).drop a).take 4) < 4294967296 := by
  have := leV_le (k := 4) (fun y (hy : y ∈ ((bytesI s).drop a).take 4) => part_mem hy) (by rw [List.length_take]; omega)
  have h8 : (256 : Int) ^ 4 = 4294967296 := by decide
  rw [h8] at this
  exact this

theorem A.infoI32 : (Try.prog.info? 21).map (fun i => (i.zero, i.size, i.bytes)) = some (some (.int .i32 0), 1, 4) := by kernel_rfl

set_option maxHeartbeats 2000000 in
theorem column_calls (s : ByteArray) (m : Nat) (hm : s.size = 4 * m) (hs : s.size ≤ 1099511627776) (w : World) :
    Calls Try.prog 44 #[.string s] w fun e w' => ∃ v, e = .returned (.tuple #[v, .bool true]) ∧ Row (Kd.int .i32) [] 21 w.heap.size w' v (colK (bytesI s) m) ∧ Below w.heap.size w w' := by
  obtain ⟨i0, hi, hz0, hz1, hz2⟩ := info_parts A.infoI32
  have HI := Lib.hid hi
  have HZ0 := Lib.hid hz0
  have HZ1 := Lib.hid hz1
  have HZ2 := Lib.hid hz2
  have f4 : (s.size : Int) ≤ 1099511627776 := by omega
  have hmod : (s.size : Int) % 4 = 0 := by omega
  have hmod2 : (Int.tmod (s.size : Int) 4 != 0) = false := by
    rw [Int.tmod_eq_emod_of_nonneg (by omega), hmod]; rfl
  clear hi hz0 hz1 hz2 hmod
  go_enter Try.func44, Try.ntmps44
  go_wp2_with fail
  go_loopw [4, 5] (fun v at_ wr => ∃ k : Nat, k ≤ m ∧ at_ = .int .i64 (4 * (k : Int)) ∧ Hid (Row (Kd.int .i32) [] 21 w.heap.size wr v (colK (bytesI s) k)) ∧ Hid (Below w.heap.size w wr)) (fun _ at_ _ => (s.size - intOf at_).toNat)
  case atStart => exact ⟨0, Nat.zero_le _, by simp, Lib.hid (Row.nil _ _ _ _ _), Lib.hid (Below.refl _ _)⟩
  case round =>
    obtain ⟨k, hk, rfl, hrow, hw⟩ := hrel
    by_cases hlt : k < m
    · have g1 : 4 * (k : Int) < (s.size : Int) := by omega
      have HG := Lib.hid (field_get_calls s (4 * k) 4 (by omega) (by omega) (by omega) hs wr)
      obtain ⟨n, hn⟩ : ∃ n, leV (((bytesI s).drop (4 * k)).take 4) = n := ⟨_, rfl⟩
      have hb := part4_bound s (4 * k)
      rw [hn] at HG hb
      have hcs := colK_succ (bytesI s) k
      unfold colAt at hcs
      rw [hn] at hcs
      have HCS := Lib.hid hcs
      have HS := Lib.hid (signed4_calls n hb.1 hb.2 wr)
      have hq := sgn4_bound hb.1 hb.2
      obtain ⟨q, hqq⟩ : ∃ q, sgn4 n = q := ⟨_, rfl⟩
      rw [hqq] at HS HCS hq
      have e4 : ((4 * k : Nat) : Int) = 4 * (k : Int) := by omega
      rw [e4, show ((4 : Nat) : Int) = 4 from rfl] at HG
      have hwr : IntKind.i32.wrap q = q := by simp [IntKind.wrap, IntKind.signed, IntKind.bits]; omega
      have f5 : (s.size : Int) = 4 * (m : Int) := by omega
      obtain ⟨W1, hW1⟩ : ∃ W1, wr.alloc (.cells #[.int .i32 q] 21) = W1 := ⟨_, rfl⟩
      have hu1 : Upd [] wr W1 := by rw [← hW1]; exact Upd.alloc [] wr _
      have hby : W1.heap[wr.heap.size]? = some (.cells #[.int .i32 q] 21) := by rw [← hW1]; exact Go.heap_alloc_new wr _
      have hrow1 := Row.upd hrow.out hu1 (by simp) (by simp) (M' := []) (by simp)
      have hzw := hw.out.size
      obtain ⟨v', w2, hrun, hrow2, hu2, hob2⟩ := Row.push (P := Try.prog) (t := 22) (ty := 22) (c := 1) hrow1 Try.underlying22 HI.out HZ0.out HZ1.out HZ2.out rfl (by decide) (b := wr.heap.size) [.int .i32 q] q
        (fun j u hj => by rw [cell_of_block hby]; simpa using hj) ⟨⟨rfl, by simp [Lit.wf, IntKind.min, IntKind.max, IntKind.signed, IntKind.bits]; omega⟩⟩ (by have := colK_len (bytesI s) k; unfold maxLen; omega) (by rw [colK_len]; omega) (by have := hu1.size; omega)
      rw [← HCS.out] at hrow2
      rw [← hW1] at hrun
      have hrb := hrow1.ob_lt
      have HRUN := Lib.hid hrun
      have HROW2 := Lib.hid hrow2
      have HW2 := Lib.hid ((hw.out.trans (hu1.below.mono hzw)).trans (hu2.belowB (by have := hu1.size; omega) (fun j hj => (hrb j hj).1)))
      obtain ⟨ao, cap, rfl, _, _⟩ := row_form hrow.out
      clear hn hcs hqq e4 hW1 hu1 hby hrow1 hrun hrow2 hu2 hob2 hrb hzw hrow hw
      go_wp2_with fail
      refine HG.out.mono ?_
      rintro e w2 ⟨rfl, rfl⟩
      go_wp2_with fail
      refine HS.out.mono ?_
      rintro e w2 ⟨rfl, rfl⟩
      go_wp2_with (at_builtin; refine append_step rfl _ _ _ rfl rfl rfl HRUN.out ?_)
      go_roundw
      case rel => exact ⟨k + 1, by omega, by first | (congr 1; done) | (congr 1; omega), HROW2.out, HW2.out⟩
      case measure => simp [intOf]; omega
    · have hkm : k = m := by omega
      subst hkm
      have g1 : (s.size : Int) ≤ 4 * (k : Int) := by omega
      go_wp2_with fail
      go_ret2
      exact ⟨_, rfl, hrow.out, hw.out⟩

end Go.Proofs.Ytfkmkhojedfccaa
