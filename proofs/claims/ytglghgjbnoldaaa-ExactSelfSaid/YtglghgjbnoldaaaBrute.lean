/-
exact.Brute; the statements' items and ids.
-/
import Derived.Test.YtglghgjbnoldaaaExact
namespace Go.Proofs.Ytglghgjbnoldaaa
set_option linter.unusedVariables false
set_option linter.unusedSimpArgs false
open Go.RowKit

def idsN (n : Nat) : List Int := (List.range n).map (fun i : Nat => (i : Int))
theorem idsN_len (n : Nat) : (idsN n).length = n := by simp [idsN]
theorem idsN_succ (n : Nat) : idsN (n + 1) = idsN n ++ [(n : Int)] := by simp [idsN, List.range_succ]
theorem idsN_at {n i : Nat} (h : i < n) : (idsN n)[i]? = some (i : Int) := by simp [idsN, h]
theorem nat_wf {n : Nat} (h : n ≤ 1099511627776) : (Lit.int .i64 (n : Int)).wf = true := by
  have e1 : IntKind.i64.min = -9223372036854775808 := by decide
  have e2 : IntKind.i64.max = 9223372036854775807 := by decide
  show (decide (IntKind.i64.min ≤ (n : Int)) && decide ((n : Int) ≤ IntKind.i64.max)) = true
  rw [e1, e2]
  have h1 : (-9223372036854775808 : Int) ≤ (n : Int) := by omega
  have h2 : (n : Int) ≤ (9223372036854775807 : Int) := by omega
  simp [h1, h2]
/-- The first i of n places filled. -/
def ramp (n i : Nat) : Array Value := ((List.range n).map (fun j : Nat => Value.int .i64 (if j < i then (j : Int) else 0))).toArray
theorem ramp_get {n i j : Nat} (h : j < n) : (ramp n i)[j]? = some (.int .i64 (if j < i then (j : Int) else 0)) := by
  simp [ramp, h]
theorem ramp_set {n i : Nat} (h : i < n) : (ramp n i).setIfInBounds i (.int .i64 (i : Int)) = ramp n (i + 1) := by
  apply Array.ext_getElem?
  intro j
  rw [Array.getElem?_setIfInBounds]
  have hs : (ramp n i).size = n := by simp [ramp]
  by_cases hj : j < n
  · by_cases hij : i = j
    · subst hij
      rw [if_pos rfl, if_pos (by rw [hs]; exact h), ramp_get h, if_pos (by omega)]
    · rw [if_neg hij, ramp_get hj, ramp_get hj]
      by_cases hlt : j < i
      · rw [if_pos hlt, if_pos (by omega)]
      · rw [if_neg hlt, if_neg (by omega)]
  · rw [if_neg (by omega), Array.getElem?_eq_none (by rw [hs]; omega), Array.getElem?_eq_none (by simp [ramp]; omega)]
theorem ramp_zero (n : Nat) : ramp n 0 = (List.replicate n (Value.int .i64 0)).toArray := by
  unfold ramp
  congr 1
  apply List.ext_getElem
  · simp
  · intro i h1 h2; simp
theorem ramp_read {n g : Nat} {N : List Nat} {w : World} {t : TypeId} (h : w.heap[g]? = some (.cells (ramp n n) t)) (hg : g ∉ N) (hn : n ≤ 1099511627776) : (Kd.int .i64).slice.At N w [.slice (some ⟨g, 0, none⟩) n n] (idsN n) := by
  refine ⟨⟨some ⟨g, 0, none⟩, n, by rw [idsN_len], by rw [idsN_len]; exact Nat.le_refl _, by simp [maxLen]; omega, fun i x hx => ?_⟩⟩
  have hi : i < n := by have := (List.getElem?_eq_some_iff.1 hx).1; rwa [idsN_len] at this
  rw [idsN_at hi] at hx
  cases hx
  refine ⟨g, 0, rfl, ⟨block_lt h, hg⟩, block_lt h, [.int .i64 (i : Int)], ⟨rfl, nat_wf (by omega)⟩, fun j v hj => ?_⟩
  match j, hj with
  | 0, hj =>
    simp at hj; subst hj
    rw [cell_of_block h]
    have := ramp_get (n := n) (i := n) hi
    rw [if_pos hi] at this
    simpa [Kd.int] using this

theorem made_ids (m : Nat) (hm : m ≤ 1099511627776) (w : World) :
    (Instr.makeSlice 24 (.int .i64 (m : Int)) (.int .i64 (m : Int))).run Try.prog w = .ok (.slice (some ⟨w.heap.size, 0, none⟩) m m) (w.alloc (.cells (ramp m 0) 3)) := by
  obtain ⟨i0, hi, hz0, hz1, hz2⟩ := info_parts A.infoInt
  have h := run_make (P := Try.prog) w 24 3 i0 _ Try.underlying24 hi hz0 .i64 .i64 m m (by omega) (by omega) (by rw [hz2]; omega) (by omega)
  rw [h, hz1, Nat.mul_one]
  simp only [Int.toNat_natCast, Value.cells]
  rw [madeCells_zero, ramp_zero]

theorem brute_bad (w : World) (N : List Nat) (p : Nat) (dim : Int) (L : List (List Int)) (k : Int) (vv : Value) (v : List Int) (h : Its w N p dim L) (hv : (Kd.int .i32).slice.At N w [vv] v) (hc : exCheck L.length dim v k ≠ 0) :
    Calls Try.prog 11 #[.pointer (some ⟨p, 0, none⟩), vv, .int .i64 k] w fun e w' => e = .returned (.tuple #[.slice none 0 0, .int .i64 (exCheck L.length dim v k)]) ∧ ∃ m, w' = w.drewN m := by
  have HC := Lib.hid (exact_check_calls w N p dim L k vv v h hv)
  obtain ⟨av, cv, rfl, _, _⟩ := Kd.slice_form hv
  obtain ⟨c, hcc⟩ : ∃ c, exCheck L.length dim v k = c := ⟨_, rfl⟩
  rw [hcc] at HC hc ⊢
  have hcb : (c != 0) = true := by simpa using hc
  clear h hv hcc hc
  go_enter Try.func11, Try.ntmps11
  go_wp2_with fail
  refine HC.out.mono ?_
  rintro e w1 ⟨rfl, m, rfl⟩
  go_wp2_with fail
  go_ret2
  exact ⟨rfl, m, rfl⟩

set_option maxHeartbeats 2000000 in
theorem brute_ok (w : World) (N : List Nat) (p : Nat) (dim : Int) (L : List (List Int)) (k : Int) (vv : Value) (v : List Int) (h : Its w N p dim L) (hv : (Kd.int .i32).slice.At N w [vv] v) (hc : exCheck L.length dim v k = 0) (hk : (Lit.int .i64 k).wf = true) :
    Calls Try.prog 11 #[.pointer (some ⟨p, 0, none⟩), vv, .int .i64 k] w fun e w' => ∃ v' out, e = .returned (.tuple #[v', .int .i64 0]) ∧ Row rsE.kd [] 42 w.heap.size w' v' out ∧ E3.Chosen k (resOf L v (uniq (idsN L.length))) out ∧ Below w.heap.size w w' := by
  have HC := Lib.hid (exact_check_calls w N p dim L k vv v h hv)
  rw [hc] at HC
  have HCC := Lib.hid hc
  obtain ⟨av, cv, rfl, _, _⟩ := Kd.slice_form hv
  have H := Lib.hid h
  have HV := Lib.hid hv
  have hn := h.n
  obtain ⟨n, hnn⟩ : ∃ n, L.length = n := ⟨_, rfl⟩
  have HLN := Lib.hid hnn
  rw [hnn] at hn ⊢
  clear h hv hc hnn
  go_enter Try.func11, Try.ntmps11
  go_wp2_with fail
  refine HC.out.mono ?_
  rintro e w1 ⟨rfl, m, rfl⟩
  have hIL := (H.out.upd (Upd.drewN [] w m) (by simp) (by simp) (N' := N) (fun k hk => .inl hk)).len_calls
  rw [HLN.out] at hIL
  have HIL := Lib.hid hIL
  clear hIL HC
  go_wp2_with fail
  refine HIL.out.mono ?_
  rintro e w2 ⟨rfl, m2, rfl⟩
  obtain ⟨W1, hW1⟩ : ∃ W1, (w.drewN m).drewN m2 = W1 := ⟨_, rfl⟩
  have HB1 : Hid (Upd [] w W1) := Lib.hid (by rw [← hW1]; exact (Upd.drewN [] w m).trans (Upd.drewN [] _ m2))
  rw [hW1]
  clear hW1 HIL
  have hmk := made_ids n (by omega) W1
  go_wp2_with fail
  clear hmk
  obtain ⟨W2, hW2⟩ : ∃ W2, W1.alloc (.cells (ramp n 0) 3) = W2 := ⟨_, rfl⟩
  have HG : Hid (W2.heap[W1.heap.size]? = some (.cells (ramp n 0) 3)) := Lib.hid (by rw [← hW2]; exact Go.heap_alloc_new W1 _)
  have HB2 : Hid (Upd [] w W2) := Lib.hid (HB1.out.trans (by rw [← hW2]; exact Upd.alloc [] W1 _))
  rw [hW2]
  clear hW2
  have hw1 : w.heap.size ≤ W1.heap.size := HB1.out.size
  go_loopw [23] (fun iv wr => ∃ i : Nat, i ≤ n ∧ iv = .int .i64 (i : Int) ∧ Hid (wr.heap[W1.heap.size]? = some (.cells (ramp n i) 3)) ∧ Hid (Upd [] w wr)) (fun iv _ => n - (intOf iv).toNat)
  case atStart => exact ⟨0, Nat.zero_le _, rfl, HG, HB2⟩
  case round =>
    obtain ⟨i, hi, rfl, hg, hu⟩ := hrel
    by_cases hlt : i < n
    · have g0 : wr.cell? ⟨W1.heap.size, i, none⟩ = some (.int .i64 0) := by
        rw [cell_of_block hg.out, ramp_get hlt, if_neg (by omega)]
      have f0 : wr.frozen? ⟨W1.heap.size, i, none⟩ = false := frozen_of_block hg.out
      have HS : Hid ((wr.setCell ⟨W1.heap.size, i, none⟩ (.int .i64 (i : Int))).heap[W1.heap.size]? = some (.cells (ramp n (i + 1)) 3)) := Lib.hid (by
        have := heap_setCell_same wr W1.heap.size i _ _ (.int .i64 (i : Int)) hg.out
        rw [ramp_set hlt] at this
        exact this)
      have i0 : (0 : Int) ≤ (i : Int) := by omega
      have i1 : (i : Int) < (n : Int) := by omega
      go_wp2_with fail
      go_roundw
      case rel => exact ⟨i + 1, by omega, by go_num, HS, Lib.hid (hu.out.trans' (Upd.setCell (S := [W1.heap.size]) (p := ⟨W1.heap.size, i, none⟩) (by simp) _) (fun k hk => .inr (by simp at hk; omega)))⟩
      case measure => simp [intOf]; omega
    · have hin : i = n := by omega
      have HRD : Hid ((Kd.int .i64).slice.At [] wr [.slice (some ⟨W1.heap.size, 0, none⟩) n n] (idsN n)) := Lib.hid (ramp_read (by have := hg.out; rw [hin] at this; exact this) (by simp) (by omega))
      have hrk := rank_ok wr [] p dim L k (.slice av v.length cv) (.slice (some ⟨W1.heap.size, 0, none⟩) n n) v (idsN n) (H.out.upd hu.out (by simp) (by simp) (N' := []) (by simp)) (HV.out.upd hu.out (by simp) (M' := []) (by simp)) HRD.out HCC.out (by rw [idsN_len]; omega) hk
      have HRK := Lib.hid hrk
      clear hrk hin hg HRD
      go_wp2_with fail
      refine HRK.out.mono ?_
      rintro e w9 ⟨v9, out, rfl, hr9, hch, hb9⟩
      have HR9 := Lib.hid (hr9.base hu.out.size)
      have HB9 := Lib.hid (hu.out.below.trans (hb9.mono hu.out.size))
      have HCH := Lib.hid hch
      obtain ⟨a9, c9, rfl, _, _⟩ := row_form hr9
      clear hr9 hch hb9 HRK
      go_wp2_with fail
      go_ret2
      exact ⟨_, out, rfl, HR9.out, HCH.out, HB9.out⟩

set_option maxHeartbeats 1000000 in
theorem ids_calls (n : Nat) (hn : n ≤ 1048576) (w : World) :
    Calls Try.prog 16 #[.int .i64 (n : Int)] w fun e w' => ∃ v', e = .returned v' ∧ Row (Kd.int .i64) [] 3 w.heap.size w' v' (idsN n) ∧ Below w.heap.size w w' := by
  obtain ⟨i0, hi, hz0, hz1, hz2⟩ := info_parts A.infoInt
  have HI := Lib.hid hi
  have HZ0 := Lib.hid hz0
  have HZ1 := Lib.hid hz1
  have HZ2 := Lib.hid hz2
  clear hi hz0 hz1 hz2
  go_enter Try.func16, Try.ntmps16
  go_wp2_with fail
  go_loopw [3, 4] (fun o iv wr => ∃ i : Nat, i ≤ n ∧ iv = .int .i64 (i : Int) ∧ Hid (Row (Kd.int .i64) [] 3 w.heap.size wr o (idsN i)) ∧ Hid (Below w.heap.size w wr)) (fun _ iv _ => n - (intOf iv).toNat)
  case atStart => exact ⟨0, Nat.zero_le _, rfl, Lib.hid (by simpa [idsN] using Row.nil (Kd.int .i64) [] 3 w.heap.size w), Lib.hid (Below.refl _ _)⟩
  case round =>
    obtain ⟨i, hi, rfl, hrow, hb⟩ := hrel
    by_cases hlt : i < n
    · have hob := hrow.out.ob_lt
      obtain ⟨X1, hX1⟩ : ∃ X1, wr.alloc (.cells #[.int .i64 (i : Int)] 3) = X1 := ⟨_, rfl⟩
      have x1 : Upd [] wr X1 := by rw [← hX1]; exact Upd.alloc [] wr _
      obtain ⟨v5, w5, hrun, hr5, hu5, ho5⟩ := (hrow.out.upd x1 (by simp) (by simp) (M' := []) (by simp)).appendAt (P := Try.prog) (t := 24) (ty := 24) (u := .slice (some ⟨wr.heap.size, 0, none⟩) 1 1) (l2 := [(i : Int)]) Try.underlying24 HI.out HZ0.out HZ1.out HZ2.out rfl (by decide)
        (one_at (by rw [← hX1]; exact Go.heap_alloc_new wr _) (fun hm => by have := (hob _ (by simpa using hm)).2; omega) (nat_wf (by omega))) (by simp [idsN_len, maxLen]; omega) (by simp [idsN_len]; omega) (by have := x1.size; have := hb.out.size; omega)
      rw [← idsN_succ] at hr5
      have HR5 := Lib.hid hr5
      have HB5 := Lib.hid ((hb.out.trans (x1.belowB hb.out.size (by simp))).trans (hu5.belowB (Nat.le_trans hb.out.size x1.size) (fun k hk => (hob k hk).1)))
      have HRUN := Lib.hid hrun
      obtain ⟨ao, co, rfl, _, _⟩ := row_form hrow.out
      obtain ⟨a5, c5, rfl, _, _⟩ := row_form hr5
      clear hr5 hu5 ho5 hrun x1 hob hrow
      go_wp2_with (at_builtin; refine append_step rfl _ _ _ rfl rfl rfl HRUN.out ?_)
      go_roundw
      case rel => exact ⟨i + 1, by omega, by go_num, HR5, HB5⟩
      case measure => simp [intOf]; omega
    · have hin : i = n := by omega
      have HROW : Hid (Row (Kd.int .i64) [] 3 w.heap.size wr u3 (idsN n)) := Lib.hid (by rw [← hin]; exact hrow.out)
      clear hrow hin
      go_wp2_with fail
      go_ret
      exact ⟨_, rfl, HROW.out, hb.out⟩

end Go.Proofs.Ytglghgjbnoldaaa
