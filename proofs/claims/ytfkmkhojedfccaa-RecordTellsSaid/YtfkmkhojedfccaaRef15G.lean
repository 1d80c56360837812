/-
The document's records: ref15.Get.
-/
import Derived.Test.YtfkmkhojedfccaaRef15
import Derived.Test.YtfkmkhojedfccaaRecTell
namespace Go.Proofs.Ytfkmkhojedfccaa
set_option linter.unusedVariables false
set_option linter.unusedSimpArgs false
open Go.RowKit

theorem bytesI_extract (s : ByteArray) (a b : Nat) : bytesI (s.extract a b) = ((bytesI s).drop a).take (b - a) := by
  unfold bytesI
  rw [← List.map_drop, ← List.map_take]
  congr 1
  rw [ByteArray.data_extract, Array.toList_extract, List.extract_eq_take_drop]

theorem str_byte {s : ByteArray} {k : Nat} {x : Int} (h : (bytesI s)[k]? = some x) : ∀ W : World, (Instr.index 9 (.string s) (.int .i64 (k : Int))).run Try.prog W = .ok (.int .u8 x) W := fun W => by
  have hk : k < s.size := by have := (List.getElem?_eq_some_iff.1 h).1; rwa [bytesI_len] at this
  obtain ⟨bt, hbt, rfl⟩ : ∃ bt : UInt8, s[k]? = some bt ∧ ((bt.toNat : Nat) : Int) = x := by
    refine ⟨s[k], by simp [hk], ?_⟩
    unfold bytesI at h
    rw [List.getElem?_map, List.getElem?_eq_getElem (by simpa using hk)] at h
    exact Option.some.inj h
  simp [Instr.index, run_underlying Try.underlying9, asIntOf, hbt, Sem.run_bind, Result.andThen]

def rwZero : Value := .agg #[.bool false, .int .i64 0, .int .i64 0, .slice none 0 0, .int .i64 0, .int .i64 0]

set_option maxHeartbeats 8000000 in
set_option maxRecDepth 100000 in
theorem ref15_get_odd (s : ByteArray) (m : Nat) (hm1 : 1 ≤ m) (hm2 : m ≤ 1024) (hsm : s.size = 13 + 4 * m) (x0 : Int) (hx0 : (bytesI s)[0]? = some x0) (hk : x0 ≠ 1 ∧ x0 ≠ 2) (w : World) :
    Calls Try.prog 13 #[.string s, .int .i64 (m : Int)] w fun e w' => ∃ vn g err, tellRec (bytesI s) (m : Int) = (g, err) ∧ e = .returned (.tuple #[.agg #[.bool g.leaf, .int .i64 g.count, .int .i64 g.place, vn, .int .i64 g.pl.off, .int .i64 g.right], .int .i64 err]) ∧ RwAt [] w' vn g ∧ Below w.heap.size w w' := by
  obtain ⟨W0, hW0⟩ : ∃ W0, w.alloc (.cells #[.bool false, .int .i64 0, .int .i64 0, .slice none 0 0, .int .i64 0, .int .i64 0] 26) = W0 := ⟨_, rfl⟩
  have hb0 : Below w.heap.size w W0 := by rw [← hW0]; exact below_alloc1 w _
  have hx0 : W0.heap[w.heap.size]? = some (rwObj (.slice none 0 0) noRw 26) := by rw [← hW0]; exact Go.heap_alloc_new w _
  have hz0 : w.heap.size < W0.heap.size := block_lt hx0
  have HB0 := Lib.hid hb0
  have HX0 := Lib.hid hx0
  obtain ⟨c0, c1, c2, c3, c4, c5⟩ := rw_cells hx0
  simp only [noRw] at c0 c1 c2 c3 c4 c5
  have fz : ∀ j, W0.frozen? ⟨w.heap.size, j, none⟩ = false := fun j => frozen_of_block HX0.out
  have fz0 := fz 0
  have fz1 := fz 1
  have fz2 := fz 2
  have fz3 := fz 3
  have fz4 := fz 4
  have fz5 := fz 5
  clear hb0 hx0 fz
  have hll : (bytesI s).length = 13 + 4 * m := by rw [bytesI_len, hsm]
  have hix0 : ∀ W : World, (Instr.index 9 (.string s) (.int .i64 0)).run Try.prog W = .ok (.int .u8 x0) W := str_byte hx0
  have hwd : IntKind.i64.wrap (4 * (m : Int)) = 4 * (m : Int) := IntWalk.i64_in _ ⟨by omega, by omega⟩
  have hwe : IntKind.i64.wrap (13 + 4 * (m : Int)) = 13 + 4 * (m : Int) := IntWalk.i64_in _ ⟨by omega, by omega⟩
  have hd1 : (1 : Int) ≤ (m : Int) := by omega
  have hd2 : (m : Int) ≤ 1024 := by omega
  have q4 := part4_bound s 1
  have q8 := part8_bound s 5
  have V1 : Hid (∀ W, Calls Try.prog 45 #[.string (s.extract 1 5)] W fun e w' => e = .returned (.int .u64 (leV (((bytesI s).drop 1).take 4))) ∧ ∃ n, w' = W.drewN n) := Lib.hid (fun W => by
    have := value_calls (s.extract 1 5) (by simp [ByteArray.size_extract]; omega) W
    rwa [bytesI_extract] at this)
  have V2 : Hid (∀ W, Calls Try.prog 45 #[.string (s.extract 5 13)] W fun e w' => e = .returned (.int .u64 (leV (((bytesI s).drop 5).take 8))) ∧ ∃ n, w' = W.drewN n) := Lib.hid (fun W => by
    have := value_calls (s.extract 5 13) (by simp [ByteArray.size_extract]; omega) W
    rwa [bytesI_extract] at this)
  obtain ⟨S1, hS1⟩ : ∃ S, s.extract 1 5 = S := ⟨_, rfl⟩
  obtain ⟨S2, hS2⟩ : ∃ S, s.extract 5 13 = S := ⟨_, rfl⟩
  rw [hS1] at V1
  rw [hS2] at V2
  have HPA : Hid (parseRec (bytesI s) = if x0 = 1 then ⟨true, leV (((bytesI s).drop 1).take 4), wrap64 (leV (((bytesI s).drop 5).take 8)), ⟨[], 0⟩, 0⟩ else ⟨false, 0, 0, ⟨colK ((bytesI s).drop 13) m, wrap64 (leV (((bytesI s).drop 5).take 8))⟩, leV (((bytesI s).drop 1).take 4)⟩) := Lib.hid (by
    have e : leV (((bytesI s).drop 0).take 1) = x0 := by
      generalize bytesI s = l at hx0
      cases l with
      | nil => simp at hx0
      | cons a l => simp at hx0; simp [hx0, leV]
    unfold parseRec
    rw [e, show ((bytesI s).length - 13) / 4 = m by omega])
  obtain ⟨A, hA⟩ : ∃ n, leV (((bytesI s).drop 1).take 4) = n := ⟨_, rfl⟩
  obtain ⟨B, hB⟩ : ∃ n, leV (((bytesI s).drop 5).take 8) = n := ⟨_, rfl⟩
  rw [hA] at V1 HPA q4
  rw [hB] at V2 HPA q8
  have hwA : IntKind.i64.wrap A = A := IntWalk.i64_in _ ⟨by omega, by omega⟩
  have hwB : IntKind.i64.wrap B = wrap64 B := by rw [IntKind.wrap_i64]; unfold wrap64; omega
  have e13 : (13 : Int) ≤ (s.size : Int) := by omega
  obtain ⟨W1, hW1⟩ : ∃ W1, W0.alloc (.cells #[.bool false, .int .i64 0, .int .i64 0, .slice none 0 0, .int .i64 0, .int .i64 0] 26) = W1 := ⟨_, rfl⟩
  have hu1 : Upd [] W0 W1 := by rw [← hW1]; exact Upd.alloc [] W0 _
  have hy1 : W1.heap[W0.heap.size]? = some (rwObj (.slice none 0 0) noRw 26) := by rw [← hW1]; exact Go.heap_alloc_new W0 _
  have HY1 := Lib.hid hy1
  have HX1 := Lib.hid (upd_far hu1 HX0.out (by simp))
  have HB1 := Lib.hid (HB0.out.trans (hu1.below.mono HB0.out.size))
  obtain ⟨y0, y1, y2, y3, y4, y5⟩ := rw_cells hy1
  simp only [noRw] at y0 y1 y2 y3 y4 y5
  have gz : ∀ j, W1.frozen? ⟨W0.heap.size, j, none⟩ = false := fun j => frozen_of_block HY1.out
  have gz0 := gz 0
  have gz1 := gz 1
  have gz2 := gz 2
  have gz3 := gz 3
  have gz4 := gz 4
  have gz5 := gz 5
  obtain ⟨W2, hW2⟩ : ∃ W2, ((((((W1.setCell ⟨W0.heap.size, 0, none⟩ (.bool false)).setCell ⟨W0.heap.size, 1, none⟩ (.int .i64 0)).setCell ⟨W0.heap.size, 2, none⟩ (.int .i64 0)).setCell ⟨W0.heap.size, 3, none⟩ (.slice none 0 0)).setCell ⟨W0.heap.size, 4, none⟩ (.int .i64 0)).setCell ⟨W0.heap.size, 5, none⟩ (.int .i64 0)) = W2 := ⟨_, rfl⟩
  have hu2 : Upd [W0.heap.size] W1 W2 := by rw [← hW2]; exact upd_set6 _ _ _ _ _ _ _ _
  have hy2 : W2.heap[W0.heap.size]? = some (rwObj (.slice none 0 0) noRw 26) := by rw [← hW2]; exact rheap_set6 hy1 rfl _ _ _ _ _ _
  have HY2 := Lib.hid hy2
  have HX2 := Lib.hid (upd_far hu2 HX1.out (by simp; omega))
  have HB2 := Lib.hid (HB1.out.trans (hu2.belowB HB1.out.size (by simp; omega)))
  have h5m : (5 : Int) ≤ 13 + 4 * (m : Int) := by omega
  have h13m : (13 : Int) ≤ 13 + 4 * (m : Int) := by omega
  clear c0 c1 c2 c3 c4 c5 fz0 fz1 fz2 fz3 fz4 fz5
  obtain ⟨c0, c1, c2, c3, c4, c5⟩ := rw_cells HX2.out
  simp only [noRw] at c0 c1 c2 c3 c4 c5
  have fz : ∀ j, W2.frozen? ⟨w.heap.size, j, none⟩ = false := fun j => frozen_of_block HX2.out
  have fz0 := fz 0
  have fz1 := fz 1
  have fz2 := fz 2
  have fz3 := fz 3
  have fz4 := fz 4
  have fz5 := fz 5
  clear fz hu1 hy1 gz hA hB hll hu2 hy2
  go_enter Try.func13, Try.ntmps13
  go_wp2_with fail
  go_quiet (first | (go_at_call 45; with_reducible exact Calls.quiet_of (V1.out _)) | (go_at_call 45; with_reducible exact Calls.quiet_of (V2.out _)))
  have HXQ : Hid ((W2.drewN nq).heap[w.heap.size]? = some (rwObj (.slice none 0 0) noRw 26)) := Lib.hid HX2.out
  have HBQ : Hid (Below w.heap.size w (W2.drewN nq)) := Lib.hid (HB2.out.trans (bdN _ _ _))
  have HTB : Hid (tellRec (bytesI s) (m : Int) = (noRw, 6)) := Lib.hid (by unfold tellRec; simp only [hx0, Option.some.injEq, hk.1, hk.2, if_false])
  have hx1 : (x0 == 1) = false := by simpa using hk.1
  have hx2 : (x0 == 2) = false := by simpa using hk.2
  clear hk hx0
  go_wp2_with fail
  refine bodyPost_ret (v := .tuple #[.agg #[.bool false, .int .i64 0, .int .i64 0, .slice none 0 0, .int .i64 0, .int .i64 0], .int .i64 6]) (results_aggtmp rfl Try.isAgg26 Try.sizeOf26 _ _ rfl (rheap_set6 HXQ.out rfl _ _ _ _ _ _) rfl rfl) rfl ⟨.slice none 0 0, noRw, 6, HTB.out, rfl, noRw_at _ _, ?_⟩
  exact (HBQ.out).trans (Upd.belowB (S := [w.heap.size]) (upd_set6 _ _ _ _ _ _ _ _) (HBQ.out).size (by simp))

set_option maxHeartbeats 8000000 in
set_option maxRecDepth 100000 in
theorem ref15_get_leaf (s : ByteArray) (m : Nat) (hm1 : 1 ≤ m) (hm2 : m ≤ 1024) (hsm : s.size = 13 + 4 * m) (x0 : Int) (hx0 : (bytesI s)[0]? = some x0) (hk : x0 = 1) (w : World) :
    Calls Try.prog 13 #[.string s, .int .i64 (m : Int)] w fun e w' => ∃ vn g err, tellRec (bytesI s) (m : Int) = (g, err) ∧ e = .returned (.tuple #[.agg #[.bool g.leaf, .int .i64 g.count, .int .i64 g.place, vn, .int .i64 g.pl.off, .int .i64 g.right], .int .i64 err]) ∧ RwAt [] w' vn g ∧ Below w.heap.size w w' := by
  obtain ⟨W0, hW0⟩ : ∃ W0, w.alloc (.cells #[.bool false, .int .i64 0, .int .i64 0, .slice none 0 0, .int .i64 0, .int .i64 0] 26) = W0 := ⟨_, rfl⟩
  have hb0 : Below w.heap.size w W0 := by rw [← hW0]; exact below_alloc1 w _
  have hx0 : W0.heap[w.heap.size]? = some (rwObj (.slice none 0 0) noRw 26) := by rw [← hW0]; exact Go.heap_alloc_new w _
  have hz0 : w.heap.size < W0.heap.size := block_lt hx0
  have HB0 := Lib.hid hb0
  have HX0 := Lib.hid hx0
  obtain ⟨c0, c1, c2, c3, c4, c5⟩ := rw_cells hx0
  simp only [noRw] at c0 c1 c2 c3 c4 c5
  have fz : ∀ j, W0.frozen? ⟨w.heap.size, j, none⟩ = false := fun j => frozen_of_block HX0.out
  have fz0 := fz 0
  have fz1 := fz 1
  have fz2 := fz 2
  have fz3 := fz 3
  have fz4 := fz 4
  have fz5 := fz 5
  clear hb0 hx0 fz
  have hll : (bytesI s).length = 13 + 4 * m := by rw [bytesI_len, hsm]
  have hix0 : ∀ W : World, (Instr.index 9 (.string s) (.int .i64 0)).run Try.prog W = .ok (.int .u8 x0) W := str_byte hx0
  have hwd : IntKind.i64.wrap (4 * (m : Int)) = 4 * (m : Int) := IntWalk.i64_in _ ⟨by omega, by omega⟩
  have hwe : IntKind.i64.wrap (13 + 4 * (m : Int)) = 13 + 4 * (m : Int) := IntWalk.i64_in _ ⟨by omega, by omega⟩
  have hd1 : (1 : Int) ≤ (m : Int) := by omega
  have hd2 : (m : Int) ≤ 1024 := by omega
  have q4 := part4_bound s 1
  have q8 := part8_bound s 5
  have V1 : Hid (∀ W, Calls Try.prog 45 #[.string (s.extract 1 5)] W fun e w' => e = .returned (.int .u64 (leV (((bytesI s).drop 1).take 4))) ∧ ∃ n, w' = W.drewN n) := Lib.hid (fun W => by
    have := value_calls (s.extract 1 5) (by simp [ByteArray.size_extract]; omega) W
    rwa [bytesI_extract] at this)
  have V2 : Hid (∀ W, Calls Try.prog 45 #[.string (s.extract 5 13)] W fun e w' => e = .returned (.int .u64 (leV (((bytesI s).drop 5).take 8))) ∧ ∃ n, w' = W.drewN n) := Lib.hid (fun W => by
    have := value_calls (s.extract 5 13) (by simp [ByteArray.size_extract]; omega) W
    rwa [bytesI_extract] at this)
  obtain ⟨S1, hS1⟩ : ∃ S, s.extract 1 5 = S := ⟨_, rfl⟩
  obtain ⟨S2, hS2⟩ : ∃ S, s.extract 5 13 = S := ⟨_, rfl⟩
  rw [hS1] at V1
  rw [hS2] at V2
  have HPA : Hid (parseRec (bytesI s) = if x0 = 1 then ⟨true, leV (((bytesI s).drop 1).take 4), wrap64 (leV (((bytesI s).drop 5).take 8)), ⟨[], 0⟩, 0⟩ else ⟨false, 0, 0, ⟨colK ((bytesI s).drop 13) m, wrap64 (leV (((bytesI s).drop 5).take 8))⟩, leV (((bytesI s).drop 1).take 4)⟩) := Lib.hid (by
    have e : leV (((bytesI s).drop 0).take 1) = x0 := by
      generalize bytesI s = l at hx0
      cases l with
      | nil => simp at hx0
      | cons a l => simp at hx0; simp [hx0, leV]
    unfold parseRec
    rw [e, show ((bytesI s).length - 13) / 4 = m by omega])
  obtain ⟨A, hA⟩ : ∃ n, leV (((bytesI s).drop 1).take 4) = n := ⟨_, rfl⟩
  obtain ⟨B, hB⟩ : ∃ n, leV (((bytesI s).drop 5).take 8) = n := ⟨_, rfl⟩
  rw [hA] at V1 HPA q4
  rw [hB] at V2 HPA q8
  have hwA : IntKind.i64.wrap A = A := IntWalk.i64_in _ ⟨by omega, by omega⟩
  have hwB : IntKind.i64.wrap B = wrap64 B := by rw [IntKind.wrap_i64]; unfold wrap64; omega
  have e13 : (13 : Int) ≤ (s.size : Int) := by omega
  obtain ⟨W1, hW1⟩ : ∃ W1, W0.alloc (.cells #[.bool false, .int .i64 0, .int .i64 0, .slice none 0 0, .int .i64 0, .int .i64 0] 26) = W1 := ⟨_, rfl⟩
  have hu1 : Upd [] W0 W1 := by rw [← hW1]; exact Upd.alloc [] W0 _
  have hy1 : W1.heap[W0.heap.size]? = some (rwObj (.slice none 0 0) noRw 26) := by rw [← hW1]; exact Go.heap_alloc_new W0 _
  have HY1 := Lib.hid hy1
  have HX1 := Lib.hid (upd_far hu1 HX0.out (by simp))
  have HB1 := Lib.hid (HB0.out.trans (hu1.below.mono HB0.out.size))
  obtain ⟨y0, y1, y2, y3, y4, y5⟩ := rw_cells hy1
  simp only [noRw] at y0 y1 y2 y3 y4 y5
  have gz : ∀ j, W1.frozen? ⟨W0.heap.size, j, none⟩ = false := fun j => frozen_of_block HY1.out
  have gz0 := gz 0
  have gz1 := gz 1
  have gz2 := gz 2
  have gz3 := gz 3
  have gz4 := gz 4
  have gz5 := gz 5
  obtain ⟨W2, hW2⟩ : ∃ W2, ((((((W1.setCell ⟨W0.heap.size, 0, none⟩ (.bool false)).setCell ⟨W0.heap.size, 1, none⟩ (.int .i64 0)).setCell ⟨W0.heap.size, 2, none⟩ (.int .i64 0)).setCell ⟨W0.heap.size, 3, none⟩ (.slice none 0 0)).setCell ⟨W0.heap.size, 4, none⟩ (.int .i64 0)).setCell ⟨W0.heap.size, 5, none⟩ (.int .i64 0)) = W2 := ⟨_, rfl⟩
  have hu2 : Upd [W0.heap.size] W1 W2 := by rw [← hW2]; exact upd_set6 _ _ _ _ _ _ _ _
  have hy2 : W2.heap[W0.heap.size]? = some (rwObj (.slice none 0 0) noRw 26) := by rw [← hW2]; exact rheap_set6 hy1 rfl _ _ _ _ _ _
  have HY2 := Lib.hid hy2
  have HX2 := Lib.hid (upd_far hu2 HX1.out (by simp; omega))
  have HB2 := Lib.hid (HB1.out.trans (hu2.belowB HB1.out.size (by simp; omega)))
  have h5m : (5 : Int) ≤ 13 + 4 * (m : Int) := by omega
  have h13m : (13 : Int) ≤ 13 + 4 * (m : Int) := by omega
  clear c0 c1 c2 c3 c4 c5 fz0 fz1 fz2 fz3 fz4 fz5
  obtain ⟨c0, c1, c2, c3, c4, c5⟩ := rw_cells HX2.out
  simp only [noRw] at c0 c1 c2 c3 c4 c5
  have fz : ∀ j, W2.frozen? ⟨w.heap.size, j, none⟩ = false := fun j => frozen_of_block HX2.out
  have fz0 := fz 0
  have fz1 := fz 1
  have fz2 := fz 2
  have fz3 := fz 3
  have fz4 := fz 4
  have fz5 := fz 5
  clear fz hu1 hy1 gz hA hB hll hu2 hy2
  go_enter Try.func13, Try.ntmps13
  go_wp2_with fail
  go_quiet (first | (go_at_call 45; with_reducible exact Calls.quiet_of (V1.out _)) | (go_at_call 45; with_reducible exact Calls.quiet_of (V2.out _)))
  have HXQ : Hid ((W2.drewN nq).heap[w.heap.size]? = some (rwObj (.slice none 0 0) noRw 26)) := Lib.hid HX2.out
  have HBQ : Hid (Below w.heap.size w (W2.drewN nq)) := Lib.hid (HB2.out.trans (bdN _ _ _))
  subst hk
  simp only [if_true] at HPA
  have hx1 : ((1 : Int) == 1) = true := by simp
  have HX00 := Lib.hid hx0
  clear hx0
  obtain ⟨WP, hWP⟩ : ∃ W, W2.drewN nq = W := ⟨_, rfl⟩
  have hyWP : WP.heap[W0.heap.size]? = some (.cells #[.bool false, .int .i64 0, .int .i64 0, .slice none 0 0, .int .i64 0, .int .i64 0] 26) := by rw [← hWP]; exact HY2.out
  have hxWP : WP.heap[w.heap.size]? = some (.cells #[.bool false, .int .i64 0, .int .i64 0, .slice none 0 0, .int .i64 0, .int .i64 0] 26) := by rw [← hWP]; exact HX2.out
  have HBP : Hid (Below w.heap.size w WP) := Lib.hid (by rw [← hWP]; exact HBQ.out)
  rw [hWP]
  have hc0 : WP.cell? ⟨W0.heap.size, 0, none⟩ = some (.bool false) := by rw [cell_of_block hyWP]; rfl
  have hf0 : WP.frozen? ⟨W0.heap.size, 0, none⟩ = false := frozen_of_block hyWP
  obtain ⟨Wa, hWa⟩ : ∃ W, WP.setCell ⟨W0.heap.size, 0, none⟩ (.bool true) = W := ⟨_, rfl⟩
  have hyWa : Wa.heap[W0.heap.size]? = some (.cells #[.bool true, .int .i64 0, .int .i64 0, .slice none 0 0, .int .i64 0, .int .i64 0] 26) := by rw [← hWa]; simpa using heap_setCell_same WP W0.heap.size 0 _ _ (.bool true) hyWP
  have huWa : Upd [W0.heap.size] WP Wa := by rw [← hWa]; exact Upd.setCell (by simp) _
  have hxWa := upd_far huWa hxWP (by simp; omega)
  have hcWa : Wa.cell? ⟨W0.heap.size, 1, none⟩ = some (.int .i64 0) := by rw [cell_of_block hyWa]; rfl
  have hfWa : Wa.frozen? ⟨W0.heap.size, 1, none⟩ = false := frozen_of_block hyWa
  obtain ⟨Wb, hWb⟩ : ∃ W, Wa.setCell ⟨W0.heap.size, 1, none⟩ (.int .i64 A) = W := ⟨_, rfl⟩
  have hyWb : Wb.heap[W0.heap.size]? = some (.cells #[.bool true, .int .i64 A, .int .i64 0, .slice none 0 0, .int .i64 0, .int .i64 0] 26) := by rw [← hWb]; simpa using heap_setCell_same Wa W0.heap.size 1 _ _ (.int .i64 A) hyWa
  have huWb : Upd [W0.heap.size] Wa Wb := by rw [← hWb]; exact Upd.setCell (by simp) _
  have hxWb := upd_far huWb hxWa (by simp; omega)
  have hcWb : Wb.cell? ⟨W0.heap.size, 2, none⟩ = some (.int .i64 0) := by rw [cell_of_block hyWb]; rfl
  have hfWb : Wb.frozen? ⟨W0.heap.size, 2, none⟩ = false := frozen_of_block hyWb
  obtain ⟨Wc, hWc⟩ : ∃ W, Wb.setCell ⟨W0.heap.size, 2, none⟩ (.int .i64 (wrap64 B)) = W := ⟨_, rfl⟩
  have hyWc : Wc.heap[W0.heap.size]? = some (.cells #[.bool true, .int .i64 A, .int .i64 (wrap64 B), .slice none 0 0, .int .i64 0, .int .i64 0] 26) := by rw [← hWc]; simpa using heap_setCell_same Wb W0.heap.size 2 _ _ (.int .i64 (wrap64 B)) hyWb
  have huWc : Upd [W0.heap.size] Wb Wc := by rw [← hWc]; exact Upd.setCell (by simp) _
  have hxWc := upd_far huWc hxWb (by simp; omega)
  have HYC := Lib.hid hyWc
  have HXC := Lib.hid hxWc
  have HBC : Hid (Below w.heap.size w Wc) := Lib.hid (HBP.out.trans ((huWa.trans (huWb.trans huWc)).belowB HBP.out.size (by simp; omega)))
  clear hyWP hxWP hyWa hyWb hyWc hxWa hxWb hxWc huWa huWb huWc
  go_wp2_with fail
  clear hWa hWb hWc hWP hc0 hf0 hcWa hfWa hcWb hfWb
  go_loopw [9] (fun i wr => ∃ k : Nat, k ≤ 4 * m ∧ i = .int .i64 (13 + (k : Int)) ∧ wr = Wc ∧ Hid (∀ x ∈ ((bytesI s).drop 13).take k, x = 0)) (fun i _ => (13 + 4 * m - (intOf i).toNat))
  case atStart => exact ⟨0, Nat.zero_le _, by simp, rfl, Lib.hid (by simp)⟩
  case round =>
    obtain ⟨k, hkk, rfl, rfl, hz⟩ := hrel
    by_cases hlt : k < 4 * m
    · obtain ⟨x, hx⟩ : ∃ x, (bytesI s)[13 + k]? = some x := ⟨_, List.getElem?_eq_getElem (by rw [bytesI_len]; omega)⟩
      have hix := str_byte hx
      have e13 : ((13 + k : Nat) : Int) = 13 + (k : Int) := by omega
      rw [e13] at hix
      have hxd : ((bytesI s).drop 13)[k]? = some x := by rw [List.getElem?_drop]; exact hx
      have i1 : (13 : Int) + (k : Int) < 13 + 4 * (m : Int) := by omega
      by_cases hx0 : x = 0
      · subst hx0
        have HZ : Hid (∀ x ∈ ((bytesI s).drop 13).take (k + 1), x = 0) := Lib.hid (fun y hy => by rw [take_snoc' hxd] at hy; rcases List.mem_append.1 hy with hy | hy; exact hz.out y hy; simpa using hy)
        have hne : ((0 : Int) != 0) = false := by simp
        clear hx hxd e13
        go_wp2_with fail
        go_roundw
        case rel => exact ⟨k + 1, by omega, by first | (congr 1; done) | (congr 1; omega), by first | rfl | trivial, HZ⟩
        case measure => simp [intOf]; omega
      · have hne : (x != 0) = true := by simpa using hx0
        have HTB : Hid (tellRec (bytesI s) (m : Int) = (noRw, 6)) := Lib.hid (by
          unfold tellRec
          rw [if_pos HX00.out, if_neg]
          rw [Bool.and_eq_true]
          rintro ⟨h, _⟩
          have := List.all_eq_true.1 h x (List.mem_of_getElem? hxd)
          exact hx0 (by simpa using this))
        obtain ⟨q0, q1, q2, q3, q4, q5⟩ := rw_cells (x := noRw) (v := .slice none 0 0) HXC.out
        simp only [noRw] at q0 q1 q2 q3 q4 q5
        have fz : ∀ j, wr.frozen? ⟨w.heap.size, j, none⟩ = false := fun j => frozen_of_block HXC.out
        have fz0 := fz 0
        have fz1 := fz 1
        have fz2 := fz 2
        have fz3 := fz 3
        have fz4 := fz 4
        have fz5 := fz 5
        clear hx hxd e13 hx0 fz
        go_wp2_with fail
        refine bodyPost_ret (v := .tuple #[.agg #[.bool false, .int .i64 0, .int .i64 0, .slice none 0 0, .int .i64 0, .int .i64 0], .int .i64 6]) (results_aggtmp rfl Try.isAgg26 Try.sizeOf26 _ _ rfl (rheap_set6 HXC.out rfl _ _ _ _ _ _) rfl rfl) rfl ⟨.slice none 0 0, noRw, 6, HTB.out, rfl, noRw_at _ _, ?_⟩
        exact (HBC.out).trans (Upd.belowB (S := [w.heap.size]) (upd_set6 _ _ _ _ _ _ _ _) (HBC.out).size (by simp))
    · have HZ : Hid (((bytesI s).drop 13).all (· == 0) = true) := Lib.hid (by
        have hk4 : k = 4 * m := by omega
        rw [List.all_eq_true]
        intro y hy
        have := hz.out y (by rw [List.take_of_length_le (by rw [List.length_drop, bytesI_len]; omega)]; exact hy)
        simp [this])
      have i1 : ¬ (13 : Int) + (k : Int) < 13 + 4 * (m : Int) := by omega
      clear hz
      have HYE := HYC
      have HXE := HXC
      have HBE := HBC
      obtain ⟨p0, p1, p2, p3, p4, p5⟩ := rw_cells (x := ⟨true, A, wrap64 B, ⟨[], 0⟩, 0⟩) (v := .slice none 0 0) HYE.out
      simp only [] at p0 p1 p2 p3 p4 p5
      have HRE : Hid (RwAt [w.heap.size] wr (.slice none 0 0) ⟨true, A, wrap64 B, ⟨[], 0⟩, 0⟩) := Lib.hid ⟨Kd.slice_nil (Kd.int .i32) _ _ none 0 (by simp [maxLen]), show (Lit.int .i64 A).wf = true from int64_wf (by omega) (by omega), wrap64_wf _, wf0, wf0⟩
      have HM := ref15_may_calls (.slice none 0 0) ⟨true, A, wrap64 B, ⟨[], 0⟩, 0⟩ (m : Int) _ wr HRE.out
      obtain ⟨mb, hmb⟩ : ∃ b, mayB ⟨true, A, wrap64 B, ⟨[], 0⟩, 0⟩ (m : Int) = b := ⟨_, rfl⟩
      rw [hmb] at HM
      have HM := Lib.hid HM
      have HTF : Hid (mb = false → tellRec (bytesI s) (m : Int) = (noRw, 6)) := Lib.hid (fun h => by unfold tellRec; rw [if_pos HX00.out, HPA.out, hmb, h, Bool.and_false]; simp)
      have HTT : Hid (mb = true → tellRec (bytesI s) (m : Int) = (⟨true, A, wrap64 B, ⟨[], 0⟩, 0⟩, 0)) := Lib.hid (fun h => by unfold tellRec; rw [if_pos HX00.out, HPA.out, hmb, h, HZ.out]; simp)
      clear hmb
      go_wp2_with fail
      refine HM.out.mono ?_
      rintro e w9 ⟨rfl, hb9⟩
      have HB9 := Lib.hid (HBE.out.trans (hb9.mono HBE.out.size))
      have hx9 := (hb9.block _ (block_lt HXE.out)).trans HXE.out
      have hy9 := (hb9.block _ (block_lt HYE.out)).trans HYE.out
      have HX9 := Lib.hid hx9
      have HR9 := Lib.hid (HRE.out.below hb9)
      obtain ⟨q0, q1, q2, q3, q4, q5⟩ := rw_cells (x := noRw) (v := .slice none 0 0) hx9
      simp only [noRw] at q0 q1 q2 q3 q4 q5
      have fz : ∀ j, w9.frozen? ⟨w.heap.size, j, none⟩ = false := fun j => frozen_of_block HX9.out
      have fz0 := fz 0
      have fz1 := fz 1
      have fz2 := fz 2
      have fz3 := fz 3
      have fz4 := fz 4
      have fz5 := fz 5
      clear p0 p1 p2 p3 p4 p5
      obtain ⟨p0, p1, p2, p3, p4, p5⟩ := rw_cells (x := ⟨true, A, wrap64 B, ⟨[], 0⟩, 0⟩) (v := .slice none 0 0) hy9
      simp only [] at p0 p1 p2 p3 p4 p5
      clear hb9 hx9 hy9 fz HM
      cases mb with
      | false =>
        have HTB : Hid (tellRec (bytesI s) (m : Int) = (noRw, 6)) := Lib.hid (HTF.out rfl)
        go_wp2_with fail
        refine bodyPost_ret (v := .tuple #[.agg #[.bool false, .int .i64 0, .int .i64 0, .slice none 0 0, .int .i64 0, .int .i64 0], .int .i64 6]) (results_aggtmp rfl Try.isAgg26 Try.sizeOf26 _ _ rfl (rheap_set6 HX9.out rfl _ _ _ _ _ _) rfl rfl) rfl ⟨.slice none 0 0, noRw, 6, HTB.out, rfl, noRw_at _ _, ?_⟩
        exact (HB9.out).trans (Upd.belowB (S := [w.heap.size]) (upd_set6 _ _ _ _ _ _ _ _) (HB9.out).size (by simp))
      | true =>
        go_wp2_with fail
        refine bodyPost_ret (v := .tuple #[.agg #[.bool true, .int .i64 A, .int .i64 (wrap64 B), .slice none 0 0, .int .i64 0, .int .i64 0], .int .i64 0]) (results_aggtmp rfl Try.isAgg26 Try.sizeOf26 _ _ rfl (rheap_set6 HX9.out rfl _ _ _ _ _ _) rfl rfl) rfl ⟨.slice none 0 0, ⟨true, A, wrap64 B, ⟨[], 0⟩, 0⟩, 0, HTT.out (by simp), rfl, HR9.out.updS (Upd.trans (S := [w.heap.size]) (Upd.refl _ _) (upd_set6 _ _ _ _ _ _ _ _)), ?_⟩
        exact (HB9.out).trans (Upd.belowB (S := [w.heap.size]) (upd_set6 _ _ _ _ _ _ _ _) (HB9.out).size (by simp))

set_option maxHeartbeats 8000000 in
set_option maxRecDepth 100000 in
theorem ref15_get_split (s : ByteArray) (m : Nat) (hm1 : 1 ≤ m) (hm2 : m ≤ 1024) (hsm : s.size = 13 + 4 * m) (x0 : Int) (hx0 : (bytesI s)[0]? = some x0) (hk : x0 = 2) (w : World) :
    Calls Try.prog 13 #[.string s, .int .i64 (m : Int)] w fun e w' => ∃ vn g err, tellRec (bytesI s) (m : Int) = (g, err) ∧ e = .returned (.tuple #[.agg #[.bool g.leaf, .int .i64 g.count, .int .i64 g.place, vn, .int .i64 g.pl.off, .int .i64 g.right], .int .i64 err]) ∧ RwAt [] w' vn g ∧ Below w.heap.size w w' := by
  obtain ⟨W0, hW0⟩ : ∃ W0, w.alloc (.cells #[.bool false, .int .i64 0, .int .i64 0, .slice none 0 0, .int .i64 0, .int .i64 0] 26) = W0 := ⟨_, rfl⟩
  have hb0 : Below w.heap.size w W0 := by rw [← hW0]; exact below_alloc1 w _
  have hx0 : W0.heap[w.heap.size]? = some (rwObj (.slice none 0 0) noRw 26) := by rw [← hW0]; exact Go.heap_alloc_new w _
  have hz0 : w.heap.size < W0.heap.size := block_lt hx0
  have HB0 := Lib.hid hb0
  have HX0 := Lib.hid hx0
  obtain ⟨c0, c1, c2, c3, c4, c5⟩ := rw_cells hx0
  simp only [noRw] at c0 c1 c2 c3 c4 c5
  have fz : ∀ j, W0.frozen? ⟨w.heap.size, j, none⟩ = false := fun j => frozen_of_block HX0.out
  have fz0 := fz 0
  have fz1 := fz 1
  have fz2 := fz 2
  have fz3 := fz 3
  have fz4 := fz 4
  have fz5 := fz 5
  clear hb0 hx0 fz
  have hll : (bytesI s).length = 13 + 4 * m := by rw [bytesI_len, hsm]
  have hix0 : ∀ W : World, (Instr.index 9 (.string s) (.int .i64 0)).run Try.prog W = .ok (.int .u8 x0) W := str_byte hx0
  have hwd : IntKind.i64.wrap (4 * (m : Int)) = 4 * (m : Int) := IntWalk.i64_in _ ⟨by omega, by omega⟩
  have hwe : IntKind.i64.wrap (13 + 4 * (m : Int)) = 13 + 4 * (m : Int) := IntWalk.i64_in _ ⟨by omega, by omega⟩
  have hd1 : (1 : Int) ≤ (m : Int) := by omega
  have hd2 : (m : Int) ≤ 1024 := by omega
  have q4 := part4_bound s 1
  have q8 := part8_bound s 5
  have V1 : Hid (∀ W, Calls Try.prog 45 #[.string (s.extract 1 5)] W fun e w' => e = .returned (.int .u64 (leV (((bytesI s).drop 1).take 4))) ∧ ∃ n, w' = W.drewN n) := Lib.hid (fun W => by
    have := value_calls (s.extract 1 5) (by simp [ByteArray.size_extract]; omega) W
    rwa [bytesI_extract] at this)
  have V2 : Hid (∀ W, Calls Try.prog 45 #[.string (s.extract 5 13)] W fun e w' => e = .returned (.int .u64 (leV (((bytesI s).drop 5).take 8))) ∧ ∃ n, w' = W.drewN n) := Lib.hid (fun W => by
    have := value_calls (s.extract 5 13) (by simp [ByteArray.size_extract]; omega) W
    rwa [bytesI_extract] at this)
  obtain ⟨S1, hS1⟩ : ∃ S, s.extract 1 5 = S := ⟨_, rfl⟩
  obtain ⟨S2, hS2⟩ : ∃ S, s.extract 5 13 = S := ⟨_, rfl⟩
  rw [hS1] at V1
  rw [hS2] at V2
  have HPA : Hid (parseRec (bytesI s) = if x0 = 1 then ⟨true, leV (((bytesI s).drop 1).take 4), wrap64 (leV (((bytesI s).drop 5).take 8)), ⟨[], 0⟩, 0⟩ else ⟨false, 0, 0, ⟨colK ((bytesI s).drop 13) m, wrap64 (leV (((bytesI s).drop 5).take 8))⟩, leV (((bytesI s).drop 1).take 4)⟩) := Lib.hid (by
    have e : leV (((bytesI s).drop 0).take 1) = x0 := by
      generalize bytesI s = l at hx0
      cases l with
      | nil => simp at hx0
      | cons a l => simp at hx0; simp [hx0, leV]
    unfold parseRec
    rw [e, show ((bytesI s).length - 13) / 4 = m by omega])
  obtain ⟨A, hA⟩ : ∃ n, leV (((bytesI s).drop 1).take 4) = n := ⟨_, rfl⟩
  obtain ⟨B, hB⟩ : ∃ n, leV (((bytesI s).drop 5).take 8) = n := ⟨_, rfl⟩
  rw [hA] at V1 HPA q4
  rw [hB] at V2 HPA q8
  have hwA : IntKind.i64.wrap A = A := IntWalk.i64_in _ ⟨by omega, by omega⟩
  have hwB : IntKind.i64.wrap B = wrap64 B := by rw [IntKind.wrap_i64]; unfold wrap64; omega
  have e13 : (13 : Int) ≤ (s.size : Int) := by omega
  obtain ⟨W1, hW1⟩ : ∃ W1, W0.alloc (.cells #[.bool false, .int .i64 0, .int .i64 0, .slice none 0 0, .int .i64 0, .int .i64 0] 26) = W1 := ⟨_, rfl⟩
  have hu1 : Upd [] W0 W1 := by rw [← hW1]; exact Upd.alloc [] W0 _
  have hy1 : W1.heap[W0.heap.size]? = some (rwObj (.slice none 0 0) noRw 26) := by rw [← hW1]; exact Go.heap_alloc_new W0 _
  have HY1 := Lib.hid hy1
  have HX1 := Lib.hid (upd_far hu1 HX0.out (by simp))
  have HB1 := Lib.hid (HB0.out.trans (hu1.below.mono HB0.out.size))
  obtain ⟨y0, y1, y2, y3, y4, y5⟩ := rw_cells hy1
  simp only [noRw] at y0 y1 y2 y3 y4 y5
  have gz : ∀ j, W1.frozen? ⟨W0.heap.size, j, none⟩ = false := fun j => frozen_of_block HY1.out
  have gz0 := gz 0
  have gz1 := gz 1
  have gz2 := gz 2
  have gz3 := gz 3
  have gz4 := gz 4
  have gz5 := gz 5
  obtain ⟨W2, hW2⟩ : ∃ W2, ((((((W1.setCell ⟨W0.heap.size, 0, none⟩ (.bool false)).setCell ⟨W0.heap.size, 1, none⟩ (.int .i64 0)).setCell ⟨W0.heap.size, 2, none⟩ (.int .i64 0)).setCell ⟨W0.heap.size, 3, none⟩ (.slice none 0 0)).setCell ⟨W0.heap.size, 4, none⟩ (.int .i64 0)).setCell ⟨W0.heap.size, 5, none⟩ (.int .i64 0)) = W2 := ⟨_, rfl⟩
  have hu2 : Upd [W0.heap.size] W1 W2 := by rw [← hW2]; exact upd_set6 _ _ _ _ _ _ _ _
  have hy2 : W2.heap[W0.heap.size]? = some (rwObj (.slice none 0 0) noRw 26) := by rw [← hW2]; exact rheap_set6 hy1 rfl _ _ _ _ _ _
  have HY2 := Lib.hid hy2
  have HX2 := Lib.hid (upd_far hu2 HX1.out (by simp; omega))
  have HB2 := Lib.hid (HB1.out.trans (hu2.belowB HB1.out.size (by simp; omega)))
  have h5m : (5 : Int) ≤ 13 + 4 * (m : Int) := by omega
  have h13m : (13 : Int) ≤ 13 + 4 * (m : Int) := by omega
  clear c0 c1 c2 c3 c4 c5 fz0 fz1 fz2 fz3 fz4 fz5
  obtain ⟨c0, c1, c2, c3, c4, c5⟩ := rw_cells HX2.out
  simp only [noRw] at c0 c1 c2 c3 c4 c5
  have fz : ∀ j, W2.frozen? ⟨w.heap.size, j, none⟩ = false := fun j => frozen_of_block HX2.out
  have fz0 := fz 0
  have fz1 := fz 1
  have fz2 := fz 2
  have fz3 := fz 3
  have fz4 := fz 4
  have fz5 := fz 5
  clear fz hu1 hy1 gz hA hB hll hu2 hy2
  go_enter Try.func13, Try.ntmps13
  go_wp2_with fail
  go_quiet (first | (go_at_call 45; with_reducible exact Calls.quiet_of (V1.out _)) | (go_at_call 45; with_reducible exact Calls.quiet_of (V2.out _)))
  have HXQ : Hid ((W2.drewN nq).heap[w.heap.size]? = some (rwObj (.slice none 0 0) noRw 26)) := Lib.hid HX2.out
  have HBQ : Hid (Below w.heap.size w (W2.drewN nq)) := Lib.hid (HB2.out.trans (bdN _ _ _))
  subst hk
  simp only [show ¬ (2 : Int) = 1 by decide, if_false] at HPA
  have hx1 : ((2 : Int) == 1) = false := by decide
  have hx2 : ((2 : Int) == 2) = true := by decide
  have HX00 := Lib.hid hx0
  clear hx0
  obtain ⟨i0, hi, hzz0, hzz1, hzz2⟩ := info_parts Go.Proofs.Ytfkmkhojedfccaa.A.infoI32
  have HI := Lib.hid hi
  have HZ0 := Lib.hid hzz0
  have HZ1 := Lib.hid hzz1
  have HZ2 := Lib.hid hzz2
  clear hi hzz0 hzz1 hzz2
  obtain ⟨WP, hWP⟩ : ∃ W, W2.drewN nq = W := ⟨_, rfl⟩
  have hyWP : WP.heap[W0.heap.size]? = some (.cells #[.bool false, .int .i64 0, .int .i64 0, .slice none 0 0, .int .i64 0, .int .i64 0] 26) := by rw [← hWP]; exact HY2.out
  have hxWP : WP.heap[w.heap.size]? = some (.cells #[.bool false, .int .i64 0, .int .i64 0, .slice none 0 0, .int .i64 0, .int .i64 0] 26) := by rw [← hWP]; exact HX2.out
  have HBP : Hid (Below w.heap.size w WP) := Lib.hid (by rw [← hWP]; exact HBQ.out)
  rw [hWP]
  have hc0 : WP.cell? ⟨W0.heap.size, 5, none⟩ = some (.int .i64 0) := by rw [cell_of_block hyWP]; rfl
  have hf0 : WP.frozen? ⟨W0.heap.size, 5, none⟩ = false := frozen_of_block hyWP
  obtain ⟨Wa, hWa⟩ : ∃ W, WP.setCell ⟨W0.heap.size, 5, none⟩ (.int .i64 A) = W := ⟨_, rfl⟩
  have hyWa : Wa.heap[W0.heap.size]? = some (.cells #[.bool false, .int .i64 0, .int .i64 0, .slice none 0 0, .int .i64 0, .int .i64 A] 26) := by rw [← hWa]; simpa using heap_setCell_same WP W0.heap.size 5 _ _ (.int .i64 A) hyWP
  have huWa : Upd [W0.heap.size] WP Wa := by rw [← hWa]; exact Upd.setCell (by simp) _
  have hxWa := upd_far huWa hxWP (by simp; omega)
  have hcWa : Wa.cell? ⟨W0.heap.size, 4, none⟩ = some (.int .i64 0) := by rw [cell_of_block hyWa]; rfl
  have hfWa : Wa.frozen? ⟨W0.heap.size, 4, none⟩ = false := frozen_of_block hyWa
  obtain ⟨Wb, hWb⟩ : ∃ W, Wa.setCell ⟨W0.heap.size, 4, none⟩ (.int .i64 (wrap64 B)) = W := ⟨_, rfl⟩
  have hyWb : Wb.heap[W0.heap.size]? = some (.cells #[.bool false, .int .i64 0, .int .i64 0, .slice none 0 0, .int .i64 (wrap64 B), .int .i64 A] 26) := by rw [← hWb]; simpa using heap_setCell_same Wa W0.heap.size 4 _ _ (.int .i64 (wrap64 B)) hyWa
  have huWb : Upd [W0.heap.size] Wa Wb := by rw [← hWb]; exact Upd.setCell (by simp) _
  have hxWb := upd_far huWb hxWa (by simp; omega)
  have HYB := Lib.hid hyWb
  have HXB := Lib.hid hxWb
  have HBB : Hid (Below w.heap.size w Wb) := Lib.hid (HBP.out.trans ((huWa.trans huWb).belowB HBP.out.size (by simp; omega)))
  have hzb : W0.heap.size < Wb.heap.size := block_lt hyWb
  clear hyWP hxWP hyWa hyWb hxWa hxWb huWa huWb
  go_wp2_with fail
  clear hWa hWb hWP hc0 hf0 hcWa hfWa
  go_loopw [10] (fun i wr => ∃ (k : Nat) (v : Value), k ≤ m ∧ i = .int .i64 (k : Int) ∧ Hid (Row (Kd.int .i32) [] 21 Wb.heap.size wr v (colK ((bytesI s).drop 13) k)) ∧ Hid (wr.heap[W0.heap.size]? = some (.cells #[.bool false, .int .i64 0, .int .i64 0, v, .int .i64 (wrap64 B), .int .i64 A] 26)) ∧ Hid (Upd [W0.heap.size] Wb wr)) (fun i _ => m - (intOf i).toNat)
  case atStart => exact ⟨0, .slice none 0 0, Nat.zero_le _, rfl, Lib.hid (Row.nil _ _ _ _ _), HYB, Lib.hid (Upd.refl _ _)⟩
  case round =>
    obtain ⟨k, v, hkk, rfl, hrow, hy, hu⟩ := hrel
    have hob := hrow.out.ob_lt
    have hzu := hu.out.size
    obtain ⟨L, hL⟩ : ∃ L, colK ((bytesI s).drop 13) k = L := ⟨_, rfl⟩
    have hLk : L.length = k := by rw [← hL, colK_len]
    rw [hL] at hrow
    have HL := Lib.hid hL
    obtain ⟨ao, cp, rfl, hcp1, hcp2⟩ := row_form hrow.out
    unfold maxLen at hcp2
    by_cases hlt : k < m
    · have hb4 := part4_bound s (13 + 4 * k)
      have V3 : Hid (∀ W, Calls Try.prog 45 #[.string (s.extract (13 + 4 * k) (17 + 4 * k))] W fun e w' => e = .returned (.int .u64 (leV (((bytesI s).drop (13 + 4 * k)).take 4))) ∧ ∃ n, w' = W.drewN n) := Lib.hid (fun W => by
        have := value_calls (s.extract (13 + 4 * k) (17 + 4 * k)) (by simp [ByteArray.size_extract]; omega) W
        rwa [bytesI_extract, show 17 + 4 * k - (13 + 4 * k) = 4 by omega] at this)
      have hcs := colK_succ ((bytesI s).drop 13) k
      unfold colAt at hcs
      rw [List.drop_drop, hL] at hcs
      obtain ⟨N, hN⟩ : ∃ n, leV (((bytesI s).drop (13 + 4 * k)).take 4) = n := ⟨_, rfl⟩
      rw [hN] at V3 hb4 hcs
      have SG : Hid (∀ W, Calls Try.prog 46 #[.int .u64 N, .int .i64 4] W fun e w' => e = .returned (.int .i64 (sgn4 N)) ∧ W = w') := Lib.hid (fun W => ref01_signed4_calls N hb4.1 hb4.2 W)
      have hq := sgn4_bound hb4.1 hb4.2
      obtain ⟨q, hqq⟩ : ∃ q, sgn4 N = q := ⟨_, rfl⟩
      rw [hqq] at SG hq hcs
      have HCS := Lib.hid hcs
      obtain ⟨S3, hS3⟩ : ∃ S, s.extract (13 + 4 * k) (17 + 4 * k) = S := ⟨_, rfl⟩
      rw [hS3] at V3
      have hwr : IntKind.i32.wrap q = q := IntWalk.i32_in _ ⟨by omega, by omega⟩
      have hw1 : IntKind.i64.wrap (4 * (k : Int)) = 4 * (k : Int) := IntWalk.i64_in _ ⟨by omega, by omega⟩
      have hw2 : IntKind.i64.wrap (13 + 4 * (k : Int)) = 13 + 4 * (k : Int) := IntWalk.i64_in _ ⟨by omega, by omega⟩
      have hw3 : IntKind.i64.wrap (17 + 4 * (k : Int)) = 17 + 4 * (k : Int) := IntWalk.i64_in _ ⟨by omega, by omega⟩
      have ht1 : (13 + 4 * (k : Int)).toNat = 13 + 4 * k := by omega
      have ht2 : (17 + 4 * (k : Int)).toNat = 17 + 4 * k := by omega
      have j0 : (0 : Int) ≤ 13 + 4 * (k : Int) := by omega
      have j1 : (13 : Int) + 4 * (k : Int) ≤ 17 + 4 * (k : Int) := by omega
      have j2 : (17 : Int) + 4 * (k : Int) ≤ 13 + 4 * (m : Int) := by omega
      have i1 : (k : Int) < (m : Int) := by omega
      have CB : Hid (∀ W, Upd [] wr W → W.cell? ⟨W0.heap.size, 3, none⟩ = some (.slice ao L.length cp)) := Lib.hid (fun W hW => by rw [cell_of_block (upd_far hW hy.out (by simp))]; rfl)
      have hpn : W0.heap.size ∉ ob (.slice ao L.length cp) := fun hm => by have := (hob _ hm).1; omega
      have HYW : Hid (∀ W, Upd (ob (.slice ao L.length cp)) wr W → W.heap[W0.heap.size]? = some (.cells #[.bool false, .int .i64 0, .int .i64 0, .slice ao L.length cp, .int .i64 (wrap64 B), .int .i64 A] 26)) := Lib.hid (fun W hW => upd_far hW hy.out hpn)
      have ONE : Hid (∀ (X : World) (b : Nat), X.heap[b]? = some (.cells #[.int .i32 q] 21) → wr.heap.size ≤ b → (Kd.int .i32).slice.At (ob (.slice ao L.length cp) ++ []) X [.slice (some ⟨b, 0, none⟩) 1 1] [q]) := Lib.hid (fun X b hX hb => by
        refine ⟨⟨some ⟨b, 0, none⟩, 1, rfl, Nat.le_refl _, by simp [maxLen], fun i x hi => ?_⟩⟩
        have hlb := block_lt hX
        match i, hi with
        | 0, hi =>
          simp at hi; subst hi
          refine ⟨b, 0, rfl, ⟨hlb, fun hm => ?_⟩, hlb, [.int .i32 q], ⟨rfl, by simp [Lit.wf, IntKind.min, IntKind.max, IntKind.signed, IntKind.bits]; omega⟩, fun j u hj => ?_⟩
          · rw [List.append_nil] at hm; have := (hob _ hm).2; omega
          · rw [cell_of_block hX]; cases j with | zero => simpa using hj | succ j => simp at hj
        | i + 1, hi => simp at hi)
      have HROW := Lib.hid hrow.out
      have hk1024 : k ≤ 1024 := by omega
      have HLK := Lib.hid hLk
      clear hrow hL hLk hcs hqq hN hob hpn hb4
      go_wp2_with fail
      -- SPLIT
      refine wp_region_noPanic ?_
      refine wp_region_held_drew (S := (fun _ => True)) (by kernel_rfl) ?_ (fun hHeld => ?_)
      · (try dsimp only)
        all_goals trivial
      refine wpAnyH_take (i := 0) (oi := ?_) (v := ?_) ?_ (by kernel_rfl) (by kernel_rfl) (by kernel_rfl) (fun _ _ _ h => h) ?_ (by assumption) ?_
      (rotate_left 2; focus (simp only [List.getElem?_toArray, List.getElem?_cons_succ, List.getElem?_cons_zero]; rfl))
      (focus (refine Or.inl ⟨by rfl, ?_⟩; intro w hSw; (try dsimp only at hSw); go_simp; any_goals with_reducible rfl))
      (try simp only [Act.put, List.setIfInBounds_toArray, List.set_cons_zero, List.set_cons_succ])
      refine wpAnyH_take (i := 1) (oi := ?_) (v := ?_) ?_ (by kernel_rfl) (by kernel_rfl) (by kernel_rfl) (fun _ _ _ h => h) ?_ (by assumption) ?_
      (rotate_left 2; focus (simp only [List.getElem?_toArray, List.getElem?_cons_succ, List.getElem?_cons_zero]; rfl))
      (focus (refine Or.inl ⟨by rfl, ?_⟩; intro w hSw; (try dsimp only at hSw); go_simp; any_goals with_reducible rfl))
      (try simp only [Act.put, List.setIfInBounds_toArray, List.set_cons_zero, List.set_cons_succ])
      refine wpAnyH_take (i := 3) (oi := ?_) (v := ?_) ?_ (by kernel_rfl) (by kernel_rfl) (by kernel_rfl) (fun _ _ _ h => h) ?_ (by assumption) ?_
      (rotate_left 2; focus (simp only [List.getElem?_toArray, List.getElem?_cons_succ, List.getElem?_cons_zero]; rfl))
      (focus (refine Or.inl ⟨by rfl, ?_⟩; intro w hSw; (try dsimp only at hSw); go_simp; any_goals with_reducible rfl))
      (try simp only [Act.put, List.setIfInBounds_toArray, List.set_cons_zero, List.set_cons_succ])
      refine wpAnyH_take (i := 4) (oi := ?_) (v := ?_) ?_ (by kernel_rfl) (by kernel_rfl) (by kernel_rfl) (fun _ _ _ h => h) ?_ (by assumption) ?_
      (rotate_left 2; focus (simp only [List.getElem?_toArray, List.getElem?_cons_succ, List.getElem?_cons_zero]; rfl))
      (focus (refine Or.inl ⟨by rfl, ?_⟩; intro w hSw; (try dsimp only at hSw); go_simp; any_goals with_reducible rfl))
      (try simp only [Act.put, List.setIfInBounds_toArray, List.set_cons_zero, List.set_cons_succ])
      refine wpAnyH_take (i := 5) (oi := ?_) (v := ?_) ?_ (by kernel_rfl) (by kernel_rfl) (by kernel_rfl) (fun _ _ _ h => h) ?_ (by assumption) ?_
      (rotate_left 2; focus (simp only [List.getElem?_toArray, List.getElem?_cons_succ, List.getElem?_cons_zero]; rfl))
      (focus (refine Or.inl ⟨by rfl, ?_⟩; intro w hSw; (try dsimp only at hSw); go_simp; any_goals with_reducible rfl))
      (try simp only [Act.put, List.setIfInBounds_toArray, List.set_cons_zero, List.set_cons_succ])
      refine wpAnyH_take (i := 6) (oi := ?_) (v := ?_) ?_ (by kernel_rfl) (by kernel_rfl) (by kernel_rfl) (fun _ _ _ h => h) ?_ (by assumption) ?_
      (rotate_left 2; focus (simp only [List.getElem?_toArray, List.getElem?_cons_succ, List.getElem?_cons_zero]; rfl))
      (focus (refine Or.inl ⟨by rfl, ?_⟩; intro w hSw; (try dsimp only at hSw); go_simp; any_goals with_reducible rfl))
      (try simp only [Act.put, List.setIfInBounds_toArray, List.set_cons_zero, List.set_cons_succ])
      refine wpAnyH_take (i := 7) (oi := ?_) (v := ?_) ?_ (by kernel_rfl) (by kernel_rfl) (by kernel_rfl) (fun _ _ _ h => h) ?_ (by assumption) ?_
      (rotate_left 2; focus (simp only [List.getElem?_toArray, List.getElem?_cons_succ, List.getElem?_cons_zero]; rfl))
      (focus (refine Or.inl ⟨by rfl, ?_⟩; intro w hSw; (try dsimp only at hSw); go_simp; any_goals with_reducible rfl))
      (try simp only [Act.put, List.setIfInBounds_toArray, List.set_cons_zero, List.set_cons_succ])
      refine wpAnyH_take (i := 8) (oi := ?_) (v := ?_) ?_ (by kernel_rfl) (by kernel_rfl) (by kernel_rfl) (fun _ _ _ h => h) ?_ (by assumption) ?_
      (rotate_left 2; focus (simp only [List.getElem?_toArray, List.getElem?_cons_succ, List.getElem?_cons_zero]; rfl))
      (focus (refine Or.inl ⟨by rfl, ?_⟩; intro w hSw; (try dsimp only at hSw); go_simp; any_goals with_reducible rfl))
      (try simp only [Act.put, List.setIfInBounds_toArray, List.set_cons_zero, List.set_cons_succ])
      refine wpAnyH_take (i := 9) (oi := ?_) (v := ?_) ?_ (by kernel_rfl) (by kernel_rfl) (by kernel_rfl) (fun _ _ _ h => h) ?_ (by assumption) ?_
      (rotate_left 2; focus (simp only [List.getElem?_toArray, List.getElem?_cons_succ, List.getElem?_cons_zero]; rfl))
      (focus (refine Or.inl ⟨by rfl, ?_⟩; intro w hSw; (try dsimp only at hSw); go_simp; any_goals with_reducible rfl))
      (try simp only [Act.put, List.setIfInBounds_toArray, List.set_cons_zero, List.set_cons_succ])
      refine wpAnyH_take (i := 10) (oi := ?_) (v := ?_) ?_ (by kernel_rfl) (by kernel_rfl) (by kernel_rfl) (fun _ _ _ h => h) ?_ (by assumption) ?_
      (rotate_left 2; focus (simp only [List.getElem?_toArray, List.getElem?_cons_succ, List.getElem?_cons_zero]; rfl))
      (focus (refine Or.inl ⟨by rfl, ?_⟩; intro w hSw; (try dsimp only at hSw); go_simp; any_goals with_reducible rfl))
      (try simp only [Act.put, List.setIfInBounds_toArray, List.set_cons_zero, List.set_cons_succ])
      refine wpAnyH_ready (rs := [2, 11]) (by kernel_rfl) (by simp) (AllReadyH.cons (by simp only [List.getElem?_toArray, List.getElem?_cons_succ, List.getElem?_cons_zero]; rfl) (fun K hK => ?_) (AllReadyH.cons (by simp only [List.getElem?_toArray, List.getElem?_cons_succ, List.getElem?_cons_zero]; rfl) (fun K hK => ?_) AllReadyH.nil))
      · have hq2 := CB.out _ (Upd.drew [] wr)
        go_simp
        clear hq2
        refine hK.out _ _ ?_ (fun hNew => ?_)
        · (try dsimp only)
          all_goals trivial
        clear hK K hHeld
        have hHeld := hNew
        clear hNew
        (try simp only [Act.put, List.setIfInBounds_toArray, List.set_cons_zero, List.set_cons_succ])
        refine wpAnyH_ready (rs := [11]) (by kernel_rfl) (by simp) (AllReadyH.cons (by simp only [List.getElem?_toArray, List.getElem?_cons_succ, List.getElem?_cons_zero]; rfl) (fun K hK => ?_) AllReadyH.nil)
        go_simp
        go_at_call 45
        refine (V3.out _).mono ?_
        rintro e v2 ⟨rfl, n2, hv2⟩
        have HU2 : Hid (Upd [] wr v2) := Lib.hid (by rw [hv2]; exact (Upd.drew [] wr).trans (Upd.drewN [] _ _))
        clear hv2
        (try go_wp2_with fail)
        refine hK.out _ _ ?_ (fun hNew => ?_)
        · (try dsimp only)
          all_goals trivial
        clear hK K hHeld
        have hHeld := hNew
        clear hNew
        (try simp only [Act.put, List.setIfInBounds_toArray, List.set_cons_zero, List.set_cons_succ])
        refine wpAnyH_ready (rs := [12]) (by kernel_rfl) (by simp) (AllReadyH.cons (by simp only [List.getElem?_toArray, List.getElem?_cons_succ, List.getElem?_cons_zero]; rfl) (fun K hK => ?_) AllReadyH.nil)
        go_simp
        go_at_call 46
        refine (SG.out _).mono ?_
        rintro e wx ⟨rfl, rfl⟩
        (try go_wp2_with fail)
        refine hK.out _ _ ?_ (fun hNew => ?_)
        · (try dsimp only)
          all_goals trivial
        clear hK K hHeld
        have hHeld := hNew
        clear hNew
        (try simp only [Act.put, List.setIfInBounds_toArray, List.set_cons_zero, List.set_cons_succ])
        refine wpAnyH_take (i := 13) (oi := ?_) (v := ?_) ?_ (by kernel_rfl) (by kernel_rfl) (by kernel_rfl) (fun _ _ _ h => h) ?_ (by assumption) ?_
        (rotate_left 2; focus (simp only [List.getElem?_toArray, List.getElem?_cons_succ, List.getElem?_cons_zero]; rfl))
        (focus (refine Or.inl ⟨by rfl, ?_⟩; intro w hSw; (try dsimp only at hSw); go_simp; any_goals with_reducible rfl))
        (try simp only [Act.put, List.setIfInBounds_toArray, List.set_cons_zero, List.set_cons_succ])
        refine wpAnyH_ready (rs := [14]) (by kernel_rfl) (by simp) (AllReadyH.cons (by simp only [List.getElem?_toArray, List.getElem?_cons_succ, List.getElem?_cons_zero]; rfl) (fun K hK => ?_) AllReadyH.nil)
        go_simp
        refine hK.out _ _ ?_ (fun hNew => ?_)
        · (try dsimp only)
          all_goals trivial
        clear hK K hHeld
        have hHeld := hNew
        clear hNew
        (try simp only [Act.put, List.setIfInBounds_toArray, List.set_cons_zero, List.set_cons_succ])
        refine wpAnyH_ready (rs := [15]) (by kernel_rfl) (by simp) (AllReadyH.cons (by simp only [List.getElem?_toArray, List.getElem?_cons_succ, List.getElem?_cons_zero]; rfl) (fun K hK => ?_) AllReadyH.nil)
        refine step_row_append rfl (.tmp 77) (.tmp 89) _ rfl (K := Kd.int .i32) (M := []) (B := Wb.heap.size) (v := .slice ao L.length cp) (u := .slice (some ⟨(v2).heap.size, 0, none⟩) 1 1) (l := L) (l2 := [q]) rfl rfl ?_ Try.underlying22 HI.out HZ0.out HZ1.out HZ2.out rfl (by decide) ?_ ?_ ?_ ?_ ?_
        · exact Row.upd HROW.out ((HU2.out).trans (Upd.alloc [] _ (.cells #[.int .i32 q] 21))) (by simp) (by simp) (M' := []) (by simp)
        · exact ONE.out _ _ (Go.heap_alloc_new (v2) _) (HU2.out).size
        · (have := HLK.out; simp [maxLen]; omega)
        · (have := HLK.out; simp; omega)
        · (have := ((HU2.out).trans (Upd.alloc [] _ (.cells #[.int .i32 q] 21))).size; omega)
        intro va w3 hr3 hu3 ho3
        obtain ⟨a3, c3, rfl, hl3, hc3⟩ := row_form hr3
        have HU3 : Hid (Upd (ob (.slice ao L.length cp)) wr w3) := Lib.hid ((((HU2.out).trans (Upd.alloc [] _ (.cells #[.int .i32 q] 21))).mono (by simp)).trans hu3)
        have hd3 := HYW.out w3 HU3.out
        have g1 : w3.cell? ⟨W0.heap.size, 3, none⟩ = some (.slice ao L.length cp) := by rw [cell_of_block hd3]; rfl
        have k1 : w3.frozen? ⟨W0.heap.size, 3, none⟩ = false := frozen_of_block hd3
        have HD3 := Lib.hid hd3
        have HR3 := Lib.hid hr3
        clear hr3 hu3 ho3 hd3
        refine hK.out _ _ ?_ (fun hNew => ?_)
        · (try dsimp only)
          all_goals trivial
        clear hK K hHeld
        have hHeld := hNew
        clear hNew
        (try simp only [Act.put, List.setIfInBounds_toArray, List.set_cons_zero, List.set_cons_succ])
        refine wpAnyH_take (i := 16) (oi := ?_) (v := ?_) ?_ (by kernel_rfl) (by kernel_rfl) (by kernel_rfl) (fun _ _ _ h => h) ?_ (by assumption) ?_
        (rotate_left 2; focus (simp only [List.getElem?_toArray, List.getElem?_cons_succ, List.getElem?_cons_zero]; rfl))
        (focus (refine Or.inl ⟨by rfl, ?_⟩; intro w hSw; (try dsimp only at hSw); go_simp; any_goals with_reducible rfl))
        (try simp only [Act.put, List.setIfInBounds_toArray, List.set_cons_zero, List.set_cons_succ])
        refine wpAnyH_take (i := 17) (oi := ?_) (v := ?_) ?_ (by kernel_rfl) (by kernel_rfl) (by kernel_rfl) (fun _ _ _ h => h) ?_ (by assumption) ?_
        (rotate_left 2; focus (simp only [List.getElem?_toArray, List.getElem?_cons_succ, List.getElem?_cons_zero]; rfl))
        (focus (refine Or.inl ⟨by rfl, ?_⟩; intro w hSw; (try dsimp only at hSw); go_simp; any_goals with_reducible rfl))
        (try simp only [Act.put, List.setIfInBounds_toArray, List.set_cons_zero, List.set_cons_succ])
        refine wpAnyH_ready (rs := [18]) (by kernel_rfl) (by simp) (AllReadyH.cons (by simp only [List.getElem?_toArray, List.getElem?_cons_succ, List.getElem?_cons_zero]; rfl) (fun K hK => ?_) AllReadyH.nil)
        go_simp
        refine hK.out _ _ ?_ (fun hNew => ?_)
        · (try dsimp only)
          all_goals trivial
        clear hK K hHeld
        have hHeld := hNew
        clear hNew
        (try simp only [Act.put, List.setIfInBounds_toArray, List.set_cons_zero, List.set_cons_succ])
        refine wpAnyH_done (by kernel_rfl) ?_ _
        refine NoPanic.normal ?_
        go_wp2_with fail
        go_roundw
        case rel =>
          have hset := heap_setCell_same w3 W0.heap.size 3 _ _ (.slice a3 (L.length + 1) c3) HD3.out
          have hu4 : Upd [W0.heap.size] w3 (w3.setCell ⟨W0.heap.size, 3, none⟩ (.slice a3 (L.length + 1) c3)) := Upd.setCell (by simp) _
          have hr := HR3.out
          rw [show (L ++ [q]).length = L.length + 1 by simp] at hr
          refine ⟨k + 1, .slice a3 (L.length + 1) c3, by omega, by go_num, Lib.hid ?_, Lib.hid (by simpa using hset), Lib.hid ((hu.out.trans' HU3.out (fun j hj => .inr (by have := (HROW.out.ob_lt j hj).1; omega))).trans hu4)⟩
          rw [HCS.out]
          exact Row.upd (M := [W0.heap.size]) (M' := []) hr.int_any hu4 (by simp) (fun j hj => by have := (hr.ob_lt j hj).1; simp; omega) (by simp)
        case measure => simp [intOf]; omega
      · go_simp
        go_at_call 45
        refine (V3.out _).mono ?_
        rintro e v1 ⟨rfl, n1, hv1⟩
        have HU1 : Hid (Upd [] wr v1) := Lib.hid (by rw [hv1]; exact (Upd.drew [] wr).trans (Upd.drewN [] _ _))
        clear hv1
        (try go_wp2_with fail)
        refine hK.out _ _ ?_ (fun hNew => ?_)
        · (try dsimp only)
          all_goals trivial
        clear hK K hHeld
        have hHeld := hNew
        clear hNew
        (try simp only [Act.put, List.setIfInBounds_toArray, List.set_cons_zero, List.set_cons_succ])
        refine wpAnyH_ready (rs := [2, 12]) (by kernel_rfl) (by simp) (AllReadyH.cons (by simp only [List.getElem?_toArray, List.getElem?_cons_succ, List.getElem?_cons_zero]; rfl) (fun K hK => ?_) (AllReadyH.cons (by simp only [List.getElem?_toArray, List.getElem?_cons_succ, List.getElem?_cons_zero]; rfl) (fun K hK => ?_) AllReadyH.nil))
        · have hq2 := CB.out _ (HU1.out)
          go_simp
          clear hq2
          refine hK.out _ _ ?_ (fun hNew => ?_)
          · (try dsimp only)
            all_goals trivial
          clear hK K hHeld
          have hHeld := hNew
          clear hNew
          (try simp only [Act.put, List.setIfInBounds_toArray, List.set_cons_zero, List.set_cons_succ])
          refine wpAnyH_ready (rs := [12]) (by kernel_rfl) (by simp) (AllReadyH.cons (by simp only [List.getElem?_toArray, List.getElem?_cons_succ, List.getElem?_cons_zero]; rfl) (fun K hK => ?_) AllReadyH.nil)
          go_simp
          go_at_call 46
          refine (SG.out _).mono ?_
          rintro e wx ⟨rfl, rfl⟩
          (try go_wp2_with fail)
          refine hK.out _ _ ?_ (fun hNew => ?_)
          · (try dsimp only)
            all_goals trivial
          clear hK K hHeld
          have hHeld := hNew
          clear hNew
          (try simp only [Act.put, List.setIfInBounds_toArray, List.set_cons_zero, List.set_cons_succ])
          refine wpAnyH_take (i := 13) (oi := ?_) (v := ?_) ?_ (by kernel_rfl) (by kernel_rfl) (by kernel_rfl) (fun _ _ _ h => h) ?_ (by assumption) ?_
          (rotate_left 2; focus (simp only [List.getElem?_toArray, List.getElem?_cons_succ, List.getElem?_cons_zero]; rfl))
          (focus (refine Or.inl ⟨by rfl, ?_⟩; intro w hSw; (try dsimp only at hSw); go_simp; any_goals with_reducible rfl))
          (try simp only [Act.put, List.setIfInBounds_toArray, List.set_cons_zero, List.set_cons_succ])
          refine wpAnyH_ready (rs := [14]) (by kernel_rfl) (by simp) (AllReadyH.cons (by simp only [List.getElem?_toArray, List.getElem?_cons_succ, List.getElem?_cons_zero]; rfl) (fun K hK => ?_) AllReadyH.nil)
          go_simp
          refine hK.out _ _ ?_ (fun hNew => ?_)
          · (try dsimp only)
            all_goals trivial
          clear hK K hHeld
          have hHeld := hNew
          clear hNew
          (try simp only [Act.put, List.setIfInBounds_toArray, List.set_cons_zero, List.set_cons_succ])
          refine wpAnyH_ready (rs := [15]) (by kernel_rfl) (by simp) (AllReadyH.cons (by simp only [List.getElem?_toArray, List.getElem?_cons_succ, List.getElem?_cons_zero]; rfl) (fun K hK => ?_) AllReadyH.nil)
          refine step_row_append rfl (.tmp 77) (.tmp 89) _ rfl (K := Kd.int .i32) (M := []) (B := Wb.heap.size) (v := .slice ao L.length cp) (u := .slice (some ⟨(v1).heap.size, 0, none⟩) 1 1) (l := L) (l2 := [q]) rfl rfl ?_ Try.underlying22 HI.out HZ0.out HZ1.out HZ2.out rfl (by decide) ?_ ?_ ?_ ?_ ?_
          · exact Row.upd HROW.out ((HU1.out).trans (Upd.alloc [] _ (.cells #[.int .i32 q] 21))) (by simp) (by simp) (M' := []) (by simp)
          · exact ONE.out _ _ (Go.heap_alloc_new (v1) _) (HU1.out).size
          · (have := HLK.out; simp [maxLen]; omega)
          · (have := HLK.out; simp; omega)
          · (have := ((HU1.out).trans (Upd.alloc [] _ (.cells #[.int .i32 q] 21))).size; omega)
          intro va w3 hr3 hu3 ho3
          obtain ⟨a3, c3, rfl, hl3, hc3⟩ := row_form hr3
          have HU3 : Hid (Upd (ob (.slice ao L.length cp)) wr w3) := Lib.hid ((((HU1.out).trans (Upd.alloc [] _ (.cells #[.int .i32 q] 21))).mono (by simp)).trans hu3)
          have hd3 := HYW.out w3 HU3.out
          have g1 : w3.cell? ⟨W0.heap.size, 3, none⟩ = some (.slice ao L.length cp) := by rw [cell_of_block hd3]; rfl
          have k1 : w3.frozen? ⟨W0.heap.size, 3, none⟩ = false := frozen_of_block hd3
          have HD3 := Lib.hid hd3
          have HR3 := Lib.hid hr3
          clear hr3 hu3 ho3 hd3
          refine hK.out _ _ ?_ (fun hNew => ?_)
          · (try dsimp only)
            all_goals trivial
          clear hK K hHeld
          have hHeld := hNew
          clear hNew
          (try simp only [Act.put, List.setIfInBounds_toArray, List.set_cons_zero, List.set_cons_succ])
          refine wpAnyH_take (i := 16) (oi := ?_) (v := ?_) ?_ (by kernel_rfl) (by kernel_rfl) (by kernel_rfl) (fun _ _ _ h => h) ?_ (by assumption) ?_
          (rotate_left 2; focus (simp only [List.getElem?_toArray, List.getElem?_cons_succ, List.getElem?_cons_zero]; rfl))
          (focus (refine Or.inl ⟨by rfl, ?_⟩; intro w hSw; (try dsimp only at hSw); go_simp; any_goals with_reducible rfl))
          (try simp only [Act.put, List.setIfInBounds_toArray, List.set_cons_zero, List.set_cons_succ])
          refine wpAnyH_take (i := 17) (oi := ?_) (v := ?_) ?_ (by kernel_rfl) (by kernel_rfl) (by kernel_rfl) (fun _ _ _ h => h) ?_ (by assumption) ?_
          (rotate_left 2; focus (simp only [List.getElem?_toArray, List.getElem?_cons_succ, List.getElem?_cons_zero]; rfl))
          (focus (refine Or.inl ⟨by rfl, ?_⟩; intro w hSw; (try dsimp only at hSw); go_simp; any_goals with_reducible rfl))
          (try simp only [Act.put, List.setIfInBounds_toArray, List.set_cons_zero, List.set_cons_succ])
          refine wpAnyH_ready (rs := [18]) (by kernel_rfl) (by simp) (AllReadyH.cons (by simp only [List.getElem?_toArray, List.getElem?_cons_succ, List.getElem?_cons_zero]; rfl) (fun K hK => ?_) AllReadyH.nil)
          go_simp
          refine hK.out _ _ ?_ (fun hNew => ?_)
          · (try dsimp only)
            all_goals trivial
          clear hK K hHeld
          have hHeld := hNew
          clear hNew
          (try simp only [Act.put, List.setIfInBounds_toArray, List.set_cons_zero, List.set_cons_succ])
          refine wpAnyH_done (by kernel_rfl) ?_ _
          refine NoPanic.normal ?_
          go_wp2_with fail
          go_roundw
          case rel =>
            have hset := heap_setCell_same w3 W0.heap.size 3 _ _ (.slice a3 (L.length + 1) c3) HD3.out
            have hu4 : Upd [W0.heap.size] w3 (w3.setCell ⟨W0.heap.size, 3, none⟩ (.slice a3 (L.length + 1) c3)) := Upd.setCell (by simp) _
            have hr := HR3.out
            rw [show (L ++ [q]).length = L.length + 1 by simp] at hr
            refine ⟨k + 1, .slice a3 (L.length + 1) c3, by omega, by go_num, Lib.hid ?_, Lib.hid (by simpa using hset), Lib.hid ((hu.out.trans' HU3.out (fun j hj => .inr (by have := (HROW.out.ob_lt j hj).1; omega))).trans hu4)⟩
            rw [HCS.out]
            exact Row.upd (M := [W0.heap.size]) (M' := []) hr.int_any hu4 (by simp) (fun j hj => by have := (hr.ob_lt j hj).1; simp; omega) (by simp)
          case measure => simp [intOf]; omega
        · go_simp
          go_at_call 46
          refine (SG.out _).mono ?_
          rintro e wx ⟨rfl, rfl⟩
          (try go_wp2_with fail)
          refine hK.out _ _ ?_ (fun hNew => ?_)
          · (try dsimp only)
            all_goals trivial
          clear hK K hHeld
          have hHeld := hNew
          clear hNew
          (try simp only [Act.put, List.setIfInBounds_toArray, List.set_cons_zero, List.set_cons_succ])
          refine wpAnyH_take (i := 13) (oi := ?_) (v := ?_) ?_ (by kernel_rfl) (by kernel_rfl) (by kernel_rfl) (fun _ _ _ h => h) ?_ (by assumption) ?_
          (rotate_left 2; focus (simp only [List.getElem?_toArray, List.getElem?_cons_succ, List.getElem?_cons_zero]; rfl))
          (focus (refine Or.inl ⟨by rfl, ?_⟩; intro w hSw; (try dsimp only at hSw); go_simp; any_goals with_reducible rfl))
          (try simp only [Act.put, List.setIfInBounds_toArray, List.set_cons_zero, List.set_cons_succ])
          refine wpAnyH_ready (rs := [2, 14]) (by kernel_rfl) (by simp) (AllReadyH.cons (by simp only [List.getElem?_toArray, List.getElem?_cons_succ, List.getElem?_cons_zero]; rfl) (fun K hK => ?_) (AllReadyH.cons (by simp only [List.getElem?_toArray, List.getElem?_cons_succ, List.getElem?_cons_zero]; rfl) (fun K hK => ?_) AllReadyH.nil))
          · have hq2 := CB.out _ (HU1.out)
            go_simp
            clear hq2
            refine hK.out _ _ ?_ (fun hNew => ?_)
            · (try dsimp only)
              all_goals trivial
            clear hK K hHeld
            have hHeld := hNew
            clear hNew
            (try simp only [Act.put, List.setIfInBounds_toArray, List.set_cons_zero, List.set_cons_succ])
            refine wpAnyH_ready (rs := [14]) (by kernel_rfl) (by simp) (AllReadyH.cons (by simp only [List.getElem?_toArray, List.getElem?_cons_succ, List.getElem?_cons_zero]; rfl) (fun K hK => ?_) AllReadyH.nil)
            go_simp
            refine hK.out _ _ ?_ (fun hNew => ?_)
            · (try dsimp only)
              all_goals trivial
            clear hK K hHeld
            have hHeld := hNew
            clear hNew
            (try simp only [Act.put, List.setIfInBounds_toArray, List.set_cons_zero, List.set_cons_succ])
            refine wpAnyH_ready (rs := [15]) (by kernel_rfl) (by simp) (AllReadyH.cons (by simp only [List.getElem?_toArray, List.getElem?_cons_succ, List.getElem?_cons_zero]; rfl) (fun K hK => ?_) AllReadyH.nil)
            refine step_row_append rfl (.tmp 77) (.tmp 89) _ rfl (K := Kd.int .i32) (M := []) (B := Wb.heap.size) (v := .slice ao L.length cp) (u := .slice (some ⟨(v1).heap.size, 0, none⟩) 1 1) (l := L) (l2 := [q]) rfl rfl ?_ Try.underlying22 HI.out HZ0.out HZ1.out HZ2.out rfl (by decide) ?_ ?_ ?_ ?_ ?_
            · exact Row.upd HROW.out ((HU1.out).trans (Upd.alloc [] _ (.cells #[.int .i32 q] 21))) (by simp) (by simp) (M' := []) (by simp)
            · exact ONE.out _ _ (Go.heap_alloc_new (v1) _) (HU1.out).size
            · (have := HLK.out; simp [maxLen]; omega)
            · (have := HLK.out; simp; omega)
            · (have := ((HU1.out).trans (Upd.alloc [] _ (.cells #[.int .i32 q] 21))).size; omega)
            intro va w3 hr3 hu3 ho3
            obtain ⟨a3, c3, rfl, hl3, hc3⟩ := row_form hr3
            have HU3 : Hid (Upd (ob (.slice ao L.length cp)) wr w3) := Lib.hid ((((HU1.out).trans (Upd.alloc [] _ (.cells #[.int .i32 q] 21))).mono (by simp)).trans hu3)
            have hd3 := HYW.out w3 HU3.out
            have g1 : w3.cell? ⟨W0.heap.size, 3, none⟩ = some (.slice ao L.length cp) := by rw [cell_of_block hd3]; rfl
            have k1 : w3.frozen? ⟨W0.heap.size, 3, none⟩ = false := frozen_of_block hd3
            have HD3 := Lib.hid hd3
            have HR3 := Lib.hid hr3
            clear hr3 hu3 ho3 hd3
            refine hK.out _ _ ?_ (fun hNew => ?_)
            · (try dsimp only)
              all_goals trivial
            clear hK K hHeld
            have hHeld := hNew
            clear hNew
            (try simp only [Act.put, List.setIfInBounds_toArray, List.set_cons_zero, List.set_cons_succ])
            refine wpAnyH_take (i := 16) (oi := ?_) (v := ?_) ?_ (by kernel_rfl) (by kernel_rfl) (by kernel_rfl) (fun _ _ _ h => h) ?_ (by assumption) ?_
            (rotate_left 2; focus (simp only [List.getElem?_toArray, List.getElem?_cons_succ, List.getElem?_cons_zero]; rfl))
            (focus (refine Or.inl ⟨by rfl, ?_⟩; intro w hSw; (try dsimp only at hSw); go_simp; any_goals with_reducible rfl))
            (try simp only [Act.put, List.setIfInBounds_toArray, List.set_cons_zero, List.set_cons_succ])
            refine wpAnyH_take (i := 17) (oi := ?_) (v := ?_) ?_ (by kernel_rfl) (by kernel_rfl) (by kernel_rfl) (fun _ _ _ h => h) ?_ (by assumption) ?_
            (rotate_left 2; focus (simp only [List.getElem?_toArray, List.getElem?_cons_succ, List.getElem?_cons_zero]; rfl))
            (focus (refine Or.inl ⟨by rfl, ?_⟩; intro w hSw; (try dsimp only at hSw); go_simp; any_goals with_reducible rfl))
            (try simp only [Act.put, List.setIfInBounds_toArray, List.set_cons_zero, List.set_cons_succ])
            refine wpAnyH_ready (rs := [18]) (by kernel_rfl) (by simp) (AllReadyH.cons (by simp only [List.getElem?_toArray, List.getElem?_cons_succ, List.getElem?_cons_zero]; rfl) (fun K hK => ?_) AllReadyH.nil)
            go_simp
            refine hK.out _ _ ?_ (fun hNew => ?_)
            · (try dsimp only)
              all_goals trivial
            clear hK K hHeld
            have hHeld := hNew
            clear hNew
            (try simp only [Act.put, List.setIfInBounds_toArray, List.set_cons_zero, List.set_cons_succ])
            refine wpAnyH_done (by kernel_rfl) ?_ _
            refine NoPanic.normal ?_
            go_wp2_with fail
            go_roundw
            case rel =>
              have hset := heap_setCell_same w3 W0.heap.size 3 _ _ (.slice a3 (L.length + 1) c3) HD3.out
              have hu4 : Upd [W0.heap.size] w3 (w3.setCell ⟨W0.heap.size, 3, none⟩ (.slice a3 (L.length + 1) c3)) := Upd.setCell (by simp) _
              have hr := HR3.out
              rw [show (L ++ [q]).length = L.length + 1 by simp] at hr
              refine ⟨k + 1, .slice a3 (L.length + 1) c3, by omega, by go_num, Lib.hid ?_, Lib.hid (by simpa using hset), Lib.hid ((hu.out.trans' HU3.out (fun j hj => .inr (by have := (HROW.out.ob_lt j hj).1; omega))).trans hu4)⟩
              rw [HCS.out]
              exact Row.upd (M := [W0.heap.size]) (M' := []) hr.int_any hu4 (by simp) (fun j hj => by have := (hr.ob_lt j hj).1; simp; omega) (by simp)
            case measure => simp [intOf]; omega
          · go_simp
            refine hK.out _ _ ?_ (fun hNew => ?_)
            · (try dsimp only)
              all_goals trivial
            clear hK K hHeld
            have hHeld := hNew
            clear hNew
            (try simp only [Act.put, List.setIfInBounds_toArray, List.set_cons_zero, List.set_cons_succ])
            refine wpAnyH_ready (rs := [2]) (by kernel_rfl) (by simp) (AllReadyH.cons (by simp only [List.getElem?_toArray, List.getElem?_cons_succ, List.getElem?_cons_zero]; rfl) (fun K hK => ?_) AllReadyH.nil)
            have hq2 := CB.out _ ((HU1.out).trans (Upd.alloc [] _ (.cells #[.int .i32 q] 21)))
            go_simp
            clear hq2
            refine hK.out _ _ ?_ (fun hNew => ?_)
            · (try dsimp only)
              all_goals trivial
            clear hK K hHeld
            have hHeld := hNew
            clear hNew
            (try simp only [Act.put, List.setIfInBounds_toArray, List.set_cons_zero, List.set_cons_succ])
            refine wpAnyH_ready (rs := [15]) (by kernel_rfl) (by simp) (AllReadyH.cons (by simp only [List.getElem?_toArray, List.getElem?_cons_succ, List.getElem?_cons_zero]; rfl) (fun K hK => ?_) AllReadyH.nil)
            refine step_row_append rfl (.tmp 77) (.tmp 89) _ rfl (K := Kd.int .i32) (M := []) (B := Wb.heap.size) (v := .slice ao L.length cp) (u := .slice (some ⟨(v1).heap.size, 0, none⟩) 1 1) (l := L) (l2 := [q]) rfl rfl ?_ Try.underlying22 HI.out HZ0.out HZ1.out HZ2.out rfl (by decide) ?_ ?_ ?_ ?_ ?_
            · exact Row.upd HROW.out ((HU1.out).trans (Upd.alloc [] _ (.cells #[.int .i32 q] 21))) (by simp) (by simp) (M' := []) (by simp)
            · exact ONE.out _ _ (Go.heap_alloc_new (v1) _) (HU1.out).size
            · (have := HLK.out; simp [maxLen]; omega)
            · (have := HLK.out; simp; omega)
            · (have := ((HU1.out).trans (Upd.alloc [] _ (.cells #[.int .i32 q] 21))).size; omega)
            intro va w3 hr3 hu3 ho3
            obtain ⟨a3, c3, rfl, hl3, hc3⟩ := row_form hr3
            have HU3 : Hid (Upd (ob (.slice ao L.length cp)) wr w3) := Lib.hid ((((HU1.out).trans (Upd.alloc [] _ (.cells #[.int .i32 q] 21))).mono (by simp)).trans hu3)
            have hd3 := HYW.out w3 HU3.out
            have g1 : w3.cell? ⟨W0.heap.size, 3, none⟩ = some (.slice ao L.length cp) := by rw [cell_of_block hd3]; rfl
            have k1 : w3.frozen? ⟨W0.heap.size, 3, none⟩ = false := frozen_of_block hd3
            have HD3 := Lib.hid hd3
            have HR3 := Lib.hid hr3
            clear hr3 hu3 ho3 hd3
            refine hK.out _ _ ?_ (fun hNew => ?_)
            · (try dsimp only)
              all_goals trivial
            clear hK K hHeld
            have hHeld := hNew
            clear hNew
            (try simp only [Act.put, List.setIfInBounds_toArray, List.set_cons_zero, List.set_cons_succ])
            refine wpAnyH_take (i := 16) (oi := ?_) (v := ?_) ?_ (by kernel_rfl) (by kernel_rfl) (by kernel_rfl) (fun _ _ _ h => h) ?_ (by assumption) ?_
            (rotate_left 2; focus (simp only [List.getElem?_toArray, List.getElem?_cons_succ, List.getElem?_cons_zero]; rfl))
            (focus (refine Or.inl ⟨by rfl, ?_⟩; intro w hSw; (try dsimp only at hSw); go_simp; any_goals with_reducible rfl))
            (try simp only [Act.put, List.setIfInBounds_toArray, List.set_cons_zero, List.set_cons_succ])
            refine wpAnyH_take (i := 17) (oi := ?_) (v := ?_) ?_ (by kernel_rfl) (by kernel_rfl) (by kernel_rfl) (fun _ _ _ h => h) ?_ (by assumption) ?_
            (rotate_left 2; focus (simp only [List.getElem?_toArray, List.getElem?_cons_succ, List.getElem?_cons_zero]; rfl))
            (focus (refine Or.inl ⟨by rfl, ?_⟩; intro w hSw; (try dsimp only at hSw); go_simp; any_goals with_reducible rfl))
            (try simp only [Act.put, List.setIfInBounds_toArray, List.set_cons_zero, List.set_cons_succ])
            refine wpAnyH_ready (rs := [18]) (by kernel_rfl) (by simp) (AllReadyH.cons (by simp only [List.getElem?_toArray, List.getElem?_cons_succ, List.getElem?_cons_zero]; rfl) (fun K hK => ?_) AllReadyH.nil)
            go_simp
            refine hK.out _ _ ?_ (fun hNew => ?_)
            · (try dsimp only)
              all_goals trivial
            clear hK K hHeld
            have hHeld := hNew
            clear hNew
            (try simp only [Act.put, List.setIfInBounds_toArray, List.set_cons_zero, List.set_cons_succ])
            refine wpAnyH_done (by kernel_rfl) ?_ _
            refine NoPanic.normal ?_
            go_wp2_with fail
            go_roundw
            case rel =>
              have hset := heap_setCell_same w3 W0.heap.size 3 _ _ (.slice a3 (L.length + 1) c3) HD3.out
              have hu4 : Upd [W0.heap.size] w3 (w3.setCell ⟨W0.heap.size, 3, none⟩ (.slice a3 (L.length + 1) c3)) := Upd.setCell (by simp) _
              have hr := HR3.out
              rw [show (L ++ [q]).length = L.length + 1 by simp] at hr
              refine ⟨k + 1, .slice a3 (L.length + 1) c3, by omega, by go_num, Lib.hid ?_, Lib.hid (by simpa using hset), Lib.hid ((hu.out.trans' HU3.out (fun j hj => .inr (by have := (HROW.out.ob_lt j hj).1; omega))).trans hu4)⟩
              rw [HCS.out]
              exact Row.upd (M := [W0.heap.size]) (M' := []) hr.int_any hu4 (by simp) (fun j hj => by have := (hr.ob_lt j hj).1; simp; omega) (by simp)
            case measure => simp [intOf]; omega
      -- END SPLIT
    · have hLm : colK ((bytesI s).drop 13) m = L := by rw [← show k = m by omega]; exact HL.out
      have i1 : ¬ (k : Int) < (m : Int) := by omega
      have HYE := hy
      have HXE := Lib.hid (upd_far hu.out HXB.out (by simp; omega))
      have HBE : Hid (Below w.heap.size w wr) := Lib.hid (HBB.out.trans (hu.out.belowB HBB.out.size (by simp; omega)))
      obtain ⟨p0, p1, p2, p3, p4, p5⟩ := rw_cells (x := ⟨false, 0, 0, ⟨L, wrap64 B⟩, A⟩) (v := .slice ao L.length cp) HYE.out
      simp only [] at p0 p1 p2 p3 p4 p5
      have HRE : Hid (RwAt [w.heap.size] wr (.slice ao L.length cp) ⟨false, 0, 0, ⟨L, wrap64 B⟩, A⟩) := Lib.hid ⟨(hrow.out.int_any (M' := [w.heap.size])).read (fun j hj hm => by have := (hob j hj).1; have := HBB.out.size; simp at hm; omega), wf0, wf0, wrap64_wf _, show (Lit.int .i64 A).wf = true from int64_wf (by omega) (by omega)⟩
      have HM := ref15_may_calls (.slice ao L.length cp) ⟨false, 0, 0, ⟨L, wrap64 B⟩, A⟩ (m : Int) _ wr HRE.out
      obtain ⟨mb, hmb⟩ : ∃ b, mayB ⟨false, 0, 0, ⟨L, wrap64 B⟩, A⟩ (m : Int) = b := ⟨_, rfl⟩
      rw [hmb] at HM
      have HM := Lib.hid HM
      have HTF : Hid (mb = false → tellRec (bytesI s) (m : Int) = (noRw, 6)) := Lib.hid (fun h => by unfold tellRec; rw [HX00.out, HPA.out, hLm, hmb, h]; simp)
      have HTT : Hid (mb = true → tellRec (bytesI s) (m : Int) = (⟨false, 0, 0, ⟨L, wrap64 B⟩, A⟩, 0)) := Lib.hid (fun h => by unfold tellRec; rw [HX00.out, HPA.out, hLm, hmb, h]; simp)
      clear hmb hLm hLk hob hrow hL hy
      go_wp2_with fail
      refine HM.out.mono ?_
      rintro e w9 ⟨rfl, hb9⟩
      have HB9 := Lib.hid (HBE.out.trans (hb9.mono HBE.out.size))
      have hx9 := (hb9.block _ (block_lt HXE.out)).trans HXE.out
      have hy9 := (hb9.block _ (block_lt HYE.out)).trans HYE.out
      have HX9 := Lib.hid hx9
      have HR9 := Lib.hid (HRE.out.below hb9)
      obtain ⟨q0, q1, q2, q3, q4, q5⟩ := rw_cells (x := noRw) (v := .slice none 0 0) hx9
      simp only [noRw] at q0 q1 q2 q3 q4 q5
      have fz : ∀ j, w9.frozen? ⟨w.heap.size, j, none⟩ = false := fun j => frozen_of_block HX9.out
      have fz0 := fz 0
      have fz1 := fz 1
      have fz2 := fz 2
      have fz3 := fz 3
      have fz4 := fz 4
      have fz5 := fz 5
      clear p0 p1 p2 p3 p4 p5
      obtain ⟨p0, p1, p2, p3, p4, p5⟩ := rw_cells (x := ⟨false, 0, 0, ⟨L, wrap64 B⟩, A⟩) (v := .slice ao L.length cp) hy9
      simp only [] at p0 p1 p2 p3 p4 p5
      clear hb9 hx9 hy9 fz HM
      cases mb with
      | false =>
        have HTB : Hid (tellRec (bytesI s) (m : Int) = (noRw, 6)) := Lib.hid (HTF.out rfl)
        go_wp2_with fail
        refine bodyPost_ret (v := .tuple #[.agg #[.bool false, .int .i64 0, .int .i64 0, .slice none 0 0, .int .i64 0, .int .i64 0], .int .i64 6]) (results_aggtmp rfl Try.isAgg26 Try.sizeOf26 _ _ rfl (rheap_set6 HX9.out rfl _ _ _ _ _ _) rfl rfl) rfl ⟨.slice none 0 0, noRw, 6, HTB.out, rfl, noRw_at _ _, ?_⟩
        exact (HB9.out).trans (Upd.belowB (S := [w.heap.size]) (upd_set6 _ _ _ _ _ _ _ _) (HB9.out).size (by simp))
      | true =>
        go_wp2_with fail
        refine bodyPost_ret (v := .tuple #[.agg #[.bool false, .int .i64 0, .int .i64 0, .slice ao L.length cp, .int .i64 (wrap64 B), .int .i64 A], .int .i64 0]) (results_aggtmp rfl Try.isAgg26 Try.sizeOf26 _ _ rfl (rheap_set6 HX9.out rfl _ _ _ _ _ _) rfl rfl) rfl ⟨.slice ao L.length cp, ⟨false, 0, 0, ⟨L, wrap64 B⟩, A⟩, 0, HTT.out (by simp), rfl, HR9.out.updS (Upd.trans (S := [w.heap.size]) (Upd.refl _ _) (upd_set6 _ _ _ _ _ _ _ _)), ?_⟩
        exact (HB9.out).trans (Upd.belowB (S := [w.heap.size]) (upd_set6 _ _ _ _ _ _ _ _) (HB9.out).size (by simp))

set_option maxHeartbeats 8000000 in
set_option maxRecDepth 100000 in
theorem ref15_get_bad (s : ByteArray) (dim : Int) (hs : s.size ≤ 5000) (w : World) (hbad : (dim < 1 ∨ 1024 < dim) ∨ ((s.size : Int) < 13 + 4 * dim ∨ 13 + 4 * dim < (s.size : Int))) :
    Calls Try.prog 13 #[.string s, .int .i64 dim] w fun e w' => ∃ vn g err, getRec s dim = (g, err) ∧ e = .returned (.tuple #[.agg #[.bool g.leaf, .int .i64 g.count, .int .i64 g.place, vn, .int .i64 g.pl.off, .int .i64 g.right], .int .i64 err]) ∧ RwAt [] w' vn g ∧ Below w.heap.size w w' := by
  obtain ⟨r, hr⟩ : ∃ r, getRec s dim = r := ⟨_, rfl⟩
  rw [hr]
  have HR := Lib.hid hr
  clear hr
  obtain ⟨W0, hW0⟩ : ∃ W0, w.alloc (.cells #[.bool false, .int .i64 0, .int .i64 0, .slice none 0 0, .int .i64 0, .int .i64 0] 26) = W0 := ⟨_, rfl⟩
  have hb0 : Below w.heap.size w W0 := by rw [← hW0]; exact below_alloc1 w _
  have hx0 : W0.heap[w.heap.size]? = some (rwObj (.slice none 0 0) noRw 26) := by rw [← hW0]; exact Go.heap_alloc_new w _
  have hz0 : w.heap.size < W0.heap.size := block_lt hx0
  have HB0 := Lib.hid hb0
  have HX0 := Lib.hid hx0
  obtain ⟨c0, c1, c2, c3, c4, c5⟩ := rw_cells hx0
  simp only [noRw] at c0 c1 c2 c3 c4 c5
  have fz : ∀ j, W0.frozen? ⟨w.heap.size, j, none⟩ = false := fun j => frozen_of_block HX0.out
  have fz0 := fz 0
  have fz1 := fz 1
  have fz2 := fz 2
  have fz3 := fz 3
  have fz4 := fz 4
  have fz5 := fz 5
  clear hb0 hx0 fz
  have f4 : (s.size : Int) ≤ 5000 := by omega
  by_cases hd : dim < 1 ∨ 1024 < dim
  · have e : getRec s dim = (noRw, 1) := by unfold getRec; rw [if_pos hd]
    rw [e] at HR
    obtain rfl := HR.out
    clear e HR
    rcases Classical.em (dim < 1) with h1 | h1
    · go_enter Try.func13, Try.ntmps13
      go_wp2_with fail
      refine bodyPost_ret (v := .tuple #[rwZero, .int .i64 1]) (results_aggtmp rfl Try.isAgg26 Try.sizeOf26 _ _ rfl (rheap_set6 HX0.out rfl _ _ _ _ _ _) rfl rfl) rfl ⟨.slice none 0 0, noRw, 1, by simp, rfl, noRw_at _ _, ?_⟩
      exact (HB0.out).trans (Upd.belowB (S := [w.heap.size]) (upd_set6 _ _ _ _ _ _ _ _) (HB0.out).size (by simp))
    · have h2 : 1024 < dim := by omega
      go_enter Try.func13, Try.ntmps13
      go_wp2_with fail
      refine bodyPost_ret (v := .tuple #[rwZero, .int .i64 1]) (results_aggtmp rfl Try.isAgg26 Try.sizeOf26 _ _ rfl (rheap_set6 HX0.out rfl _ _ _ _ _ _) rfl rfl) rfl ⟨.slice none 0 0, noRw, 1, by simp, rfl, noRw_at _ _, ?_⟩
      exact (HB0.out).trans (Upd.belowB (S := [w.heap.size]) (upd_set6 _ _ _ _ _ _ _ _) (HB0.out).size (by simp))
  · have HD := Lib.hid hd
    have hd1 : 1 ≤ dim := by omega
    have hd2 : dim ≤ 1024 := by omega
    have hwd : IntKind.i64.wrap (4 * dim) = 4 * dim := IntWalk.i64_in _ ⟨by omega, by omega⟩
    have hwe : IntKind.i64.wrap (13 + 4 * dim) = 13 + 4 * dim := IntWalk.i64_in _ ⟨by omega, by omega⟩
    clear hd
    by_cases hl1 : (s.size : Int) < 13 + 4 * dim
    · have e : getRec s dim = (noRw, 2) := by unfold getRec; rw [if_neg HD.out, if_pos hl1]
      rw [e] at HR
      obtain rfl := HR.out
      clear e HR
      go_enter Try.func13, Try.ntmps13
      go_wp2_with fail
      refine bodyPost_ret (v := .tuple #[rwZero, .int .i64 2]) (results_aggtmp rfl Try.isAgg26 Try.sizeOf26 _ _ rfl (rheap_set6 HX0.out rfl _ _ _ _ _ _) rfl rfl) rfl ⟨.slice none 0 0, noRw, 2, by simp, rfl, noRw_at _ _, ?_⟩
      exact (HB0.out).trans (Upd.belowB (S := [w.heap.size]) (upd_set6 _ _ _ _ _ _ _ _) (HB0.out).size (by simp))
    · by_cases hl2 : 13 + 4 * dim < (s.size : Int)
      · have e : getRec s dim = (noRw, 6) := by unfold getRec; rw [if_neg HD.out, if_neg hl1, if_pos hl2]
        rw [e] at HR
        obtain rfl := HR.out
        clear e HR
        go_enter Try.func13, Try.ntmps13
        go_wp2_with fail
        refine bodyPost_ret (v := .tuple #[rwZero, .int .i64 6]) (results_aggtmp rfl Try.isAgg26 Try.sizeOf26 _ _ rfl (rheap_set6 HX0.out rfl _ _ _ _ _ _) rfl rfl) rfl ⟨.slice none 0 0, noRw, 6, by simp, rfl, noRw_at _ _, ?_⟩
        exact (HB0.out).trans (Upd.belowB (S := [w.heap.size]) (upd_set6 _ _ _ _ _ _ _ _) (HB0.out).size (by simp))
      · exact absurd hbad (by rintro (h | h); exact HD.out h; omega)

set_option maxHeartbeats 2000000 in
theorem ref15_get_calls (s : ByteArray) (dim : Int) (hs : s.size ≤ 5000) (w : World) :
    Calls Try.prog 13 #[.string s, .int .i64 dim] w fun e w' => ∃ vn g err, getRec s dim = (g, err) ∧ e = .returned (.tuple #[.agg #[.bool g.leaf, .int .i64 g.count, .int .i64 g.place, vn, .int .i64 g.pl.off, .int .i64 g.right], .int .i64 err]) ∧ RwAt [] w' vn g ∧ Below w.heap.size w w' := by
  by_cases hd : dim < 1 ∨ 1024 < dim
  · exact ref15_get_bad s dim hs w (.inl hd)
  by_cases hl : (s.size : Int) < 13 + 4 * dim ∨ 13 + 4 * dim < (s.size : Int)
  · exact ref15_get_bad s dim hs w (.inr hl)
  obtain ⟨m, rfl⟩ : ∃ m : Nat, dim = (m : Int) := ⟨dim.toNat, by omega⟩
  have hsm : s.size = 13 + 4 * m := by omega
  rw [getRec_tell rfl (by omega) (by omega) hsm]
  obtain ⟨x0, hx0⟩ : ∃ x, (bytesI s)[0]? = some x := ⟨_, List.getElem?_eq_getElem (by rw [bytesI_len]; omega)⟩
  by_cases h1 : x0 = 1
  · exact ref15_get_leaf s m (by omega) (by omega) hsm x0 hx0 h1 w
  by_cases h2 : x0 = 2
  · exact ref15_get_split s m (by omega) (by omega) hsm x0 hx0 h2 w
  exact ref15_get_odd s m (by omega) (by omega) hsm x0 hx0 ⟨h1, h2⟩ w

end Go.Proofs.Ytfkmkhojedfccaa
