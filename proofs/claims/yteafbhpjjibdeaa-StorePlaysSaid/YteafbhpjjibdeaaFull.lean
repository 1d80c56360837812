/-
The law StoreFull.
-/
import Derived.Test.YteafbhpjjibdeaaFilesP
import Derived.Test.YteafbhpjjibdeaaPlayP
import Derived.Sort.QuietTacIn
namespace Go.Proofs.Yteafbhpjjibdeaa
set_option linter.unusedVariables false
set_option linter.unusedSimpArgs false
open Go.RowKit

attribute [local go_sem] Oper.semAt_some

theorem u8_rangeF {x : Int} (h : (Lit.int .u8 x).wf = true) : 0 ≤ x ∧ x ≤ 255 := by
  simp [Lit.wf, IntKind.min, IntKind.max, IntKind.signed, IntKind.bits] at h
  omega

/-- The j-th file's name in this law. -/
def nameF (j : Nat) : ByteArray := ⟨#[102, UInt8.ofNat (48 + j)]⟩
/-- The files after j writes. -/
def filesF (j : Nat) : List (ByteArray × ByteArray) := (List.range (min j 16)).map (fun i => (nameF i, ⟨#[]⟩))
theorem filesF_len (j : Nat) : (filesF j).length = min j 16 := by simp [filesF]
theorem filesF_write : ∀ j, j < 40 → fwrite (filesF j) (nameF j) ⟨#[]⟩ = (filesF (j + 1), if j < 16 then 0 else 12) := by decide +kernel
theorem nameF_eq : ∀ j : Nat, j < 40 → (⟨#[102]⟩ : ByteArray) ++ strOfNums [48 + (j : Int)] = nameF j := by decide +kernel
theorem filesF_fine : ∀ j, FineC (filesF j) := by
  have h : ∀ j, j ≤ 16 → ((filesF j).map (·.1)).Nodup ∧ ∀ n ∈ (filesF j).map (·.1), fname n = true := by decide +kernel
  intro j
  have e : filesF j = filesF (min j 16) := by simp [filesF]
  have := h (min j 16) (by omega)
  rw [← e] at this
  exact ⟨by rw [filesF_len]; omega, this.1, this.2⟩
theorem files_len (L : List (ByteArray × ByteArray)) : (filesOf L).length = L.length := by
  unfold filesOf
  rw [List.length_map, (names_perm L).length_eq, List.length_map]

theorem A.infoU8 : (Try.prog.info? 5).map (fun i => (i.zero, i.size, i.bytes)) = some (some (.int .u8 0), 1, 1) := by kernel_rfl
def noBytes (m : Nat) : Obj := .cells ((List.replicate m 0).map (fun x : Nat => Value.int .u8 (x : Int))).toArray 5
theorem made_u8 (m : Nat) (hm : m ≤ 1099511627776) (x : Int) (hx : x = m) (w : World) :
    (Instr.makeSlice 67 (.int .i64 x) (.int .i64 x)).run Try.prog w = .ok (.slice (some ⟨w.heap.size, 0, none⟩) m m) (w.alloc (noBytes m)) := by
  obtain ⟨i0, hi, hz0, hz1, hz2⟩ := info_parts A.infoU8
  subst hx
  have h := run_make (P := Try.prog) w 67 5 i0 _ Try.underlying67 hi hz0 .i64 .i64 m m (by omega) (by omega) (by rw [hz2]; omega) (by omega)
  rw [h, hz1, Nat.mul_one]
  simp only [Int.toNat_natCast, Value.cells]
  rw [madeCells_zero]
  simp [noBytes]
theorem zeros_str (m : Nat) (W : World) (b : Nat) (h : W.heap[b]? = some (noBytes m)) : (convert 67 9 (.slice (some ⟨b, 0, none⟩) m m)).run Try.prog W = .ok (.string (strOfNums (List.replicate m 0))) W :=
  run_convert_bytes_arg (P := Try.prog) W 67 5 Try.underlying67 Try.underlying5 b 0 m m (List.replicate m 0) (by simp) (fun i hi => by
    rw [cell_of_block h]
    simp [hi, List.getD]) 9 Try.underlying9
theorem byte_str (x : Int) (W : World) (b : Nat) (t : TypeId) (h : W.heap[b]? = some (.cells #[.int .u8 x] t)) : (convert 67 9 (.slice (some ⟨b, 0, none⟩) 1 1)).run Try.prog W = .ok (.string (strOfNums [x])) W :=
  run_convert_bytes_arg (P := Try.prog) W 67 5 Try.underlying67 Try.underlying5 b 0 1 1 [x] (by simp) (fun i hi => by
    have : i = 0 := by omega
    subst this
    rw [cell_of_block h]; rfl) 9 Try.underlying9

theorem ab_ne : ((⟨#[98]⟩ : ByteArray) == ⟨#[97]⟩) = false := by decide
theorem ab_find (T : ByteArray) : sfind [((⟨#[97]⟩ : ByteArray), T)] ⟨#[98]⟩ = none := by
  rw [sfind_cons, if_neg (by simp only [ab_ne]; simp)]; rfl
theorem ab_put (T x : ByteArray) : sput [((⟨#[97]⟩ : ByteArray), T)] ⟨#[98]⟩ x = [(⟨#[97]⟩, T), (⟨#[98]⟩, x)] := by
  simp only [sput, ab_ne, Bool.false_eq_true, if_false]
theorem fname_b : fname ⟨#[98]⟩ = true := by decide
theorem ab_write (T x : ByteArray) (h : T.size + x.size ≤ 16777216) : fwrite [((⟨#[97]⟩ : ByteArray), T)] ⟨#[98]⟩ x = ([(⟨#[97]⟩, T), (⟨#[98]⟩, x)], 0) := by
  rw [fwrite_small _ _ _ fname_b (by simpa [fsum] using h) (by simp), ab_put]
theorem ab_full (T x : ByteArray) (h : 16777216 < T.size + x.size) : fwrite [((⟨#[97]⟩ : ByteArray), T)] ⟨#[98]⟩ x = ([(⟨#[97]⟩, T)], 12) := by
  unfold fwrite
  have h0 : (⟨#[]⟩ : ByteArray).size = 0 := rfl
  rw [if_pos fname_b, if_pos (.inl (by rw [ab_find]; simp only [Option.getD_none, h0, fsum, List.map_cons, List.map_nil, List.sum_cons, List.sum_nil]; omega))]
theorem ab_remove (T : ByteArray) : fremove [((⟨#[97]⟩ : ByteArray), T)] ⟨#[98]⟩ = ([(⟨#[97]⟩, T)], 10) := by
  have : ffind [((⟨#[97]⟩ : ByteArray), T)] ⟨#[98]⟩ = (⟨#[]⟩, 10) := by simp [ffind, fname_b, ab_find]
  unfold fremove
  rw [this]; rfl

set_option maxHeartbeats 8000000 in
set_option maxRecDepth 100000 in
theorem storeFull_main (n less : Int) (text : ByteArray) (w : World) (hn0 : 0 ≤ n) (hn1 : n ≤ 255) (hl0 : 0 ≤ less) (hl1 : less ≤ 255) :
    Calls Try.prog 7 #[.int .u8 n, .int .u8 less, .string text] w fun e w' => e = .returned (.bool true) ∧ Below w.heap.size w w' := by
  have HA := Lib.hid (awake23_calls w)
  refine calls_of_wp_marks Try.func7 rfl ?_
  simp only [Try.ntmps7, List.size_toArray, List.length_cons, List.length_nil, Nat.reduceAdd, Nat.reduceSub, Array.replicate_succ, Array.replicate_zero, List.push_toArray, List.append_toArray, List.nil_append, List.cons_append]
  go_wp2_with fail
  refine HA.out.mono ?_
  rintro e w1 ⟨rfl, hb1⟩
  have HB1 := Lib.hid hb1
  clear hb1 HA
  by_cases ht : 255 < (text.size : Int)
  · go_wp2_with fail
    exact fin_tmp HB1.out rfl rfl [] (by simp) (by simp)
  have HN := Lib.hid (new_calls' w1)
  go_wp2_with fail
  refine HN.out.mono ?_
  rintro e w2 ⟨p, m, rfl, hs2, hp2, hm2, hb2⟩
  have hz1 := HB1.out.size
  have hz2 := hb2.size
  have HB2 := Lib.hid (HB1.out.trans (hb2.mono hz1))
  have hpl := block_lt hs2.blk
  have hml : m < w2.heap.size := by obtain ⟨_, _, h1, _⟩ := hs2.map; exact block_lt h1
  have hpm := hs2.ne
  have HS2 := Lib.hid hs2
  clear hb2 hs2 HN
  obtain ⟨N, hN⟩ : ∃ N : Nat, n.tmod 40 = (N : Int) := ⟨(n.tmod 40).toNat, by have := Int.tmod_nonneg 40 hn0; omega⟩
  have hN40 : N < 40 := by have := Int.tmod_lt_of_pos n (show (0 : Int) < 40 by omega); omega
  go_wp2_with fail
  go_loopw [8] (fun i wr => ∃ k : Nat, k ≤ N ∧ i = .int .i64 k ∧ Hid (IsStore wr p m (filesF k)) ∧ Hid (Upd [p, m] w2 wr)) (fun i _ => N - (intOf i).toNat)
  case atStart => exact ⟨0, Nat.zero_le _, rfl, HS2, Lib.hid (Upd.refl _ _)⟩
  case round =>
    obtain ⟨k, hk, rfl, hs, hu⟩ := hrel
    by_cases hlt : k < N
    · have hi1 : (k : Int) < (N : Int) := by omega
      have hi40 : (k : Int) < 40 := by omega
      have hi0 : (0 : Int) ≤ (k : Int) := by omega
      obtain ⟨W4, hW4⟩ : ∃ W4, wr.alloc (.cells #[.int .u8 (48 + (k : Int))] 5) = W4 := ⟨_, rfl⟩
      have hu4 : Upd [] wr W4 := by rw [← hW4]; exact Upd.alloc [] wr _
      have hr4 : W4.heap[wr.heap.size]? = some (.cells #[.int .u8 (48 + (k : Int))] 5) := by rw [← hW4]; exact Go.heap_alloc_new wr _
      have hcv := byte_str (48 + (k : Int)) W4 wr.heap.size _ hr4
      have hnm := nameF_eq k (by omega)
      have hys : (strOfNums [48 + (k : Int)]).size = 1 := by rw [strOfNums_size]; rfl
      obtain ⟨y, hy⟩ : ∃ y, strOfNums [48 + (k : Int)] = y := ⟨_, rfl⟩
      rw [hy] at hcv hnm hys
      have hwr := write_calls (nameF k) ⟨#[]⟩ W4 p m (filesF k) (hs.out.upd hu4 (by simp) (by simp)) (by decide) (by rw [filesF_len]; omega)
      rw [filesF_write k (by omega), ← hnm] at hwr
      obtain ⟨r, hr⟩ : ∃ r : Int, (if k < 16 then 0 else 12) = r := ⟨_, rfl⟩
      rw [hr] at hwr
      rw [← hW4] at hcv hwr
      have HW := Lib.hid hwr
      have HW4 := Lib.hid hW4
      have HU4 := Lib.hid (hu.out.trans (hu4.mono (by simp)))
      have HRR := Lib.hid hr
      clear hu4 hr4 hnm hy hwr hW4 hr hs hu
      go_wp2_with fail
      refine HW.out.mono ?_
      rw [HW4.out]
      rintro e w5 ⟨rfl, hs5, hu5⟩
      have HS5 := Lib.hid hs5
      have HU5 := Lib.hid (HU4.out.trans hu5)
      have hr := HRR.out
      clear hs5 hu5 hcv
      by_cases h16 : k < 16
      · rw [if_pos h16] at hr
        subst hr
        have h16' : (k : Int) < 16 := by omega
        go_wp2_with fail
        go_roundw
        case rel => exact ⟨k + 1, by omega, by go_num, HS5, HU5⟩
        case measure => simp [intOf]; omega
      · rw [if_neg h16] at hr
        subst hr
        have h16' : ¬ (k : Int) < 16 := by omega
        go_wp2_with fail
        go_roundw
        case rel => exact ⟨k + 1, by omega, by go_num, HS5, HU5⟩
        case measure => simp [intOf]; omega
    · have hkN : k = N := by omega
      subst hkN
      rename World => wA
      have HSA := Lib.hid hs.out
      have HUA := Lib.hid hu.out
      have hzA := hu.out.size
      clear hs hu
      obtain ⟨L, hL⟩ : ∃ L, filesF k = L := ⟨_, rfl⟩
      have hfc := filesF_fine k
      have hfl := filesF_len k
      rw [hL] at HSA hfc hfl
      clear hL
      obtain ⟨W5, hW5⟩ : ∃ W5, wA.alloc (.cells #[.int .i64 0] 3) = W5 := ⟨_, rfl⟩
      have hu5 : Upd [] wA W5 := by rw [← hW5]; exact Upd.alloc [] wA _
      have hn5 : W5.heap[wA.heap.size]? = some (.cells #[.int .i64 0] 3) := by rw [← hW5]; exact Go.heap_alloc_new wA _
      have hz5 : W5.heap.size = wA.heap.size + 1 := by rw [← hW5]; simp
      have HS5 := Lib.hid (HSA.out.upd hu5 (by simp) (by simp))
      have hfc5 := files_calls p m L W5 HS5.out (fun y hy => by have := hfc.ok y hy; unfold fname at this; simp at this; unfold maxLen; omega) (by have := hfc.len; omega) [wA.heap.size] (by simp; omega) (by simp; omega) (by simp; omega)
      rw [← hW5] at hfc5
      have HFL := Lib.hid hfc5
      have HW5 := Lib.hid hW5
      have HU5 := Lib.hid (HUA.out.trans (hu5.mono (by simp)))
      have HN5 := Lib.hid hn5
      clear hu5 hn5 hfc5 hW5 hfc
      go_wp2_with fail
      refine HFL.out.mono ?_
      rw [HW5.out]
      rintro e w6 ⟨bf, rfl, hb6, hit⟩
      have hz6 := hb6.size
      have HU6 := Lib.hid (HU5.out.trans' (Upd.ofBelow hb6 []) (by simp))
      have HN6 := Lib.hid ((hb6.block _ (by omega)).trans HN5.out)
      have HIT := Lib.hid hit
      have hxl := files_len L
      obtain ⟨xs, hxs⟩ : ∃ xs, filesOf L = xs := ⟨_, rfl⟩
      rw [hxs] at HIT hxl
      clear hb6 hit HFL hxs
      go_wp2_with fail
      refine wp_range (xs := xs) (val := valFile) [wA.heap.size] rfl (enters_it Try.func51 rfl rfl) (fun W hu hsz => ?_)
        (fun pre M W => M = [wA.heap.size] ∧ W.heap[wA.heap.size]? = some (.cells #[.int .i64 pre.length] 3) ∧ Upd [wA.heap.size] w6 W)
        (fun c pre M W => False) ?_ ?_ ?_ ?_ ?_ ?_ ?_ ?_ ?_
      · exact HIT.out W _ _ (hu.mono (by simp)) (by omega) (fun k hk => .inl hk)
      · rintro pre M W W' S hS ⟨rfl, a3, a5⟩ hu
        exact ⟨rfl, upd_far hu a3 (fun h => (hS _ h).2 (by simp)), a5.trans' hu (fun k hk => .inr (hS k hk).1)⟩
      · rintro c pre M W W' S hS h _
        exact h.elim
      · rintro M W W' x args hv hu
        exact hv
      · rintro W M x args hv
        rw [hv]
        rfl
      · exact ⟨rfl, HN6.out, Upd.refl _ _⟩
      · simp
        omega
      · rintro l0 pre y rest M W0' W args hxs ⟨rfl, a3, a5⟩ hv _ hl1 hl2 hl3 hM
        have hv : args = #[.string y.1, .int .i64 y.2] := hv
        subst hv
        have hpl : pre.length < xs.length := by rw [hxs]; simp
        have hc : W.cell? ⟨wA.heap.size, 0, none⟩ = some (.int .i64 pre.length) := by rw [cell_of_block a3]; rfl
        have hf : W.frozen? ⟨wA.heap.size, 0, none⟩ = false := frozen_of_block a3
        have A3 := Lib.hid a3
        have A5 := Lib.hid a5
        have hi1 : (pre.length : Int) < 17 := by omega
        clear hxs a3 a5 hl3 hM
        gi_wp2
        refine ⟨trivial, ?_⟩
        gi_wp2
        have h3 := heap_setCell_same W wA.heap.size 0 _ _ (.int .i64 ((pre.length : Int) + 1)) A3.out
        have hU : Upd [wA.heap.size] W (W.setCell ⟨wA.heap.size, 0, none⟩ (.int .i64 ((pre.length : Int) + 1))) := Upd.setCell (by simp) _
        exact ⟨hU, _, (fun k hk => ⟨by simp at hk; subst hk; exact block_lt A3.out, .inl (by simpa using hk)⟩), rfl, by simpa using h3, A5.out.trans hU⟩
      · rintro M W7 ⟨rfl, a3, a5⟩ hM hK
        simp only [Exit.inBlock, Exit.then]
        go_at_K
        rw [hxl, hfl] at a3
        have HB7 := Lib.hid ((HB2.out.trans ((HU6.out.belowB (B := w.heap.size) (by omega) (by simp; omega)))).trans (a5.belowB (by omega) (by simp; omega)))
        have hck : W7.cell? ⟨wA.heap.size, 0, none⟩ = some (.int .i64 ((min k 16 : Nat) : Int)) := by rw [cell_of_block a3]; rfl
        have HK7 := Lib.hid hK
        have hlt7 := block_lt hK
        have HN7 := Lib.hid (new_calls' W7)
        have hmin : ((min k 16 : Nat) : Int) = min (k : Int) 16 := by omega
        rw [hmin] at hck
        have hmm : (min (k : Int) 16 != min (k : Int) 16) = false := by simp
        clear a3 a5 hM hK hmin
        go_wp2_with fail
        refine HN7.out.mono ?_
        rintro e w8 ⟨p2, m2, rfl, hs8, hp8, hm8, hb8⟩
        have hz8 := hb8.size
        have hpl8 := block_lt hs8.blk
        have hml8 : m2 < w8.heap.size := by obtain ⟨_, _, h1, _⟩ := hs8.map; exact block_lt h1
        have hw7 := HB7.out.size
        have HB8 := Lib.hid (HB7.out.trans (hb8.mono HB7.out.size))
        have HK8 := Lib.hid ((hb8.block _ hlt7).trans HK7.out)
        obtain ⟨M, hM⟩ : ∃ M : Nat, 16777216 - less = (M : Int) := ⟨(16777216 - less).toNat, by omega⟩
        have hmk := made_u8 M (by omega) (16777216 - less) hM w8
        obtain ⟨W9, hW9⟩ : ∃ W9, w8.alloc (noBytes M) = W9 := ⟨_, rfl⟩
        have hu9 : Upd [] w8 W9 := by rw [← hW9]; exact Upd.alloc [] w8 _
        have hr9 : W9.heap[w8.heap.size]? = some (noBytes M) := by rw [← hW9]; exact Go.heap_alloc_new w8 _
        have hcv := zeros_str M W9 w8.heap.size hr9
        have htz : (strOfNums (List.replicate M 0)).size = M := by rw [strOfNums_size, List.length_replicate]
        obtain ⟨T, hT⟩ : ∃ T, strOfNums (List.replicate M 0) = T := ⟨_, rfl⟩
        rw [hT] at hcv htz
        have hfa : fname ⟨#[97]⟩ = true := by decide
        have hwr := write_calls ⟨#[97]⟩ T W9 p2 m2 [] (hs8.upd hu9 (by simp) (by simp)) (by omega) (by simp)
        rw [fwrite_small _ _ _ hfa (by simp [fsum]; omega) (by simp)] at hwr
        rw [hW9] at hmk
        have HWR := Lib.hid hwr
        have HU9 := Lib.hid hu9
        have HM := Lib.hid hM
        have hMb : (M : Int) ≤ 16777216 := by omega
        clear hs8 hb8 hu9 hr9 hwr hT HN7 hck hW9 hM
        go_wp2_with fail
        refine HWR.out.mono ?_
        rintro e w10 ⟨rfl, hs10, hu10⟩
        have hz9 := HU9.out.size
        have HB10 := Lib.hid (HB8.out.trans (((HU9.out.mono (T := [p2, m2]) (by simp)).trans hu10).belowB HB8.out.size (by simp; omega)))
        have HK10 := Lib.hid (upd_far hu10 (upd_far HU9.out HK8.out (by simp)) (by simp; omega))
        have hL1 : sput [] (⟨#[97]⟩ : ByteArray) T = [(⟨#[97]⟩, T)] := rfl
        rw [hL1] at hs10
        have hz10 := hu10.size
        have hw2 := write_calls ⟨#[98]⟩ text w10 p2 m2 _ hs10 (by omega) (by simp)
        have HS10 := Lib.hid hs10
        clear hs10 hu10 hcv hmk hL1
        by_cases htl : (text.size : Int) ≤ less
        · rw [ab_write T text (by have := HM.out; omega)] at hw2
          have HW2 := Lib.hid hw2
          clear hw2
          go_wp2_with fail
          refine HW2.out.mono ?_
          rintro e w11 ⟨rfl, hs11, hu11⟩
          have HB11 := Lib.hid (HB10.out.trans (hu11.belowB HB10.out.size (by simp; omega)))
          have HK11 := Lib.hid (upd_far hu11 HK10.out (by simp; omega))
          have hby := bytes_calls w11 p2 m2 _ hs11
          have hfs : ((fsum [((⟨#[97]⟩ : ByteArray), T), (⟨#[98]⟩, text)] : Nat) : Int) = 16777216 - less + text.size := by
            have h1 := HM.out
            have h2 : fsum [((⟨#[97]⟩ : ByteArray), T), (⟨#[98]⟩, text)] = T.size + text.size := by simp [fsum]
            omega
          rw [hfs] at hby
          have HBY := Lib.hid hby
          clear hs11 hu11 hby hfs
          go_wp2_with fail
          refine HBY.out.mono ?_
          rintro e w12 ⟨rfl, rfl⟩
          go_wp2_with fail
          exact fin_tmp HB11.out rfl rfl [(_, _)] (by simp; exact ⟨by omega, HK11.out⟩) (by simp)
        · rw [ab_full T text (by have := HM.out; omega)] at hw2
          have HW2 := Lib.hid hw2
          clear hw2
          go_wp2_with fail
          refine HW2.out.mono ?_
          rintro e w11 ⟨rfl, hs11, hu11⟩
          have HB11 := Lib.hid (HB10.out.trans (hu11.belowB HB10.out.size (by simp; omega)))
          have HK11 := Lib.hid (upd_far hu11 HK10.out (by simp; omega))
          have hby := bytes_calls w11 p2 m2 _ hs11
          have hrm := remove_calls ⟨#[98]⟩ w11 p2 m2 _ hs11
          rw [ab_remove] at hrm
          have hfs : ((fsum [((⟨#[97]⟩ : ByteArray), T)] : Nat) : Int) = 16777216 - less := by
            have h1 := HM.out
            have h2 : fsum [((⟨#[97]⟩ : ByteArray), T)] = T.size := by simp [fsum]
            omega
          rw [hfs] at hby
          have HBY := Lib.hid hby
          have HRM := Lib.hid hrm
          have hz11 := hu11.size
          clear hs11 hu11 hby hfs hrm
          go_wp2_with fail
          refine HBY.out.mono ?_
          rintro e w12 ⟨rfl, rfl⟩
          go_wp2_with fail
          refine HRM.out.mono ?_
          rintro e w13 ⟨rfl, hs13, hu13⟩
          have HB13 := Lib.hid (HB11.out.trans (hu13.belowB HB11.out.size (by simp; omega)))
          have HK13 := Lib.hid (upd_far hu13 HK11.out (by simp; omega))
          clear hs13 hu13
          go_wp2_with fail
          exact fin_tmp HB13.out rfl rfl [(_, _)] (by simp; exact ⟨by omega, HK13.out⟩) (by simp)
      · rintro c pre M W hpre h
        exact h.elim

theorem StoreFull_walk (n less : Int) (text : ByteArray) (w : World) (h1 : (Lit.int .u8 n).wf = true) (h2 : (Lit.int .u8 less).wf = true) (h3 : text.size ≤ 140737488351232) :
    Calls Try.prog 7 #[.int .u8 n, .int .u8 less, .string text] w fun e w' => e = .returned (.bool true) ∧ Below w.heap.size w w' := by
  have b1 := u8_rangeF h1
  have b2 := u8_rangeF h2
  exact storeFull_main n less text w b1.1 b1.2 b2.1 b2.2

end Go.Proofs.Yteafbhpjjibdeaa
