/-
field.Put: a number's bytes, the lowest first.
-/
import Derived.Test.YtfkmkhojedfccaaClone
import Derived.Test.YtfkmkhojedfccaaUnique
namespace Go.Proofs.Ytfkmkhojedfccaa
set_option linter.unusedVariables false
set_option linter.unusedSimpArgs false
open Go.RowKit

/-! ### Bytes of numbers -/
theorem wf_u64 {x : Int} (h : (Lit.int .u64 x).wf = true) : 0 ≤ x ∧ x ≤ 18446744073709551615 := by simpa [Lit.wf, IntKind.min, IntKind.max, IntKind.signed, IntKind.bits] using h
theorem u64_wf {x : Int} (h : 0 ≤ x) (h1 : x ≤ 18446744073709551615) : (Lit.int .u64 x).wf = true := by simp [Lit.wf, IntKind.min, IntKind.max, IntKind.signed, IntKind.bits]; omega
/-- The lowest k bytes of a number, the lowest first. -/
def leI : Nat → Int → List Int
  | 0, _ => []
  | k + 1, n => n % 256 :: leI k (n / 256)
theorem leI_len : ∀ (k : Nat) (n : Int), (leI k n).length = k
  | 0, _ => rfl
  | k + 1, n => by simp [leI, leI_len k]
/-- n, k bytes further up. -/
def upI : Nat → Int → Int
  | 0, n => n
  | k + 1, n => upI k (n / 256)
theorem leI_snoc : ∀ (k : Nat) (n : Int), leI (k + 1) n = leI k n ++ [upI k n % 256]
  | 0, n => rfl
  | k + 1, n => by
    have := leI_snoc k (n / 256)
    rw [leI, this]
    rfl
theorem upI_succ : ∀ (k : Nat) (n : Int), upI (k + 1) n = upI k n / 256
  | 0, n => rfl
  | k + 1, n => by rw [upI, upI_succ k]; rfl
theorem leI_mem : ∀ (k : Nat) (n x : Int), x ∈ leI k n → 0 ≤ x ∧ x < 256
  | 0, n, x, h => by simp [leI] at h
  | k + 1, n, x, h => by
    rcases List.mem_cons.1 h with rfl | h
    · omega
    · exact leI_mem k _ x h
theorem upI_wf : ∀ (k : Nat) (n : Int), (Lit.int .u64 n).wf = true → (Lit.int .u64 (upI k n)).wf = true
  | 0, n, h => h
  | k + 1, n, h => by
    refine upI_wf k _ ?_
    have h1 := wf_u64 h
    exact u64_wf (by omega) (by omega)
def putI (n size : Int) : List Int := if size < 1 ∨ 8 < size then [] else leI size.toNat n
/-- field.Put's answer. -/
def putS (n size : Int) : ByteArray := strOfNums (putI n size)

theorem A.infoU8 : (Try.prog.info? 5).map (fun i => (i.zero, i.size, i.bytes)) = some (some (.int .u8 0), 1, 1) := by kernel_rfl

theorem wf_u8 {x : Int} (h0 : 0 ≤ x) (h1 : x < 256) : (Lit.int .u8 x).wf = true := by simp [Lit.wf, IntKind.min, IntKind.max, IntKind.signed, IntKind.bits]; omega

/-- '[]byte' of an owned row, as a text. -/
theorem row_string {M : List Nat} {B : Nat} {w : World} {v : Value} {l : List Int} (h : Row (Kd.int .u8) M 5 B w v l) : ∀ W : World, Upd [] w W → (convert 89 9 v).run Try.prog W = .ok (.string (strOfNums l)) W := by
  intro W hu
  rcases h.form with ⟨rfl, rfl⟩ | ⟨g, cap, rfl, h1, h2, h3, h4⟩
  · exact run_convert_bytes_nil (P := Try.prog) W 89 5 Try.underlying89 Try.underlying5 0 0 9 Try.underlying9
  · refine run_convert_bytes_arg (P := Try.prog) W 89 5 Try.underlying89 Try.underlying5 g 0 l.length cap l rfl (fun i hi => ?_) 9 Try.underlying9
    obtain ⟨g', cap', hv, _, _, _, _, hc⟩ := int_row_get h (List.getElem?_eq_getElem hi)
    simp at hv
    obtain ⟨rfl, rfl⟩ := hv
    rw [hu.cell (a := ⟨g, 0 + i, none⟩) h2 (by simp)]
    simpa [List.getD, List.getElem?_eq_getElem hi] using hc

set_option maxHeartbeats 1000000 in
set_option maxRecDepth 100000 in
theorem put1_calls (bb nb : Nat) (v : Value) (l : List Int) (n : Int) (w : World) (B : Nat) (hn : (Lit.int .u64 n).wf = true) (hb : w.heap[bb]? = some (.cells #[v] 89)) (hnb : w.heap[nb]? = some (.cells #[.int .u64 n] 54))
    (hrow : Row (Kd.int .u8) [] 5 B w v l) (hne : bb ≠ nb) (hob : bb ∉ ob v) (hon : nb ∉ ob v) (hl : l.length ≤ 1099511627776) (hB : B ≤ bb) (hBn : B ≤ nb) (hBw : B ≤ w.heap.size) :
    Calls Try.prog 75 #[.pointer (some ⟨bb, 0, none⟩), .pointer (some ⟨nb, 0, none⟩)] w fun e w' => ∃ v', e = .returned (.tuple #[]) ∧ w'.heap[bb]? = some (.cells #[v'] 89) ∧
      w'.heap[nb]? = some (.cells #[.int .u64 (n / 256)] 54) ∧ Row (Kd.int .u8) [] 5 B w' v' (l ++ [n % 256]) ∧ bb ∉ ob v' ∧ nb ∉ ob v' ∧ Below B w w' := by
  obtain ⟨i0, hi, hz0, hz1, hz2⟩ := info_parts A.infoU8
  have hc1 : w.cell? ⟨bb, 0, none⟩ = some v := by rw [cell_of_block hb]; rfl
  have hc2 : w.cell? ⟨nb, 0, none⟩ = some (.int .u64 n) := by rw [cell_of_block hnb]; rfl
  have hlb := block_lt hb
  have hln := block_lt hnb
  obtain ⟨W1, hW1⟩ : ∃ W1, w.alloc (.cells #[.int .u8 (n % 256)] 5) = W1 := ⟨_, rfl⟩
  have hu1 : Upd [] w W1 := by rw [← hW1]; exact Upd.alloc [] w _
  have hby : W1.heap[w.heap.size]? = some (.cells #[.int .u8 (n % 256)] 5) := by rw [← hW1]; exact Go.heap_alloc_new w _
  have hrow1 := Row.upd hrow hu1 (by simp) (by simp) (M' := []) (by simp)
  obtain ⟨v', w2, hrun, hrow2, hu2, hob2⟩ := Row.push (P := Try.prog) (t := 89) (ty := 89) (c := 1) hrow1 Try.underlying89 hi hz0 hz1 hz2 rfl (by decide) (b := w.heap.size) [.int .u8 (n % 256)] (n % 256)
    (fun j u hj => by rw [cell_of_block hby]; simpa using hj) ⟨⟨rfl, wf_u8 (by omega) (by omega)⟩⟩ (by unfold maxLen; omega) (by omega) (by have := hu1.size; omega)
  obtain ⟨ao2, cap2, hv2, _, _⟩ := row_form hrow2
  rw [List.length_append, List.length_singleton] at hv2
  subst hv2
  have hz1' := hu1.size
  have hb2 : w2.heap[bb]? = some (.cells #[v] 89) := upd_far hu2 (upd_far hu1 hb (by simp)) hob
  have hn2 : w2.heap[nb]? = some (.cells #[.int .u64 n] 54) := upd_far hu2 (upd_far hu1 hnb (by simp)) hon
  have hf2 : w2.frozen? ⟨bb, 0, none⟩ = false := frozen_of_block hb2
  have hcb2 : w2.cell? ⟨bb, 0, none⟩ = some v := by rw [cell_of_block hb2]; rfl
  have hs3 : Upd [bb] w2 (w2.setCell ⟨bb, 0, none⟩ (.slice ao2 (l.length + 1) cap2)) := Upd.setCell (by simp) _
  have hb3 := heap_setCell_same w2 bb 0 _ _ (.slice ao2 (l.length + 1) cap2) hb2
  have hn3 := upd_far hs3 hn2 (by simpa using fun h => hne h.symm)
  have hc3 : (w2.setCell ⟨bb, 0, none⟩ (.slice ao2 (l.length + 1) cap2)).cell? ⟨nb, 0, none⟩ = some (.int .u64 n) := by rw [cell_of_block hn3]; rfl
  have hf3 : (w2.setCell ⟨bb, 0, none⟩ (.slice ao2 (l.length + 1) cap2)).frozen? ⟨nb, 0, none⟩ = false := frozen_of_block hn3
  have hn0 : 0 ≤ n := (wf_u64 hn).1
  have hobv : ∀ k, k ∈ ob (.slice ao2 (l.length + 1) cap2) → k ∈ ob v ∨ k = W1.heap.size := fun k hk => by
    rcases hob2 with e | e
    · rw [e] at hk; exact .inl hk
    · rw [e] at hk; simp at hk; exact .inr hk
  have hrb := hrow1.ob_lt
  have FIN : Hid (∀ W, W = (w2.setCell ⟨bb, 0, none⟩ (.slice ao2 (l.length + 1) cap2)).setCell ⟨nb, 0, none⟩ (.int .u64 (n / 256)) → W.heap[bb]? = some (.cells #[.slice ao2 (l.length + 1) cap2] 89) ∧ W.heap[nb]? = some (.cells #[.int .u64 (n / 256)] 54) ∧
      Row (Kd.int .u8) [] 5 B W (.slice ao2 (l.length + 1) cap2) (l ++ [n % 256]) ∧ bb ∉ ob (.slice ao2 (l.length + 1) cap2) ∧ nb ∉ ob (.slice ao2 (l.length + 1) cap2) ∧ Below B w W) := Lib.hid (by
    rintro W rfl
    have hs4 : Upd [nb] (w2.setCell ⟨bb, 0, none⟩ (.slice ao2 (l.length + 1) cap2)) ((w2.setCell ⟨bb, 0, none⟩ (.slice ao2 (l.length + 1) cap2)).setCell ⟨nb, 0, none⟩ (.int .u64 (n / 256))) := Upd.setCell (by simp) _
    have q1 : bb ∉ ob (.slice ao2 (l.length + 1) cap2) := fun h => by
      rcases hobv _ h with h | h
      · exact hob h
      · omega
    have q2 : nb ∉ ob (.slice ao2 (l.length + 1) cap2) := fun h => by
      rcases hobv _ h with h | h
      · exact hon h
      · omega
    have hb3' : (w2.setCell ⟨bb, 0, none⟩ (.slice ao2 (l.length + 1) cap2)).heap[bb]? = some (.cells #[.slice ao2 (l.length + 1) cap2] 89) := by simpa using hb3
    refine ⟨upd_far hs4 hb3' (by simpa using hne), by simpa using heap_setCell_same _ nb 0 _ _ (.int .u64 (n / 256)) hn3, ?_, q1, q2, ?_⟩
    · exact (((hrow2.int_any (M' := [bb])).upd hs3 (by simp) (by intro k hk; simp; rintro rfl; exact q1 hk) (M' := [bb]) (fun k hk => .inl hk)).int_any (M' := [nb])).upd hs4 (by simp) (by intro k hk; simp; rintro rfl; exact q2 hk) (by simp)
    · have b1 : Below B w w2 := (hu1.below.mono hBw).trans (hu2.belowB (by omega) (fun k hk => (hrb k hk).1))
      exact (b1.setCell (p := ⟨bb, 0, none⟩) hB _).setCell (p := ⟨nb, 0, none⟩) hBn _)
  rw [← hW1] at hrun
  have HRUN := Lib.hid hrun
  obtain ⟨ao, cap, rfl, _, _⟩ := row_form hrow
  clear hn hb hnb hrow hne hob hon hl hB hBn hBw hi hz0 hz1 hz2 hW1 hu1 hby hrow1 hrun hrow2 hu2 hob2 hz1' hb2 hn2 hs3 hb3 hn3 hobv hrb
  go_enter Try.func75, Try.ntmps75
  go_wp2_with (at_builtin; refine append_step rfl _ _ _ rfl rfl rfl HRUN.out ?_)
  go_end0
  exact ⟨_, rfl, FIN.out _ rfl⟩

theorem field_odd_calls (size : Int) (w : World) : Calls Try.prog 74 #[.int .i64 size] w fun e w' => e = .returned (.bool (decide (size < 1 ∨ 8 < size))) ∧ w = w' := by
  by_cases h1 : size < 1
  · have e : decide (size < 1 ∨ 8 < size) = true := by simp [h1]
    rw [e]
    clear e
    go_enter Try.func74, Try.ntmps74
    go_wp2
    go_ret
    exact ⟨rfl, rfl⟩
  · by_cases h2 : 8 < size
    · have e : decide (size < 1 ∨ 8 < size) = true := by simp [h2]
      rw [e]
      clear e
      go_enter Try.func74, Try.ntmps74
      go_wp2
      go_ret
      exact ⟨by simp [h2], rfl⟩
    · have e : decide (size < 1 ∨ 8 < size) = false := by simp [h1, h2]
      rw [e]
      clear e
      go_enter Try.func74, Try.ntmps74
      go_wp2
      go_ret
      exact ⟨by simp [h2], rfl⟩

/-- 'make([]byte, 0, c)'. -/
theorem made_u8 (c : Nat) (hc : c ≤ 1099511627776) (x : Int) (hx : x = c) (w : World) : (Instr.makeSlice 89 (.int .i64 0) (.int .i64 x)).run Try.prog w = .ok (.slice (some ⟨w.heap.size, 0, none⟩) 0 c) (w.alloc (.cells (madeCells #[.int .u8 0] c) 5)) := by
  obtain ⟨i0, hi, hz0, hz1, hz2⟩ := info_parts A.infoU8
  subst hx
  have h := run_make (P := Try.prog) w 89 5 i0 _ Try.underlying89 hi hz0 .i64 .i64 0 c (by omega) (by omega) (by rw [hz2]; omega) (by omega)
  rw [h, hz1, Nat.mul_one]
  simp only [Int.toNat_natCast, Int.toNat_zero, Value.cells]
theorem row_made8 (c : Nat) (hc : c ≤ 1099511627776) (w : World) (B : Nat) (hB : B ≤ w.heap.size) : Row (Kd.int .u8) [] 5 B (w.alloc (.cells (madeCells #[.int .u8 0] c) 5)) (.slice (some ⟨w.heap.size, 0, none⟩) 0 c) [] :=
  ⟨[], World.ownsRow_made (size := 1) w _ c hB (by unfold maxLen; omega) (by rw [Nat.mul_one]; exact size_madeCells _ _), rfl, by simp⟩

set_option maxHeartbeats 2000000 in
set_option maxRecDepth 100000 in
theorem field_put_calls (n size : Int) (w : World) (hn : (Lit.int .u64 n).wf = true) :
    Calls Try.prog 37 #[.int .u64 n, .int .i64 size] w fun e w' => e = .returned (.string (putS n size)) ∧ Below w.heap.size w w' := by
  by_cases hodd : size < 1 ∨ 8 < size
  · have e : putS n size = ByteArray.empty := by unfold putS putI; rw [if_pos hodd]; rfl
    rw [e]
    have HO := Lib.hid (field_odd_calls size (w.alloc (.cells #[.int .u64 n] 54)))
    have ho : decide (size < 1 ∨ 8 < size) = true := by simp [hodd]
    rw [ho] at HO
    have HB := Lib.hid (below_alloc1 w (.cells #[.int .u64 n] 54))
    clear e ho hodd hn
    go_enter Try.func37, Try.ntmps37
    go_wp2_with fail
    refine HO.out.mono ?_
    rintro e w1 ⟨rfl, rfl⟩
    go_wp2_with fail
    go_ret
    exact ⟨rfl, HB.out⟩
  · have e : putS n size = strOfNums (leI size.toNat n) := by unfold putS putI; rw [if_neg hodd]
    rw [e]
    obtain ⟨W0, hW0⟩ : ∃ W0, w.alloc (.cells #[.int .u64 n] 54) = W0 := ⟨_, rfl⟩
    have HO := Lib.hid (field_odd_calls size W0)
    have ho : decide (size < 1 ∨ 8 < size) = false := by simp [hodd]
    rw [ho] at HO
    have hb0 : Below w.heap.size w W0 := by rw [← hW0]; exact below_alloc1 w _
    have hn0 : W0.heap[w.heap.size]? = some (.cells #[.int .u64 n] 54) := by rw [← hW0]; exact Go.heap_alloc_new w _
    have hz0 : W0.heap.size = w.heap.size + 1 := by rw [← hW0]; simp
    have hs1 : 1 ≤ size := by omega
    have hs8 : size ≤ 8 := by omega
    have hmk := made_u8 8 (by omega) 8 rfl W0
    obtain ⟨W1, hW1⟩ : ∃ W1, W0.alloc (.cells (madeCells #[.int .u8 0] 8) 5) = W1 := ⟨_, rfl⟩
    have hrow1 := row_made8 8 (by omega) W0 w.heap.size (by omega)
    rw [hW1] at hmk hrow1
    have hu1 : Upd [] W0 W1 := by rw [← hW1]; exact Upd.alloc [] W0 _
    have hz1 : W1.heap.size = w.heap.size + 2 := by rw [← hW1]; simp [hz0]
    obtain ⟨W2, hW2⟩ : ∃ W2, W1.alloc (.cells #[.slice (some ⟨W0.heap.size, 0, none⟩) 0 8] 89) = W2 := ⟨_, rfl⟩
    have hu2 : Upd [] W1 W2 := by rw [← hW2]; exact Upd.alloc [] W1 _
    have hbb2 : W2.heap[W1.heap.size]? = some (.cells #[.slice (some ⟨W0.heap.size, 0, none⟩) 0 8] 89) := by rw [← hW2]; exact Go.heap_alloc_new W1 _
    have hn2 := upd_far hu2 (upd_far hu1 hn0 (by simp)) (by simp)
    have hrow2 := Row.upd hrow1 hu2 (by simp) (by simp) (M' := []) (by simp)
    have hb2 : Below w.heap.size w W2 := (hb0.trans (hu1.below.mono (by omega))).trans (hu2.below.mono (by omega))
    have HBB2 := Lib.hid hbb2
    have HN2 := Lib.hid hn2
    have HROW2 := Lib.hid hrow2
    have HB2 := Lib.hid hb2
    have HMK := Lib.hid hmk
    have HN := Lib.hid hn
    have hne : W1.heap.size ≠ w.heap.size := by omega
    have hg1 : W1.heap.size ≠ W0.heap.size := by omega
    have hg2 : w.heap.size ≠ W0.heap.size := by omega
    have hlt : w.heap.size < W1.heap.size := by omega
    have hzz : W0.heap.size < W1.heap.size := by omega
    have HNE := Lib.hid hne
    have HG1 := Lib.hid hg1
    have HG2 := Lib.hid hg2
    have HZ0 := Lib.hid hz0
    have HZ1 := Lib.hid hz1
    have HW2 := Lib.hid hW2
    clear e ho hodd hn hb0 hn0 hz0 hmk hW1 hrow1 hu1 hz1 hu2 hbb2 hn2 hrow2 hb2 hne hg1 hg2
    go_enter Try.func37, Try.ntmps37
    go_wp2_with fail
    refine HO.out.mono ?_
    rintro e w1 ⟨rfl, rfl⟩
    have hmk2 := HMK.out
    go_wp2_with fail
    clear hmk2 hW2 hW0
    go_loopg [] size.toNat (fun gk wr => ∃ (k : Nat) (v : Value), k ≤ size.toNat ∧ Hid (gk = size.toNat - k) ∧ Hid (wr.heap[W1.heap.size]? = some (.cells #[v] 89)) ∧ Hid (wr.heap[w.heap.size]? = some (.cells #[.int .u64 (upI k n)] 54)) ∧
      Hid (Row (Kd.int .u8) [] 5 w.heap.size wr v (leI k n)) ∧ Hid (W1.heap.size ∉ ob v) ∧ Hid (w.heap.size ∉ ob v) ∧ Hid (Below w.heap.size w wr))
    case atStart => exact ⟨0, _, Nat.zero_le _, rfl, HBB2.out, HN2.out, HROW2.out, Lib.hid (by simpa [ob, Value.ownBlock] using HG1.out), Lib.hid (by simpa [ob, Value.ownBlock] using HG2.out), HB2.out⟩
    case round =>
      obtain ⟨k, v, hk, hgk, hbb, hnb, hrow, hob, hon, hw⟩ := hrel
      obtain ⟨ao, cap, hv, _, _⟩ := row_form hrow.out
      rw [leI_len] at hv
      subst hv
      have hcb : wr.cell? ⟨W1.heap.size, 0, none⟩ = some (.slice ao k cap) := by rw [cell_of_block hbb.out]; rfl
      by_cases hlt2 : (k : Int) < size
      · have HP := Lib.hid (put1_calls W1.heap.size w.heap.size _ _ (upI k n) wr w.heap.size (upI_wf k n HN.out) hbb.out hnb.out hrow.out HNE.out hob.out hon.out (by rw [leI_len]; omega) (by omega) (Nat.le_refl _) hw.out.size)
        go_wp2_with fail
        refine HP.out.mono ?_
        rintro e w3 ⟨v', rfl, q1, q2, q3, q4, q5, q6⟩
        rw [← upI_succ] at q2
        rw [← leI_snoc] at q3
        have Q1 := Lib.hid q1
        have Q2 := Lib.hid q2
        have Q3 := Lib.hid q3
        have Q4 := Lib.hid q4
        have Q5 := Lib.hid q5
        have Q6 := Lib.hid (hw.out.trans q6)
        clear q1 q2 q3 q4 q5 q6 hcb
        go_wp2_with fail
        go_roundg (size.toNat - (k + 1))
        case measure => have := hgk.out; omega
        case rel => exact ⟨k + 1, v', by omega, Lib.hid rfl, Q1.out, Q2.out, Q3.out, Q4.out, Q5.out, Q6.out⟩
      · have hcv := row_string hrow.out wr (Upd.refl _ _)
        have hks : k = size.toNat := by omega
        rw [hks] at hcv
        have HCV := Lib.hid hcv
        have HW := Lib.hid hw.out
        clear hcv
        subst hks
        have hcv2 := HCV.out
        go_wp2_with fail
        go_ret
        exact ⟨rfl, HW.out⟩


end Go.Proofs.Ytfkmkhojedfccaa
