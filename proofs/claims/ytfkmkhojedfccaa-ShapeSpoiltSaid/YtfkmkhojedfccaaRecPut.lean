/-
record.Put.
-/
import Derived.Test.YtfkmkhojedfccaaRecord
import Derived.Test.YtfkmkhojedfccaaShelfR
namespace Go.Proofs.Ytfkmkhojedfccaa
set_option linter.unusedVariables false
set_option linter.unusedSimpArgs false
open Go.RowKit

def zerosS (n : Nat) : ByteArray := ⟨(List.replicate n (0 : UInt8)).toArray⟩
theorem zerosS_size (n : Nat) : (zerosS n).size = n := by simp [zerosS, ByteArray.size]
theorem repeat_zero : ∀ (n : Nat), Lib.repeatL [(0 : UInt8)] n = List.replicate n 0
  | 0 => rfl
  | n + 1 => by
    have := repeat_zero n
    simp only [Lib.repeatL, this, List.replicate_succ]
    rfl
/-- record.Put's answer: the text, and the error. -/
def putRec (x : Rw) (dim : Int) : ByteArray × Int :=
  if dim < 1 ∨ 1024 < dim then (⟨#[]⟩, 1) else if mayB x dim = false then (⟨#[]⟩, 14)
  else if x.leaf then (recS 1 x.count x.place (zerosS (4 * dim).toNat), 0) else (recS 2 x.right x.pl.off (strOfNums (rowI x.pl.normal)), 0)

theorem mayB_normal {x : Rw} {dim : Int} (hl : x.leaf = false) (h : mayB x dim = true) (hd : dim ≤ 1024) : x.pl.normal.length ≤ 1024 := by
  unfold mayB at h
  rw [if_neg (by simp [hl])] at h
  simp only [Bool.and_eq_true, beq_iff_eq] at h
  have h := h.2.2.1
  unfold planeCheck at h
  by_cases q : (x.pl.normal.length : Int) = dim
  · omega
  · simp [q] at h
    split at h <;> simp_all

set_option maxHeartbeats 2000000 in
set_option maxRecDepth 100000 in
theorem rec_put_calls (vn : Value) (x : Rw) (dim : Int) (M : List Nat) (w : World) (h : RwAt M w vn x) :
    Calls Try.prog 9 #[.agg #[.bool x.leaf, .int .i64 x.count, .int .i64 x.place, vn, .int .i64 x.pl.off, .int .i64 x.right], .int .i64 dim] w fun e w' => e = .returned (.tuple #[.string (putRec x dim).1, .int .i64 (putRec x dim).2]) ∧ Below w.heap.size w w' := by
  obtain ⟨an, cn, rfl, hln, hcn⟩ := slice_form' h.normal
  unfold maxLen at hcn
  obtain ⟨W0, hW0⟩ : ∃ W0, w.alloc (.cells #[.bool x.leaf, .int .i64 x.count, .int .i64 x.place, .slice an x.pl.normal.length cn, .int .i64 x.pl.off, .int .i64 x.right] 31) = W0 := ⟨_, rfl⟩
  have hb0 : Below w.heap.size w W0 := by rw [← hW0]; exact below_alloc1 w _
  have hx0 : W0.heap[w.heap.size]? = some (.cells #[.bool x.leaf, .int .i64 x.count, .int .i64 x.place, .slice an x.pl.normal.length cn, .int .i64 x.pl.off, .int .i64 x.right] 31) := by rw [← hW0]; exact Go.heap_alloc_new w _
  have HZ := Lib.hid (size_calls dim W0)
  have HB0 := Lib.hid hb0
  have HX0 := Lib.hid hx0
  have hlt0 := block_lt hx0
  have H0 := Lib.hid (h.below hb0)
  obtain ⟨⟨r1, r2⟩, hpr⟩ : ∃ R, putRec x dim = R := ⟨_, rfl⟩
  rw [hpr]
  have HPR := Lib.hid hpr
  clear hpr
  simp only
  by_cases hr : dim < 1 ∨ 1024 < dim
  · have e : putRec x dim = (⟨#[]⟩, 1) := by unfold putRec; rw [if_pos hr]
    obtain ⟨rfl, rfl⟩ := Prod.mk.inj (HPR.out.symm.trans e)
    rw [if_pos hr] at HZ
    clear e hr h hb0 hx0
    go_enter Try.func9, Try.ntmps9
    go_wp2_with fail
    refine HZ.out.mono ?_
    rintro e w1 ⟨rfl, rfl⟩
    go_wp2_with fail
    go_ret2
    exact ⟨rfl, HB0.out⟩
  · rw [if_neg hr] at HZ
    have hd1 : 1 ≤ dim := by omega
    have hd2 : dim ≤ 1024 := by omega
    have hzz : (13 + 4 * dim == 0) = false := by simp; omega
    have g0 : W0.cell? ⟨w.heap.size, 0, none⟩ = some (.bool x.leaf) := by rw [cell_of_block hx0]; rfl
    have g1 : W0.cell? ⟨w.heap.size, 1, none⟩ = some (.int .i64 x.count) := by rw [cell_of_block hx0]; rfl
    have g2 : W0.cell? ⟨w.heap.size, 2, none⟩ = some (.int .i64 x.place) := by rw [cell_of_block hx0]; rfl
    have g3 : W0.cell? ⟨w.heap.size, 3, none⟩ = some (.slice an x.pl.normal.length cn) := by rw [cell_of_block hx0]; rfl
    have g4 : W0.cell? ⟨w.heap.size, 4, none⟩ = some (.int .i64 x.pl.off) := by rw [cell_of_block hx0]; rfl
    have g5 : W0.cell? ⟨w.heap.size, 5, none⟩ = some (.int .i64 x.right) := by rw [cell_of_block hx0]; rfl
    have HM := Lib.hid (may_calls _ x dim M W0 (h.below hb0))
    generalize hm : mayB x dim = m at *
    have HMM := Lib.hid hm
    have HNR := Lib.hid hr
    clear hb0 hx0 h hr hm
    go_enter Try.func9, Try.ntmps9
    go_wp2_with fail
    refine HZ.out.mono ?_
    rintro e w1 ⟨rfl, rfl⟩
    go_wp2_with fail
    refine HM.out.mono ?_
    rintro e w1 ⟨rfl, hb1⟩
    have HB1 := Lib.hid (HB0.out.trans (hb1.mono (by have := HB0.out.size; omega)))
    have HX1 := Lib.hid ((hb1.block _ hlt0).trans HX0.out)
    have H1 := Lib.hid (H0.out.below hb1)
    clear hb1 g0 g1 g2 g3 g4 g5 HM HZ
    cases m with
    | false =>
      have e : putRec x dim = (⟨#[]⟩, 14) := by unfold putRec; rw [if_neg HNR.out, if_pos HMM.out]
      obtain ⟨rfl, rfl⟩ := Prod.mk.inj (HPR.out.symm.trans e)
      clear e
      go_wp2_with fail
      go_ret2
      exact ⟨rfl, HB1.out⟩
    | true =>
      have hlt1 := block_lt HX1.out
      have g0 : w1.cell? ⟨w.heap.size, 0, none⟩ = some (.bool x.leaf) := by rw [cell_of_block HX1.out]; rfl
      have g1 : w1.cell? ⟨w.heap.size, 1, none⟩ = some (.int .i64 x.count) := by rw [cell_of_block HX1.out]; rfl
      have g2 : w1.cell? ⟨w.heap.size, 2, none⟩ = some (.int .i64 x.place) := by rw [cell_of_block HX1.out]; rfl
      have g3 : w1.cell? ⟨w.heap.size, 3, none⟩ = some (.slice an x.pl.normal.length cn) := by rw [cell_of_block HX1.out]; rfl
      have g4 : w1.cell? ⟨w.heap.size, 4, none⟩ = some (.int .i64 x.pl.off) := by rw [cell_of_block HX1.out]; rfl
      have g5 : w1.cell? ⟨w.heap.size, 5, none⟩ = some (.int .i64 x.right) := by rw [cell_of_block HX1.out]; rfl
      cases hleaf : x.leaf with
      | true =>
        have e : putRec x dim = (recS 1 x.count x.place (zerosS (4 * dim).toNat), 0) := by unfold putRec; rw [if_neg HNR.out, if_neg (by rw [HMM.out]; simp), if_pos hleaf]
        obtain ⟨c, hc⟩ : ∃ c : Nat, 4 * dim = c := ⟨(4 * dim).toNat, by omega⟩
        have hcn2 : (4 * dim).toNat = c := by omega
        rw [hcn2] at e
        obtain ⟨rfl, rfl⟩ := Prod.mk.inj (HPR.out.symm.trans e)
        rw [hleaf] at g0
        have hrep : ∀ W, Calls Try.prog 38 #[.string ⟨#[0]⟩, .int .i64 (4 * dim)] W fun e w' => e = .returned (.string (zerosS c)) ∧ Below W.heap.size W w' := fun W => by
          have := Try.strings_Repeat_main ⟨#[0]⟩ c W (by omega) (by omega) (by show 1 * c ≤ _; omega) (by decide)
          rw [show (⟨#[0]⟩ : ByteArray).data.toList = [0] from rfl, repeat_zero] at this
          rw [hc]
          exact this
        have HREP := Lib.hid hrep
        have HALL := Lib.hid (fun W => all_calls 1 x.count x.place (zerosS c) (by rw [zerosS_size]; omega) W)
        clear e hleaf hc hcn2 hrep
        go_wp2_with fail
        have hs4 : IntKind.i64.wrap (4 * dim) = 4 * dim := by simp [IntKind.wrap, IntKind.signed, IntKind.bits]; omega
        go_region_held3 (fun w' => w'.cell? ⟨w.heap.size, 1, none⟩ = some (.int .i64 x.count) ∧ w'.cell? ⟨w.heap.size, 2, none⟩ = some (.int .i64 x.place))
          (first | exact ⟨k1, k2⟩ | exact ⟨g1, g2⟩ | go_keep)
          (first
            | (go_at_call 38
               refine (HREP.out _).mono ?_
               rintro e w2 ⟨rfl, hb2⟩
               have HB2 := Lib.hid (HB1.out.trans ((bdN _ w1 1).trans (hb2.mono (by have := HB1.out.size; simpa using this))))
               have k1 : w2.cell? ⟨w.heap.size, 1, none⟩ = some (.int .i64 x.count) := by rw [hb2.cell (p := ⟨w.heap.size, 1, none⟩) hlt1]; exact g1
               have k2 : w2.cell? ⟨w.heap.size, 2, none⟩ = some (.int .i64 x.place) := by rw [hb2.cell (p := ⟨w.heap.size, 2, none⟩) hlt1]; exact g2
               clear hb2)
            | (go_at_call 36
               refine (HALL.out _).mono ?_
               rintro e w3 ⟨rfl, hb3⟩
               have HB3 := Lib.hid (HB2.out.trans (hb3.mono HB2.out.size))
               have k3 : w3.cell? ⟨w.heap.size, 1, none⟩ = some (.int .i64 x.count) := by rw [hb3.cell (p := ⟨w.heap.size, 1, none⟩) (cell_lt k1)]; exact k1
               have k4 : w3.cell? ⟨w.heap.size, 2, none⟩ = some (.int .i64 x.place) := by rw [hb3.cell (p := ⟨w.heap.size, 2, none⟩) (cell_lt k2)]; exact k2
               clear hb3))
        go_wp2_with fail
        go_ret2
        exact ⟨rfl, HB3.out⟩
      | false =>
        have e : putRec x dim = (recS 2 x.right x.pl.off (strOfNums (rowI x.pl.normal)), 0) := by unfold putRec; rw [if_neg HNR.out, if_neg (by rw [HMM.out]; simp), if_neg (by simp [hleaf])]
        obtain ⟨rfl, rfl⟩ := Prod.mk.inj (HPR.out.symm.trans e)
        rw [hleaf] at g0
        have hnl := mayB_normal hleaf HMM.out hd2
        have HROWC := Lib.hid (fun W (hu : Upd [] w1 W) => field_row_calls (.slice an x.pl.normal.length cn) x.pl.normal [] W ((H1.out.normal.sub (M' := []) (fun k hk => by simp at hk)).upd hu (by simp) (by simp)) (by omega))
        have HALL := Lib.hid (fun W => all_calls 2 x.right x.pl.off (strOfNums (rowI x.pl.normal)) (by rw [strOfNums_size, rowI_len]; omega) W)
        clear e hleaf
        go_wp2_with fail
        go_region_held3 (fun w' => w'.cell? ⟨w.heap.size, 5, none⟩ = some (.int .i64 x.right) ∧ w'.cell? ⟨w.heap.size, 4, none⟩ = some (.int .i64 x.pl.off) ∧ w'.cell? ⟨w.heap.size, 3, none⟩ = some (.slice an x.pl.normal.length cn))
          (first | exact ⟨k4, k5, k6⟩ | exact ⟨k1, k2, k3⟩ | exact ⟨g5, g4, g3⟩ | go_keep)
          (first
            | (go_at_call 39
               refine (HROWC.out _ (Upd.drewN [] w1 _)).mono ?_
               rintro e w2 ⟨rfl, hb2⟩
               have HB2 := Lib.hid (HB1.out.trans ((bdN _ w1 1).trans (hb2.mono (by have := HB1.out.size; simpa using this))))
               have k1 : w2.cell? ⟨w.heap.size, 5, none⟩ = some (.int .i64 x.right) := by rw [hb2.cell (p := ⟨w.heap.size, 5, none⟩) hlt1]; exact g5
               have k2 : w2.cell? ⟨w.heap.size, 4, none⟩ = some (.int .i64 x.pl.off) := by rw [hb2.cell (p := ⟨w.heap.size, 4, none⟩) hlt1]; exact g4
               have k3 : w2.cell? ⟨w.heap.size, 3, none⟩ = some (.slice an x.pl.normal.length cn) := by rw [hb2.cell (p := ⟨w.heap.size, 3, none⟩) hlt1]; exact g3
               clear hb2)
            | (go_at_call 36
               refine (HALL.out _).mono ?_
               rintro e w3 ⟨rfl, hb3⟩
               have HB3 := Lib.hid (HB2.out.trans (hb3.mono HB2.out.size))
               have k4 : w3.cell? ⟨w.heap.size, 5, none⟩ = some (.int .i64 x.right) := by rw [hb3.cell (p := ⟨w.heap.size, 5, none⟩) (cell_lt k1)]; exact k1
               have k5 : w3.cell? ⟨w.heap.size, 4, none⟩ = some (.int .i64 x.pl.off) := by rw [hb3.cell (p := ⟨w.heap.size, 4, none⟩) (cell_lt k2)]; exact k2
               have k6 : w3.cell? ⟨w.heap.size, 3, none⟩ = some (.slice an x.pl.normal.length cn) := by rw [hb3.cell (p := ⟨w.heap.size, 3, none⟩) (cell_lt k3)]; exact k3
               clear hb3))
        go_wp2_with fail
        go_ret2
        exact ⟨rfl, HB3.out⟩

end Go.Proofs.Ytfkmkhojedfccaa
