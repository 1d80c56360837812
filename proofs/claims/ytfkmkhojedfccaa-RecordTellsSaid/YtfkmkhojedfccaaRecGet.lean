/-
record.Get.
-/
import Derived.Test.YtfkmkhojedfccaaParse
import Derived.Test.YtfkmkhojedfccaaRecApart
import Derived.Test.YtfkmkhojedfccaaRes
namespace Go.Proofs.Ytfkmkhojedfccaa
set_option linter.unusedVariables false
set_option linter.unusedSimpArgs false
open Go.RowKit

def noRw : Rw := ⟨false, 0, 0, ⟨[], 0⟩, 0⟩
/-- What a record's bytes tell. -/
def parseRec (l : List Int) : Rw :=
  if leV ((l.drop 0).take 1) = 1 then ⟨true, leV ((l.drop 1).take 4), wrap64 (leV ((l.drop 5).take 8)), ⟨[], 0⟩, 0⟩
  else ⟨false, 0, 0, ⟨colK (l.drop 13) ((l.length - 13) / 4), wrap64 (leV ((l.drop 5).take 8))⟩, leV ((l.drop 1).take 4)⟩
/-- record.Get's answer. -/
def getRec (s : ByteArray) (dim : Int) : Rw × Int :=
  if dim < 1 ∨ 1024 < dim then (noRw, 1) else if (s.size : Int) < 13 + 4 * dim then (noRw, 2) else if 13 + 4 * dim < (s.size : Int) then (noRw, 6)
  else if putRec (parseRec (bytesI s)) dim = (s, 0) then (parseRec (bytesI s), 0) else (noRw, 6)

theorem wf0 : (Lit.int .i64 0).wf = true := by decide
theorem wrap64_wf (x : Int) : (Lit.int .i64 (wrap64 x)).wf = true := by
  have h : -9223372036854775808 ≤ wrap64 x ∧ wrap64 x ≤ 9223372036854775807 := by unfold wrap64; omega
  exact int64_wf h.1 h.2
theorem upd_set6 (w : World) (b : Nat) (v0 v1 v2 v3 v4 v5 : Value) : Upd [b] w ((((((w.setCell ⟨b, 0, none⟩ v0).setCell ⟨b, 1, none⟩ v1).setCell ⟨b, 2, none⟩ v2).setCell ⟨b, 3, none⟩ v3).setCell ⟨b, 4, none⟩ v4).setCell ⟨b, 5, none⟩ v5) :=
  (((((Upd.setCell (by simp) _).trans (Upd.setCell (by simp) _)).trans (Upd.setCell (by simp) _)).trans (Upd.setCell (by simp) _)).trans (Upd.setCell (by simp) _)).trans (Upd.setCell (by simp) _)
theorem noRw_at (M : List Nat) (w : World) : RwAt M w (.slice none 0 0) noRw := ⟨Kd.slice_nil (Kd.int .i32) M w none 0 (by simp [maxLen]), by decide, by decide, by decide, by decide⟩
theorem RwAt.updS {b : Nat} {w w' : World} {vn : Value} {x : Rw} (h : RwAt [b] w vn x) (hu : Upd [b] w w') : RwAt [] w' vn x := ⟨h.normal.upd hu (by simp) (M' := []) (by simp), h.wc, h.wp, h.wo, h.wr⟩

theorem bytesI_drop (s : ByteArray) (k : Nat) : bytesI (s.extract k s.size) = (bytesI s).drop k := by
  unfold bytesI
  rw [← List.map_drop]
  congr 1
  rw [ByteArray.data_extract, Array.toList_extract, List.extract_eq_take_drop, List.take_of_length_le (by simp)]

/-- Six cells of a block, laid anew. -/
theorem rheap_set6 {w : World} {b : Nat} {cs : Array Value} {t : TypeId} (h : w.heap[b]? = some (.cells cs t)) (hn : cs.size = 6) (v0 v1 v2 v3 v4 v5 : Value) :
    ((((((w.setCell ⟨b, 0, none⟩ v0).setCell ⟨b, 1, none⟩ v1).setCell ⟨b, 2, none⟩ v2).setCell ⟨b, 3, none⟩ v3).setCell ⟨b, 4, none⟩ v4).setCell ⟨b, 5, none⟩ v5).heap[b]? = some (.cells #[v0, v1, v2, v3, v4, v5] t) := by
  obtain ⟨l⟩ := cs
  match l, hn, h with
  | [c0, c1, c2, c3, c4, c5], _, h =>
    have h0 := heap_setCell_same w b 0 _ _ v0 h
    simp only [List.setIfInBounds_toArray, List.set_cons_zero] at h0
    have h1 := heap_setCell_same _ b 1 _ _ v1 h0
    simp only [List.setIfInBounds_toArray, List.set_cons_succ, List.set_cons_zero] at h1
    have h2 := heap_setCell_same _ b 2 _ _ v2 h1
    simp only [List.setIfInBounds_toArray, List.set_cons_succ, List.set_cons_zero] at h2
    have h3 := heap_setCell_same _ b 3 _ _ v3 h2
    simp only [List.setIfInBounds_toArray, List.set_cons_succ, List.set_cons_zero] at h3
    have h4 := heap_setCell_same _ b 4 _ _ v4 h3
    simp only [List.setIfInBounds_toArray, List.set_cons_succ, List.set_cons_zero] at h4
    have h5 := heap_setCell_same _ b 5 _ _ v5 h4
    simp only [List.setIfInBounds_toArray, List.set_cons_succ, List.set_cons_zero] at h5
    exact h5
theorem part1_bound (s : ByteArray) (a : Nat) : 0 ≤ leV (((bytesI s).drop a).take 1) ∧ leV (((bytesI s).drop a).take 1) < 256 := by
  have := leV_le (k := 1) (fun y (hy : y ∈ ((bytesI s).drop a).take 1) => part_mem hy) (by rw [List.length_take]; omega)
  exact this
theorem part8_bound (s : ByteArray) (a : Nat) : 0 ≤ leV (((bytesI s).drop a).take 8) ∧ leV (((bytesI s).drop a).take 8) < 18446744073709551616 := by
  have := leV_le (k := 8) (fun y (hy : y ∈ ((bytesI s).drop a).take 8) => part_mem hy) (by rw [List.length_take]; omega)
  have h8 : (256 : Int) ^ 8 = 18446744073709551616 := by decide
  rw [h8] at this
  exact this

set_option maxHeartbeats 4000000 in
set_option maxRecDepth 100000 in
theorem rec_get_calls (s : ByteArray) (dim : Int) (hs : s.size ≤ 5000) (w : World) :
    Calls Try.prog 12 #[.string s, .int .i64 dim] w fun e w' => ∃ vn g err, getRec s dim = (g, err) ∧ e = .returned (.tuple #[.agg #[.bool g.leaf, .int .i64 g.count, .int .i64 g.place, vn, .int .i64 g.pl.off, .int .i64 g.right], .int .i64 err]) ∧ RwAt [] w' vn g ∧ Below w.heap.size w w' := by
  obtain ⟨r, hr⟩ : ∃ r, getRec s dim = r := ⟨_, rfl⟩
  rw [hr]
  have HR := Lib.hid hr
  clear hr
  obtain ⟨W0, hW0⟩ : ∃ W0, w.alloc (.cells #[.bool false, .int .i64 0, .int .i64 0, .slice none 0 0, .int .i64 0, .int .i64 0] 31) = W0 := ⟨_, rfl⟩
  have hb0 : Below w.heap.size w W0 := by rw [← hW0]; exact below_alloc1 w _
  have hx0 : W0.heap[w.heap.size]? = some (rwObj (.slice none 0 0) noRw 31) := by rw [← hW0]; exact Go.heap_alloc_new w _
  have hz0 : W0.heap.size = w.heap.size + 1 := by rw [← hW0]; simp
  have HZ := Lib.hid (size_calls dim W0)
  have HB0 := Lib.hid hb0
  have HX0 := Lib.hid hx0
  have HSZ0 := Lib.hid hz0
  obtain ⟨c0, c1, c2, c3, c4, c5⟩ := rw_cells hx0
  simp only [noRw] at c0 c1 c2 c3 c4 c5
  have fz : ∀ j, W0.frozen? ⟨w.heap.size, j, none⟩ = false := fun j => frozen_of_block HX0.out
  have fz0 := fz 0
  have fz1 := fz 1
  have fz2 := fz 2
  have fz3 := fz 3
  have fz4 := fz 4
  have fz5 := fz 5
  clear hb0 hx0 fz hz0
  have f4 : (s.size : Int) ≤ 5000 := by omega
  by_cases hd : dim < 1 ∨ 1024 < dim
  · rw [if_pos hd] at HZ
    have e : getRec s dim = (noRw, 1) := by unfold getRec; rw [if_pos hd]
    rw [e] at HR
    obtain rfl := HR.out
    clear e hd HR
    go_enter Try.func12, Try.ntmps12
    go_wp2_with fail
    refine HZ.out.mono ?_
    rintro e w1 ⟨rfl, rfl⟩
    go_wp2_with fail
    refine bodyPost_ret (v := .tuple #[.agg #[.bool false, .int .i64 0, .int .i64 0, .slice none 0 0, .int .i64 0, .int .i64 0], .int .i64 1]) (results_aggtmp rfl Try.isAgg31 Try.sizeOf31 _ _ rfl (rheap_set6 HX0.out rfl _ _ _ _ _ _) rfl rfl) rfl ⟨_, _, _, rfl, rfl, noRw_at _ _, ?_⟩
    exact (HB0.out).trans (Upd.belowB (S := [w.heap.size]) (upd_set6 _ _ _ _ _ _ _ _) (HB0.out).size (by simp))
  · rw [if_neg hd] at HZ
    have HD := Lib.hid hd
    have hd1 : 1 ≤ dim := by omega
    have hd2 : dim ≤ 1024 := by omega
    have hzz : (13 + 4 * dim == 0) = false := by simp; omega
    clear hd
    by_cases hl1 : (s.size : Int) < 13 + 4 * dim
    · have e : getRec s dim = (noRw, 2) := by unfold getRec; rw [if_neg HD.out, if_pos hl1]
      rw [e] at HR
      obtain rfl := HR.out
      clear e HR
      go_enter Try.func12, Try.ntmps12
      go_wp2_with fail
      refine HZ.out.mono ?_
      rintro e w1 ⟨rfl, rfl⟩
      go_wp2_with fail
      refine bodyPost_ret (v := .tuple #[.agg #[.bool false, .int .i64 0, .int .i64 0, .slice none 0 0, .int .i64 0, .int .i64 0], .int .i64 2]) (results_aggtmp rfl Try.isAgg31 Try.sizeOf31 _ _ rfl (rheap_set6 HX0.out rfl _ _ _ _ _ _) rfl rfl) rfl ⟨_, _, _, rfl, rfl, noRw_at _ _, ?_⟩
      exact (HB0.out).trans (Upd.belowB (S := [w.heap.size]) (upd_set6 _ _ _ _ _ _ _ _) (HB0.out).size (by simp))
    · by_cases hl2 : 13 + 4 * dim < (s.size : Int)
      · have e : getRec s dim = (noRw, 6) := by unfold getRec; rw [if_neg HD.out, if_neg hl1, if_pos hl2]
        rw [e] at HR
        obtain rfl := HR.out
        clear e HR hl1
        go_enter Try.func12, Try.ntmps12
        go_wp2_with fail
        refine HZ.out.mono ?_
        rintro e w1 ⟨rfl, rfl⟩
        go_wp2_with fail
        refine bodyPost_ret (v := .tuple #[.agg #[.bool false, .int .i64 0, .int .i64 0, .slice none 0 0, .int .i64 0, .int .i64 0], .int .i64 6]) (results_aggtmp rfl Try.isAgg31 Try.sizeOf31 _ _ rfl (rheap_set6 HX0.out rfl _ _ _ _ _ _) rfl rfl) rfl ⟨_, _, _, rfl, rfl, noRw_at _ _, ?_⟩
        exact (HB0.out).trans (Upd.belowB (S := [w.heap.size]) (upd_set6 _ _ _ _ _ _ _ _) (HB0.out).size (by simp))
      · have HL1 := Lib.hid hl1
        have HL2 := Lib.hid hl2
        have hsz : (s.size : Int) = 13 + 4 * dim := by omega
        obtain ⟨m, hm⟩ : ∃ m : Nat, s.size = 13 + 4 * m := ⟨dim.toNat, by omega⟩
        have G1 := Lib.hid (field_get_calls s 0 1 (by omega) (by omega) (by omega) (by omega) W0)
        have G2 := Lib.hid (field_get_calls s 1 4 (by omega) (by omega) (by omega) (by omega) W0)
        have G3 := Lib.hid (field_get_calls s 5 8 (by omega) (by omega) (by omega) (by omega) W0)
        have hxs : (s.extract 13 s.size).size = 4 * m := by simp [ByteArray.size_extract]; omega
        have GC := Lib.hid (column_calls (s.extract 13 s.size) m hxs (by omega) W0)
        rw [bytesI_drop] at GC
        have hpe : parseRec (bytesI s) = if leV (((bytesI s).drop 0).take 1) = 1 then ⟨true, leV (((bytesI s).drop 1).take 4), wrap64 (leV (((bytesI s).drop 5).take 8)), ⟨[], 0⟩, 0⟩
            else ⟨false, 0, 0, ⟨colK ((bytesI s).drop 13) m, wrap64 (leV (((bytesI s).drop 5).take 8))⟩, leV (((bytesI s).drop 1).take 4)⟩ := by
          unfold parseRec
          rw [bytesI_len, show (s.size - 13) / 4 = m by omega]
        have q1 := part1_bound s 0
        have q2 := part4_bound s 1
        have q3 := part8_bound s 5
        generalize leV (((bytesI s).drop 0).take 1) = n1 at *
        generalize leV (((bytesI s).drop 1).take 4) = n2 at *
        generalize leV (((bytesI s).drop 5).take 8) = n3 at *
        generalize hcl : colK ((bytesI s).drop 13) m = cl at *
        have HHP := Lib.hid hpe
        have G1a : Hid _ := Lib.hid (show Calls Try.prog 43 #[.string s, .int .i64 0, .int .i64 1] W0 _ from G1.out)
        have G2a : Hid _ := Lib.hid (show Calls Try.prog 43 #[.string s, .int .i64 1, .int .i64 4] W0 _ from G2.out)
        have G3a : Hid _ := Lib.hid (show Calls Try.prog 43 #[.string s, .int .i64 5, .int .i64 8] W0 _ from G3.out)
        clear hpe hl1 hl2 hcl hxs hm c0 c1 c2 c3 c4 c5 fz0 fz1 fz2 fz3 fz4 fz5 G1 G2 G3
        have f13 : (13 : Int) ≤ (s.size : Int) := by omega
        go_enter Try.func12, Try.ntmps12
        go_wp2_with fail
        refine HZ.out.mono ?_
        rintro e w1 ⟨rfl, rfl⟩
        go_wp2_with fail
        clear hW0
        refine G1a.out.mono ?_
        rintro e w1 ⟨rfl, rfl⟩
        go_wp2_with fail
        refine G2a.out.mono ?_
        rintro e w1 ⟨rfl, rfl⟩
        go_wp2_with fail
        refine G3a.out.mono ?_
        rintro e w1 ⟨rfl, rfl⟩
        go_wp2_with fail
        refine GC.out.mono ?_
        rintro e w2 ⟨v, rfl, hrow, hb2⟩
        have HB2 := Lib.hid (HB0.out.trans (hb2.mono HB0.out.size))
        have HX2 := Lib.hid ((hb2.block _ (block_lt HX0.out)).trans HX0.out)
        have hrb := hrow.ob_lt
        have hread := (hrow.int_any (M' := [w.heap.size])).read (fun k hk => by have := (hrb k hk).1; have := HSZ0.out; simp; omega)
        obtain ⟨ao, cap, rfl, hcl, hcap⟩ := row_form hrow
        unfold maxLen at hcap
        obtain ⟨W5, hW5⟩ : ∃ W5, w2.alloc (.cells #[.bool false, .int .i64 0, .int .i64 0, .slice ao cl.length cap, .int .i64 (wrap64 n3), .int .i64 n2] 31) = W5 := ⟨_, rfl⟩
        have hu5 : Upd [] w2 W5 := by rw [← hW5]; exact Upd.alloc [] w2 _
        have HB5 := Lib.hid (HB2.out.trans (hu5.below.mono HB2.out.size))
        have HX5 := Lib.hid (upd_far hu5 HX2.out (by simp))
        have HXB : Hid (W5.heap[w2.heap.size]? = some (rwObj (.slice ao cl.length cap) ⟨false, 0, 0, ⟨cl, wrap64 n3⟩, n2⟩ 31)) := Lib.hid (by rw [← hW5]; exact Go.heap_alloc_new w2 _)
        have H5 : Hid (RwAt [w.heap.size] W5 (.slice ao cl.length cap) ⟨false, 0, 0, ⟨cl, wrap64 n3⟩, n2⟩) := Lib.hid ⟨hread.upd hu5 (by simp) (by simp), wf0, wf0, wrap64_wf _, int64_wf (x := n2) (by omega) (by omega)⟩
        have HBN : Hid (w.heap.size < w2.heap.size) := Lib.hid (block_lt HX2.out)
        clear hb2 hrow hrb hread hu5 GC HB2 HX2
        by_cases hk : n1 = 1
        · have hpe := HHP.out
          rw [if_pos hk] at hpe
          have HPE := Lib.hid hpe
          subst hk
          obtain ⟨d0, d1, d2, d3, d4, d5⟩ := rw_cells HXB.out
          simp only at d0 d1 d2 d3 d4 d5
          have fz : ∀ j, W5.frozen? ⟨w2.heap.size, j, none⟩ = false := fun j => frozen_of_block HXB.out
          have fz0 := fz 0
          have fz1 := fz 1
          have fz2 := fz 2
          have fz3 := fz 3
          have fz4 := fz 4
          have fz5 := fz 5
          obtain ⟨W6, hW6⟩ : ∃ W6, (((((W5.setCell ⟨w2.heap.size, 0, none⟩ (.bool true)).setCell ⟨w2.heap.size, 1, none⟩ (.int .i64 n2)).setCell ⟨w2.heap.size, 2, none⟩ (.int .i64 (wrap64 n3))).setCell ⟨w2.heap.size, 3, none⟩ (.slice none 0 0)).setCell ⟨w2.heap.size, 4, none⟩ (.int .i64 0)).setCell ⟨w2.heap.size, 5, none⟩ (.int .i64 0) = W6 := ⟨_, rfl⟩
          have hu6 : Upd [w2.heap.size] W5 W6 := by rw [← hW6]; exact upd_set6 _ _ _ _ _ _ _ _
          have HB6' := Lib.hid (HB5.out.trans (hu6.belowB HB5.out.size (by have := HBN.out; simp; omega)))
          have HX6' := Lib.hid (upd_far hu6 HX5.out (by have := HBN.out; simp; omega))
          have HXB6' : Hid (W6.heap[w2.heap.size]? = some (rwObj (.slice none 0 0) ⟨true, n2, wrap64 n3, ⟨[], 0⟩, 0⟩ 31)) := Lib.hid (by rw [← hW6]; exact rheap_set6 HXB.out rfl _ _ _ _ _ _)
          have H6' : Hid (RwAt [w.heap.size] W6 (.slice none 0 0) ⟨true, n2, wrap64 n3, ⟨[], 0⟩, 0⟩) := Lib.hid ⟨Kd.slice_nil (Kd.int .i32) _ W6 none 0 (by simp [maxLen]), int64_wf (x := n2) (by omega) (by omega), wrap64_wf _, wf0, wf0⟩
          clear hu6 fz hpe HHP HB5 HX5 HXB H5
          have HB5 := HB6'
          have HX5 := HX6'
          have HXB := HXB6'
          have H5 := H6'
          clear HB6' HX6' HXB6' H6'
          have hrwc := rw_cells HXB.out
          obtain ⟨d0, d1, d2, d3, d4, d5⟩ := hrwc
          have HP := Lib.hid (rec_put_calls _ _ dim _ W6 H5.out)
          generalize hq1 : putRec (⟨true, n2, wrap64 n3, ⟨[], 0⟩, 0⟩ : Rw) dim = q1 at HP
          obtain ⟨s1, e1⟩ := q1
          have HQ1 := Lib.hid hq1
          clear hq1
          simp only at HP d0 d1 d2 d3 d4 d5
          go_wp2_with fail
          refine HP.out.mono ?_
          rintro e w6 ⟨rfl, hb6⟩
          have HB6 := Lib.hid (HB5.out.trans (hb6.mono HB5.out.size))
          have HX6 := Lib.hid ((hb6.block _ (block_lt HX5.out)).trans HX5.out)
          have HXB6 := Lib.hid ((hb6.block _ (block_lt HXB.out)).trans HXB.out)
          have H6 := Lib.hid (H5.out.below hb6)
          clear hb6 HP d0 d1 d2 d3 d4 d5
          have hrwc := rw_cells HXB6.out
          obtain ⟨d0, d1, d2, d3, d4, d5⟩ := hrwc
          simp only at d0 d1 d2 d3 d4 d5
          obtain ⟨c0, c1, c2, c3, c4, c5⟩ := rw_cells HX6.out
          simp only [noRw] at c0 c1 c2 c3 c4 c5
          have fz : ∀ j, w6.frozen? ⟨w.heap.size, j, none⟩ = false := fun j => frozen_of_block HX6.out
          have fz0 := fz 0
          have fz1 := fz 1
          have fz2 := fz 2
          have fz3 := fz 3
          have fz4 := fz 4
          have fz5 := fz 5
          clear fz
          have HNE := Lib.hid (show w.heap.size ≠ w2.heap.size by have := HBN.out; omega)
          by_cases he : e1 = 0
          · by_cases hss : s1 = s
            · have hR : r = ((⟨true, n2, wrap64 n3, ⟨[], 0⟩, 0⟩ : Rw), 0) := by
                rw [← HR.out]
                unfold getRec
                rw [if_neg HD.out, if_neg (by have := HL1.out; omega), if_neg (by have := HL2.out; omega), HPE.out, HQ1.out, he, hss, if_pos rfl]
              subst hR
              subst he hss
              have hse : (s1.toList != s1.toList) = false := by simp
              go_wp2_with fail
              refine bodyPost_ret (v := .tuple #[.agg #[.bool true, .int .i64 n2, .int .i64 (wrap64 n3), .slice none 0 0, .int .i64 0, .int .i64 0], .int .i64 0]) (results_aggtmp rfl Try.isAgg31 Try.sizeOf31 _ _ rfl (rheap_set6 HX6.out rfl _ _ _ _ _ _) rfl rfl) rfl ⟨_, _, _, rfl, rfl, ?_, ?_⟩
              · exact RwAt.updS H6.out (upd_set6 _ _ _ _ _ _ _ _)
              · exact (HB6.out).trans (Upd.belowB (S := [w.heap.size]) (upd_set6 _ _ _ _ _ _ _ _) HB6.out.size (by simp))
            · have hR : r = (noRw, 6) := by
                rw [← HR.out]
                unfold getRec
                rw [if_neg HD.out, if_neg (by have := HL1.out; omega), if_neg (by have := HL2.out; omega), HPE.out, HQ1.out, if_neg (by simp; intro h; exact absurd h hss)]
              subst hR
              subst he
              have hse : (s1.toList == s.toList) = false := by rw [strB]; exact beqB_false.2 hss
              go_wp2_with fail
              refine bodyPost_ret (v := .tuple #[.agg #[.bool false, .int .i64 0, .int .i64 0, .slice none 0 0, .int .i64 0, .int .i64 0], .int .i64 6]) (results_aggtmp rfl Try.isAgg31 Try.sizeOf31 _ _ rfl (rheap_set6 HX6.out rfl _ _ _ _ _ _) rfl rfl) rfl ⟨_, _, _, rfl, rfl, noRw_at _ _, ?_⟩
              exact (HB6.out).trans (Upd.belowB (S := [w.heap.size]) (upd_set6 _ _ _ _ _ _ _ _) (HB6.out).size (by simp))
          · have hR : r = (noRw, 6) := by
              rw [← HR.out]
              unfold getRec
              rw [if_neg HD.out, if_neg (by have := HL1.out; omega), if_neg (by have := HL2.out; omega), HPE.out, HQ1.out, if_neg (by simp; intro _ h; exact absurd h he)]
            subst hR
            have heb : (e1 != 0) = true := by simpa using he
            go_wp2_with fail
            refine bodyPost_ret (v := .tuple #[.agg #[.bool false, .int .i64 0, .int .i64 0, .slice none 0 0, .int .i64 0, .int .i64 0], .int .i64 6]) (results_aggtmp rfl Try.isAgg31 Try.sizeOf31 _ _ rfl (rheap_set6 HX6.out rfl _ _ _ _ _ _) rfl rfl) rfl ⟨_, _, _, rfl, rfl, noRw_at _ _, ?_⟩
            exact (HB6.out).trans (Upd.belowB (S := [w.heap.size]) (upd_set6 _ _ _ _ _ _ _ _) (HB6.out).size (by simp))
        · have hpe := HHP.out
          rw [if_neg hk] at hpe
          have HPE := Lib.hid hpe
          have hkb : (n1 == 1) = false := by simpa using hk
          clear hpe HHP hk
          have hrwc := rw_cells HXB.out
          obtain ⟨d0, d1, d2, d3, d4, d5⟩ := hrwc
          have HP := Lib.hid (rec_put_calls _ _ dim _ W5 H5.out)
          generalize hq1 : putRec (⟨false, 0, 0, ⟨cl, wrap64 n3⟩, n2⟩ : Rw) dim = q1 at HP
          obtain ⟨s1, e1⟩ := q1
          have HQ1 := Lib.hid hq1
          clear hq1
          simp only at HP d0 d1 d2 d3 d4 d5
          go_wp2_with fail
          refine HP.out.mono ?_
          rintro e w6 ⟨rfl, hb6⟩
          have HB6 := Lib.hid (HB5.out.trans (hb6.mono HB5.out.size))
          have HX6 := Lib.hid ((hb6.block _ (block_lt HX5.out)).trans HX5.out)
          have HXB6 := Lib.hid ((hb6.block _ (block_lt HXB.out)).trans HXB.out)
          have H6 := Lib.hid (H5.out.below hb6)
          clear hb6 HP d0 d1 d2 d3 d4 d5
          have hrwc := rw_cells HXB6.out
          obtain ⟨d0, d1, d2, d3, d4, d5⟩ := hrwc
          simp only at d0 d1 d2 d3 d4 d5
          obtain ⟨c0, c1, c2, c3, c4, c5⟩ := rw_cells HX6.out
          simp only [noRw] at c0 c1 c2 c3 c4 c5
          have fz : ∀ j, w6.frozen? ⟨w.heap.size, j, none⟩ = false := fun j => frozen_of_block HX6.out
          have fz0 := fz 0
          have fz1 := fz 1
          have fz2 := fz 2
          have fz3 := fz 3
          have fz4 := fz 4
          have fz5 := fz 5
          clear fz
          have HNE := Lib.hid (show w.heap.size ≠ w2.heap.size by have := HBN.out; omega)
          by_cases he : e1 = 0
          · by_cases hss : s1 = s
            · have hR : r = ((⟨false, 0, 0, ⟨cl, wrap64 n3⟩, n2⟩ : Rw), 0) := by
                rw [← HR.out]
                unfold getRec
                rw [if_neg HD.out, if_neg (by have := HL1.out; omega), if_neg (by have := HL2.out; omega), HPE.out, HQ1.out, he, hss, if_pos rfl]
              subst hR
              subst he hss
              have hse : (s1.toList != s1.toList) = false := by simp
              go_wp2_with fail
              refine bodyPost_ret (v := .tuple #[.agg #[.bool false, .int .i64 0, .int .i64 0, .slice ao cl.length cap, .int .i64 (wrap64 n3), .int .i64 n2], .int .i64 0]) (results_aggtmp rfl Try.isAgg31 Try.sizeOf31 _ _ rfl (rheap_set6 HX6.out rfl _ _ _ _ _ _) rfl rfl) rfl ⟨_, _, _, rfl, rfl, ?_, ?_⟩
              · exact RwAt.updS H6.out (upd_set6 _ _ _ _ _ _ _ _)
              · exact (HB6.out).trans (Upd.belowB (S := [w.heap.size]) (upd_set6 _ _ _ _ _ _ _ _) HB6.out.size (by simp))
            · have hR : r = (noRw, 6) := by
                rw [← HR.out]
                unfold getRec
                rw [if_neg HD.out, if_neg (by have := HL1.out; omega), if_neg (by have := HL2.out; omega), HPE.out, HQ1.out, if_neg (by simp; intro h; exact absurd h hss)]
              subst hR
              subst he
              have hse : (s1.toList == s.toList) = false := by rw [strB]; exact beqB_false.2 hss
              go_wp2_with fail
              refine bodyPost_ret (v := .tuple #[.agg #[.bool false, .int .i64 0, .int .i64 0, .slice none 0 0, .int .i64 0, .int .i64 0], .int .i64 6]) (results_aggtmp rfl Try.isAgg31 Try.sizeOf31 _ _ rfl (rheap_set6 HX6.out rfl _ _ _ _ _ _) rfl rfl) rfl ⟨_, _, _, rfl, rfl, noRw_at _ _, ?_⟩
              exact (HB6.out).trans (Upd.belowB (S := [w.heap.size]) (upd_set6 _ _ _ _ _ _ _ _) (HB6.out).size (by simp))
          · have hR : r = (noRw, 6) := by
              rw [← HR.out]
              unfold getRec
              rw [if_neg HD.out, if_neg (by have := HL1.out; omega), if_neg (by have := HL2.out; omega), HPE.out, HQ1.out, if_neg (by simp; intro _ h; exact absurd h he)]
            subst hR
            have heb : (e1 != 0) = true := by simpa using he
            go_wp2_with fail
            refine bodyPost_ret (v := .tuple #[.agg #[.bool false, .int .i64 0, .int .i64 0, .slice none 0 0, .int .i64 0, .int .i64 0], .int .i64 6]) (results_aggtmp rfl Try.isAgg31 Try.sizeOf31 _ _ rfl (rheap_set6 HX6.out rfl _ _ _ _ _ _) rfl rfl) rfl ⟨_, _, _, rfl, rfl, noRw_at _ _, ?_⟩
            exact (HB6.out).trans (Upd.belowB (S := [w.heap.size]) (upd_set6 _ _ _ _ _ _ _ _) (HB6.out).size (by simp))

end Go.Proofs.Ytfkmkhojedfccaa
