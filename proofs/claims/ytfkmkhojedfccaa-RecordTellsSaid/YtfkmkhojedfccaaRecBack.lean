/-
The law RecordBack.
-/
import Derived.Test.YtfkmkhojedfccaaRecLaws
import Derived.Test.YtfkmkhojedfccaaOpenRw
namespace Go.Proofs.Ytfkmkhojedfccaa
set_option linter.unusedVariables false
set_option linter.unusedSimpArgs false
open Go.RowKit

theorem back_calls (v1 : Value) (x : Rw) (M : List Nat) (w : World) (h1 : RwAt M w v1 x) :
    Calls Try.prog 15 #[.agg #[.bool x.leaf, .int .i64 x.count, .int .i64 x.place, v1, .int .i64 x.pl.off, .int .i64 x.right]] w
      fun e w' => e = .returned (.agg #[.bool x.leaf, .int .i64 x.count, .int .i64 x.place, v1, .int .i64 x.pl.off, .int .i64 x.right]) ∧ Below w.heap.size w w' := by
  obtain ⟨ao1, cap1, rfl, hl1, hcap1⟩ := slice_form' h1.normal
  have hb := ((Below.refl w.heap.size w).alloc (Nat.le_refl _) (.cells #[.bool x.leaf, .int .i64 x.count, .int .i64 x.place, .slice ao1 x.pl.normal.length cap1, .int .i64 x.pl.off, .int .i64 x.right] 31)).alloc (by simp) (.cells #[.bool x.leaf, .int .i64 x.count, .int .i64 x.place, .slice ao1 x.pl.normal.length cap1, .int .i64 x.pl.off, .int .i64 x.right] 26)
  have HB := Lib.hid hb
  clear hb h1
  go_enter Try.func15, Try.ntmps15
  go_wp2_with fail
  exact bodyPost_ret (v := .agg #[.bool x.leaf, .int .i64 x.count, .int .i64 x.place, .slice ao1 x.pl.normal.length cap1, .int .i64 x.pl.off, .int .i64 x.right]) (by simp [results, Try.results15, go_sem]) rfl ⟨rfl, HB.out⟩

set_option maxHeartbeats 2000000 in
set_option maxRecDepth 100000 in
theorem recordBack_calls (v1 : Value) (x : Rw) (s : ByteArray) (dim : Int) (w : World) (h1 : RwAt [] w v1 x) :
    Calls Try.prog 4 #[.agg #[.bool x.leaf, .int .i64 x.count, .int .i64 x.place, v1, .int .i64 x.pl.off, .int .i64 x.right], .string s, .int .i64 dim] w
      fun e w' => e = .returned (.bool true) ∧ Below w.heap.size w w' := by
  obtain ⟨ao1, cap1, rfl, hl1, hcap1⟩ := slice_form' h1.normal
  unfold maxLen at hcap1
  obtain ⟨W0, hW0⟩ : ∃ W0, w.alloc (rwObj (.slice ao1 x.pl.normal.length cap1) x 26) = W0 := ⟨_, rfl⟩
  have hb0 : Below w.heap.size w W0 := by rw [← hW0]; exact (Below.refl w.heap.size w).alloc (Nat.le_refl _) _
  have hx0 : W0.heap[w.heap.size]? = some (rwObj (.slice ao1 x.pl.normal.length cap1) x 26) := by rw [← hW0]; exact Go.heap_alloc_new w _
  unfold rwObj at hW0
  have HA := Lib.hid (awake15_calls W0)
  have HB0 := Lib.hid hb0
  have HX0 := Lib.hid hx0
  have H1 := Lib.hid (h1.below hb0)
  have hlx := block_lt hx0
  clear h1 hb0 hx0
  go_enter Try.func4, Try.ntmps4
  go_wp2_with fail
  refine HA.out.mono ?_
  rintro e w1 ⟨rfl, hb1⟩
  clear hW0
  have HB1 := Lib.hid (HB0.out.trans (hb1.mono HB0.out.size))
  have HX1 := Lib.hid ((hb1.block _ hlx).trans HX0.out)
  have K1 := Lib.hid (H1.out.below hb1)
  clear hb1 HA
  obtain ⟨c0, c1, c2, c3, c4, c5⟩ := rw_cells HX1.out
  by_cases hn1 : 1100 < x.pl.normal.length
  · go_wp2_with fail
    go_ret
    exact ⟨rfl, HB1.out⟩
  by_cases hn2 : 5000 < s.size
  · go_wp2_with fail
    go_ret
    exact ⟨rfl, HB1.out⟩
  have HR1 := Lib.hid (row_calls _ x [] w1 K1.out)
  go_wp2_with fail
  refine HR1.out.mono ?_
  rintro e w2 ⟨rfl, hb2⟩
  have HB2 := Lib.hid (HB1.out.trans (hb2.mono HB1.out.size))
  have HX2 := Lib.hid ((hb2.block _ (block_lt HX1.out)).trans HX1.out)
  have K2 := Lib.hid (K1.out.below hb2)
  have HP1 := Lib.hid (rec_put_calls _ x dim [] w2 K2.out)
  clear hb2 HR1 c0 c1 c2 c3 c4 c5
  generalize hq1 : putRec x dim = q1 at *
  obtain ⟨s1, e1⟩ := q1
  have HQ1 := Lib.hid hq1
  clear hq1
  simp only at HP1
  go_wp2_with fail
  refine HP1.out.mono ?_
  rintro e w3 ⟨rfl, hb3⟩
  have HB3 := Lib.hid (HB2.out.trans (hb3.mono HB2.out.size))
  have HX3 := Lib.hid ((hb3.block _ (block_lt HX2.out)).trans HX2.out)
  have K3 := Lib.hid (K2.out.below hb3)
  clear hb3 HP1 HB2 HX2 K2 HB1 HX1 K1
  by_cases he1 : e1 = 0
  case' pos =>
    subst he1
    obtain ⟨p1, p2, p3, p4, p5⟩ := putRec_ok (x := x) (dim := dim) (by rw [HQ1.out])
    have hsz1 : (s1.size : Int) = 13 + 4 * dim := by rw [HQ1.out] at p4; simp only at p4; rw [p4, strOfNums_size]; exact p5
    have HG := Lib.hid (rec_get_calls s1 dim (by omega) w3)
    have HGP := Lib.hid (getRec_put (x := x) (dim := dim) (s := s1) HQ1.out)
    have HZ : Hid (∀ W, Calls Try.prog 16 #[.int .i64 dim] W fun e w' => e = .returned (.int .i64 (s1.size : Int)) ∧ W = w') := Lib.hid (fun W => by
      have := size_calls dim W
      rw [if_neg (by omega), ← hsz1] at this
      exact this)
    clear p1 p2 p3 p4 p5 hsz1
    go_wp2_with fail
    refine HG.out.mono ?_
    rintro e w4 ⟨vn, g, er, hge, rfl, hg, hb4⟩
    rw [HGP.out] at hge
    obtain ⟨rfl, rfl⟩ := Prod.mk.inj hge
    clear hge
    obtain ⟨ao4, cap4, rfl, hl4, hcap4⟩ := slice_form' hg.normal
    unfold maxLen at hcap4
    obtain ⟨W5, hW5⟩ : ∃ W5, w4.alloc (rwObj (.slice ao4 x.pl.normal.length cap4) x 31) = W5 := ⟨_, rfl⟩
    have hu5 : Upd [] w4 W5 := by rw [← hW5]; exact Upd.alloc [] w4 _
    have hg5 : W5.heap[w4.heap.size]? = some (rwObj (.slice ao4 x.pl.normal.length cap4) x 31) := by rw [← hW5]; exact Go.heap_alloc_new w4 _
    unfold rwObj at hW5
    have HB5 := Lib.hid (HB3.out.trans ((hb4.trans (hu5.below.mono hb4.size)).mono HB3.out.size))
    have HX5 := Lib.hid (upd_far hu5 ((hb4.block _ (block_lt HX3.out)).trans HX3.out) (by simp))
    have K5 := Lib.hid ((K3.out.below hb4).below hu5.below)
    have L5 := Lib.hid (hg.below hu5.below)
    have HG5 := Lib.hid hg5
    have hlx5 := block_lt HX5.out
    have hlg5 := block_lt HG5.out
    have HK : Hid (∀ W, Upd [] W5 W → Calls Try.prog 15 #[.agg #[.bool x.leaf, .int .i64 x.count, .int .i64 x.place, .slice ao4 x.pl.normal.length cap4, .int .i64 x.pl.off, .int .i64 x.right]] W
      fun e w' => e = .returned (.agg #[.bool x.leaf, .int .i64 x.count, .int .i64 x.place, .slice ao4 x.pl.normal.length cap4, .int .i64 x.pl.off, .int .i64 x.right]) ∧ Below W.heap.size W w') := Lib.hid (fun W hu => back_calls _ x [] W (L5.out.below hu.below))
    have HS : Hid (∀ W, Upd [] W5 W → Calls Try.prog 14 #[.agg #[.bool x.leaf, .int .i64 x.count, .int .i64 x.place, .slice ao4 x.pl.normal.length cap4, .int .i64 x.pl.off, .int .i64 x.right], .agg #[.bool x.leaf, .int .i64 x.count, .int .i64 x.place, .slice ao1 x.pl.normal.length cap1, .int .i64 x.pl.off, .int .i64 x.right]] W
      fun e w' => e = .returned (.bool true) ∧ Below W.heap.size W w') := Lib.hid (fun W hu => by
        have := ref15_same_calls _ _ x x [] W (L5.out.below hu.below) (K5.out.below hu.below)
        rw [decide_eq_true rfl] at this
        exact this)
    obtain ⟨c0, c1, c2, c3, c4, c5⟩ := rw_cells HX5.out
    obtain ⟨d0, d1, d2, d3, d4, d5⟩ := rw_cells HG5.out
    have hne : ((s1.size : Int) != (s1.size : Int)) = false := by simp
    clear hu5 hb4 hg hg5 HG HGP HB3 HX3 K3
    go_wp2_with fail
    go_region_held3 (fun w' => w'.cell? ⟨w.heap.size, 0, none⟩ = some (.bool x.leaf) ∧ w'.cell? ⟨w.heap.size, 1, none⟩ = some (.int .i64 x.count) ∧ w'.cell? ⟨w.heap.size, 2, none⟩ = some (.int .i64 x.place) ∧ w'.cell? ⟨w.heap.size, 3, none⟩ = some (.slice ao1 x.pl.normal.length cap1) ∧
        w'.cell? ⟨w.heap.size, 4, none⟩ = some (.int .i64 x.pl.off) ∧ w'.cell? ⟨w.heap.size, 5, none⟩ = some (.int .i64 x.right) ∧ w'.cell? ⟨w4.heap.size, 0, none⟩ = some (.bool x.leaf) ∧ w'.cell? ⟨w4.heap.size, 1, none⟩ = some (.int .i64 x.count) ∧
        w'.cell? ⟨w4.heap.size, 2, none⟩ = some (.int .i64 x.place) ∧ w'.cell? ⟨w4.heap.size, 3, none⟩ = some (.slice ao4 x.pl.normal.length cap4) ∧ w'.cell? ⟨w4.heap.size, 4, none⟩ = some (.int .i64 x.pl.off) ∧ w'.cell? ⟨w4.heap.size, 5, none⟩ = some (.int .i64 x.right))
      (first | exact ⟨q0, q1, q2, q3, q4, q5, r0, r1, r2, r3, r4, r5⟩ | exact ⟨k0, k1, k2, k3, k4, k5, m0, m1, m2, m3, m4, m5⟩ | exact ⟨c0, c1, c2, c3, c4, c5, d0, d1, d2, d3, d4, d5⟩ | go_keep)
      (first
        | (go_at_call 15
           refine (HK.out _ (Upd.drewN [] W5 _)).mono ?_
           rintro e w6 ⟨rfl, hb6⟩
           have hu6 : Upd [] W5 w6 := (Upd.drewN [] W5 1).trans (Upd.ofBelow hb6 [])
           have HU6 := Lib.hid hu6
           have HB6 := Lib.hid (HB5.out.trans (hu6.below.mono HB5.out.size))
           obtain ⟨k0, k1, k2, k3, k4, k5⟩ := rw_cells (upd_far hu6 HX5.out (by simp))
           obtain ⟨m0, m1, m2, m3, m4, m5⟩ := rw_cells (upd_far hu6 HG5.out (by simp))
           have hlx6 := block_lt (upd_far hu6 HX5.out (by simp))
           have hlg6 := block_lt (upd_far hu6 HG5.out (by simp))
           clear hb6 hu6)
        | (go_at_call 14
           refine (HS.out _ HU6.out).mono ?_
           rintro e w7 ⟨rfl, hb7⟩
           have hu7 : Upd [] W5 w7 := HU6.out.trans (Upd.ofBelow hb7 [])
           have HU7 := Lib.hid hu7
           have HB7 := Lib.hid (HB5.out.trans (hu7.below.mono HB5.out.size))
           obtain ⟨q0, q1, q2, q3, q4, q5⟩ := rw_cells (upd_far hu7 HX5.out (by simp))
           obtain ⟨r0, r1, r2, r3, r4, r5⟩ := rw_cells (upd_far hu7 HG5.out (by simp))
           clear hb7 hu7)
        | (go_at_call 16
           refine (HZ.out _).mono ?_
           rintro e w8 ⟨rfl, rfl⟩))
    go_wp2_with fail
    clear q0 q1 q2 q3 q4 q5 r0 r1 r2 r3 r4 r5 k0 k1 k2 k3 k4 k5 m0 m1 m2 m3 m4 m5 c0 c1 c2 c3 c4 c5 d0 d1 d2 d3 d4 d5 HK HS HZ hne hlx5 hlg5 hlx6 hlg6 hW5
    have HBt := HB7
    clear HB7 HB6 HU6 HU7 HB5 HX5 K5 L5 HG5
    rename World => wt
  case' neg =>
    have he1b : (e1 == 0) = false := by simpa using he1
    have hs1 : s1 = ⟨#[]⟩ := by have := putRec_bad (x := x) (dim := dim) (by rw [HQ1.out]; exact he1); rw [HQ1.out] at this; exact this
    subst hs1
    clear he1
    have HBt := HB3
    go_wp2_with fail
    clear HB3
    rename World => wt
  all_goals
    have HGs := Lib.hid (rec_get_calls s dim (by omega) wt)
    refine HGs.out.mono ?_
    rintro e wa ⟨vn, g, er, hge, rfl, hg, hba⟩
    obtain ⟨aog, capg, rfl, hlg, hcapg⟩ := slice_form' hg.normal
    unfold maxLen at hcapg
    obtain ⟨Wb, hWb⟩ : ∃ W, wa.alloc (rwObj (.slice aog g.pl.normal.length capg) g 31) = W := ⟨_, rfl⟩
    have hub : Upd [] wa Wb := by rw [← hWb]; exact Upd.alloc [] wa _
    have hgb : Wb.heap[wa.heap.size]? = some (rwObj (.slice aog g.pl.normal.length capg) g 31) := by rw [← hWb]; exact Go.heap_alloc_new wa _
    unfold rwObj at hWb
    have HBb := Lib.hid (HBt.out.trans ((hba.trans (hub.below.mono hba.size)).mono HBt.out.size))
    have Lb := Lib.hid (hg.below hub.below)
    obtain ⟨u0, u1, u2, u3, u4, u5⟩ := rw_cells hgb
    have HGE := Lib.hid hge
    clear hge hg hba hub hgb HBt HGs
    by_cases her : er = 0
    · subst her
      have HP2 := rec_put_calls _ g dim [] Wb Lb.out
      rw [putRec_get HGE.out] at HP2
      have HPP := Lib.hid HP2
      have hss : (s.toList == s.toList) = true := by simp
      clear HP2
      go_wp2_with fail
      refine HPP.out.mono ?_
      rintro e wc ⟨rfl, hbc⟩
      have HBc := Lib.hid (HBb.out.trans (hbc.mono HBb.out.size))
      clear hbc HPP
      go_wp2_with fail
      go_ret
      exact ⟨rfl, HBc.out⟩
    · have HGN := Lib.hid (getRec_bad HGE.out her)
      have herb : (er != 0) = true := by simpa using her
      have HBK := Lib.hid (back_calls _ g [] Wb Lb.out)
      clear her
      go_wp2_with fail
      refine HBK.out.mono ?_
      rintro e wc ⟨rfl, hbc⟩
      have HBc := Lib.hid (HBb.out.trans (hbc.mono HBb.out.size))
      have HSS := ref15_same_calls _ _ g noRw [] wc (Lb.out.below hbc) (noRw_at _ _)
      rw [decide_eq_true HGN.out] at HSS
      have HSS' := Lib.hid HSS
      clear hbc HBK HSS u0 u1 u2 u3 u4 u5
      simp only [noRw] at HSS'
      go_wp2_with fail
      refine HSS'.out.mono ?_
      rintro e wd ⟨rfl, hbd⟩
      have HBd := Lib.hid (HBc.out.trans (hbd.mono HBc.out.size))
      clear hbd HSS'
      go_wp2_with fail
      go_ret
      exact ⟨rfl, HBd.out⟩

theorem RecordBack_walk (s1 : Array Value) (x : Rw) (s : ByteArray) (dim : Int) (w : World) (h1 : kRw.At [] w s1.toList x) (z1 : x.small) (h2 : s.size ≤ 140737488351232) (hd : (Lit.int .i64 dim).wf = true) :
    Calls Try.prog 4 #[.agg s1, .string s, .int .i64 dim] w fun e w' => e = .returned (.bool true) ∧ Below w.heap.size w w' := by
  obtain ⟨v1, rfl, k1⟩ := rw_arr h1
  exact recordBack_calls v1 x s dim w k1

end Go.Proofs.Ytfkmkhojedfccaa
