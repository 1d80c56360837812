/-
The law ExactRanks.
-/
import Derived.Test.YtglghgjbnoldaaaLaw22
import Derived.Test.YtglghgjbnoldaaaOpenS
namespace Go.Proofs.Ytglghgjbnoldaaa
set_option linter.unusedVariables false
set_option linter.unusedSimpArgs false
open Go.RowKit

set_option maxHeartbeats 8000000 in
set_option maxRecDepth 100000 in
theorem exactRanks_calls (dim : Int) (lv : Value) (L : List (List Int)) (vv : Value) (v : List Int) (k : Int) (iv : Value) (ids : List Int) (w : World) (hL : (Kd.int .i32).slice.slice.At [] w [lv] L) (hv : (Kd.int .i32).slice.At [] w [vv] v) (hi : (Kd.int .i64).slice.At [] w [iv] ids)
    (hs : ∀ x ∈ L, x.length ≤ 70368744177664) (hk : (Lit.int .i64 k).wf = true) :
    Calls Try.prog 3 #[.int .i64 dim, lv, vv, .int .i64 k, iv] w fun e w' => e = .returned (.bool true) ∧ Below w.heap.size w w' := by
  have HA := Lib.hid (awake22_calls w)
  have H1 := Lib.hid hL
  have H2 := Lib.hid hv
  have H3 := Lib.hid hi
  have HS := Lib.hid hs
  obtain ⟨al, cl, rfl, hl1, hl2⟩ := Kd.slice_form hL
  obtain ⟨av, cv, rfl, hv1, hv2⟩ := Kd.slice_form hv
  obtain ⟨ai, ci, rfl, hi1, hi2⟩ := Kd.slice_form hi
  unfold maxLen at hl2 hv2 hi2
  clear hL hv hi hs
  go_enter Try.func3, Try.ntmps3
  go_wp2_with fail
  refine HA.out.mono ?_
  rintro e w1 ⟨rfl, hb1⟩
  have HB1 := Lib.hid hb1
  have HSO := Lib.hid (some_calls dim _ L [] w1 (H1.out.below hb1) HS.out)
  clear hb1 HA
  go_wp2_with fail
  refine HSO.out.mono ?_
  rintro e w2 ⟨hb2, ⟨hok, rfl⟩ | ⟨hok, p, rfl, hits⟩⟩
  · have HB2 := Lib.hid (HB1.out.trans (hb2.mono HB1.out.size))
    clear hok hb2
    go_wp2_with fail
    go_ret
    exact ⟨rfl, HB2.out⟩
  have HB2 := Lib.hid (HB1.out.trans (hb2.mono HB1.out.size))
  have HIT := Lib.hid hits
  have hLn := hits.n
  clear hok hb2 hits HSO
  by_cases q1 : 2000 < v.length
  · have q1' : (2000 : Int) < (v.length : Int) := by omega
    go_wp2_with fail
    go_ret
    exact ⟨rfl, HB2.out⟩
  by_cases q2 : 200 < ids.length
  · have q2' : (200 : Int) < (ids.length : Int) := by omega
    have q1' : ¬ (2000 : Int) < (v.length : Int) := by omega
    go_wp2_with fail
    go_ret
    exact ⟨rfl, HB2.out⟩
  have q1' : ¬ (2000 : Int) < (v.length : Int) := by omega
  have q2' : ¬ (200 : Int) < (ids.length : Int) := by omega
  have HV2 := Lib.hid (H2.out.below HB2.out)
  have HI2 := Lib.hid (H3.out.below HB2.out)
  obtain ⟨c, hc⟩ : ∃ c, exCheck L.length dim v k = c := ⟨_, rfl⟩
  have HC := Lib.hid hc
  by_cases hc0 : c = 0
  case' neg =>
    have hcb : (c != 0) = true := by simpa using hc0
    have hcc : (c == c) = true := by simp
    have HRK := rank_bad w2 [] p dim L k _ _ v ids HIT.out HV2.out HI2.out (by rw [hc]; exact hc0)
    rw [hc] at HRK
    have HRK := Lib.hid HRK
    have HNC := Lib.hid (show exCheck L.length dim v k ≠ 0 by rw [hc]; exact hc0)
    clear hc hc0
    go_wp2_with fail
    refine HRK.out.mono ?_
    rintro e w3 ⟨rfl, m3, rfl⟩
    have HBR := brute_bad (w2.drewN m3) [] p dim L k _ v (HIT.out.upd (Upd.drewN [] w2 m3) (by simp) (by simp) (fun k hk => .inl hk)) (HV2.out.upd (Upd.drewN [] w2 m3) (by simp) (fun k hk => .inl hk)) HNC.out
    rw [HC.out] at HBR
    have HBR := Lib.hid HBR
    clear HRK
    go_wp2_with fail
    refine HBR.out.mono ?_
    rintro e w4 ⟨rfl, m4, rfl⟩
    have u4 : Upd [] w2 (w2.drewN (m3 + m4)) := Upd.drewN [] w2 (m3 + m4)
    have HRC := ref22_check_calls (w2.drewN (m3 + m4)) [] dim _ L k _ v ((H1.out.below HB2.out).upd u4 (by simp) (fun k hk => .inl hk)) (HV2.out.upd u4 (by simp) (fun k hk => .inl hk))
    rw [HC.out] at HRC
    have HRC := Lib.hid HRC
    have HEC := exact_check_calls (w2.drewN (m3 + m4)) [] p dim L k _ v (HIT.out.upd u4 (by simp) (by simp) (fun k hk => .inl hk)) (HV2.out.upd u4 (by simp) (fun k hk => .inl hk))
    rw [HC.out] at HEC
    have HEC := Lib.hid HEC
    have HB4 := Lib.hid (HB2.out.trans ((u4.below).mono HB2.out.size))
    clear HBR u4
    go_wp2_with fail
    refine HRC.out.mono ?_
    rintro e w5 ⟨rfl, rfl⟩
    clear HRC
    go_wp2_with fail
    refine HEC.out.mono ?_
    rintro e w6 ⟨rfl, m6, rfl⟩
    go_wp2_with fail
    go_ret
    exact ⟨rfl, HB2.out.trans ((Upd.drewN [] w2 _).below.mono HB2.out.size)⟩
  subst hc0
  have hk0 : 0 ≤ k := by
    unfold exCheck at hc
    split at hc
    · simp at hc
    · split at hc
      · rename_i h; exact absurd hc h
      · split at hc
        · simp at hc
        · omega
  have HRK := Lib.hid (rank_ok w2 [] p dim L k _ _ v ids HIT.out HV2.out HI2.out hc (by omega) hk)
  have HK0 := Lib.hid hk0
  clear hc
  go_wp2_with fail
  refine HRK.out.mono ?_
  rintro e w3 ⟨v3, out3, rfl, hr3, hch3, hb3⟩
  have HB23 := Lib.hid hb3
  have HR3 := Lib.hid (hr3.read (by simp))
  have HE3 := Lib.hid hch3.rank
  obtain ⟨a3, c3, rfl, _, _⟩ := row_form hr3
  have HBR := Lib.hid (brute_ok w3 [] p dim L k _ v (HIT.out.below hb3) (HV2.out.below hb3) HC.out hk)
  clear hr3 hch3 hb3 HRK
  go_wp2_with fail
  refine HBR.out.mono ?_
  rintro e w4 ⟨v4, out4, rfl, hr4, hch4, hb4⟩
  have HB24 := Lib.hid (HB23.out.trans (hb4.mono HB23.out.size))
  have HR3' := Lib.hid (HR3.out.below hb4)
  have HR4 := Lib.hid (hr4.read (by simp))
  have HE4 := Lib.hid hch4.rank
  obtain ⟨a4, c4, rfl, _, _⟩ := row_form hr4
  have HRC := ref22_check_calls w4 [] dim _ L k _ v ((H1.out.below HB2.out).below HB24.out) (HV2.out.below HB24.out)
  rw [HC.out] at HRC
  have HRC := Lib.hid HRC
  have HEC := exact_check_calls w4 [] p dim L k _ v (HIT.out.below HB24.out) (HV2.out.below HB24.out)
  rw [HC.out] at HEC
  have HEC := Lib.hid HEC
  clear hr4 hch4 hb4 HBR
  go_wp2_with fail
  refine HRC.out.mono ?_
  rintro e w5 ⟨rfl, rfl⟩
  clear HRC
  go_wp2_with fail
  refine HEC.out.mono ?_
  rintro e w6 ⟨rfl, m6, rfl⟩
  have u6 : Upd [] w2 (w4.drewN m6) := (Upd.ofBelow HB24.out []).trans (Upd.drewN [] w4 m6)
  have HRR := Lib.hid (rank22_calls _ _ _ L v ids k [] (w4.drewN m6) ((H1.out.below HB2.out).upd u6 (by simp) (fun k hk => .inl hk)) (HV2.out.upd u6 (by simp) (fun k hk => .inl hk)) (HI2.out.upd u6 (by simp) (fun k hk => .inl hk)) (by omega) hLn hk0)
  have HU6 := Lib.hid u6
  clear u6 HEC
  go_wp2_with fail
  refine HRR.out.mono ?_
  rintro e w7 ⟨v7, rfl, hb7, hr7⟩
  have HU7 := Lib.hid (HU6.out.trans (Upd.ofBelow hb7 []))
  have uw : Upd [] w4 w7 := (Upd.drewN [] w4 m6).trans (Upd.ofBelow hb7 [])
  obtain ⟨T, hT⟩ : ∃ T, (sort4 (resOf L v (uniq ids))).take k.toNat = T := ⟨_, rfl⟩
  rw [hT] at hr7
  have hsm := same4_calls _ v7 out3 T [] w7 (HR3'.out.upd uw (by simp) (fun k hk => .inl hk)) hr7
  rw [show decide (out3 = T) = true by rw [← hT]; simpa using HE3.out] at hsm
  have HSM := Lib.hid hsm
  have HUW := Lib.hid uw
  clear hsm uw hT hr7 hb7 HRR
  go_wp2_with fail
  refine HSM.out.mono ?_
  rintro e w8 ⟨rfl, m8, rfl⟩
  have HU8 := Lib.hid (HU7.out.trans (Upd.drewN [] w7 m8))
  have HID := Lib.hid (ids_calls L.length hLn (w7.drewN m8))
  clear HSM
  go_wp2_with fail
  refine HID.out.mono ?_
  rintro e w9 ⟨v9, rfl, hr9, hb9⟩
  have u9 := HU8.out.trans (Upd.ofBelow hb9 [])
  have HR9 := Lib.hid (rank22_calls _ _ v9 L v (idsN L.length) k [] w9 ((H1.out.below HB2.out).upd u9 (by simp) (fun k hk => .inl hk)) (HV2.out.upd u9 (by simp) (fun k hk => .inl hk)) (hr9.read (by simp)) (by rw [idsN_len]; omega) hLn HK0.out)
  have HU9 := Lib.hid u9
  have HUW9 := Lib.hid ((HUW.out.trans (Upd.drewN [] w7 m8)).trans (Upd.ofBelow hb9 []))
  clear u9 hr9 hb9 HID
  go_wp2_with fail
  refine HR9.out.mono ?_
  rintro e w10 ⟨v10, rfl, hb10, hr10⟩
  have uw := HUW9.out.trans (Upd.ofBelow hb10 [])
  have HU10 := Lib.hid (HU9.out.trans (Upd.ofBelow hb10 []))
  obtain ⟨T4, hT⟩ : ∃ T, (sort4 (resOf L v (uniq (idsN L.length)))).take k.toNat = T := ⟨_, rfl⟩
  rw [hT] at hr10
  have hsm := same4_calls _ v10 out4 T4 [] w10 (HR4.out.upd uw (by simp) (fun k hk => .inl hk)) hr10
  rw [show decide (out4 = T4) = true by rw [← hT]; simpa using HE4.out] at hsm
  have HSM := Lib.hid hsm
  clear hsm uw hT hr10 hb10 HR9
  go_wp2_with fail
  refine HSM.out.mono ?_
  rintro e w11 ⟨rfl, m11, rfl⟩
  have HNL := Lib.hid (exact_check_nil (.slice av v.length cv) k (w10.drewN m11))
  clear HSM
  go_wp2_with fail
  refine HNL.out.mono ?_
  rintro e w12 ⟨rfl, rfl⟩
  go_wp2_with fail
  go_ret
  exact ⟨rfl, HB2.out.trans ((HU10.out.trans (Upd.drewN [] w10 m11)).below.mono HB2.out.size)⟩

theorem ExactRanks_walk (dim : Int) (lv : Value) (L : List (List Int)) (vv : Value) (v : List Int) (k : Int) (iv : Value) (ids : List Int) (w : World) (hd : (Lit.int .i64 dim).wf = true) (hL : (Kd.int .i32).slice.slice.At [] w [lv] L) (hs : L.length * Try.prog.bytesOf 23 ≤ reachBytes ∧ ∀ x ∈ L, x.length * Try.prog.bytesOf 21 ≤ reachBytes ∧ ∀ y ∈ x, True) (hv : (Kd.int .i32).slice.At [] w [vv] v) (hk : (Lit.int .i64 k).wf = true) (hi : (Kd.int .i64).slice.At [] w [iv] ids) :
    Calls Try.prog 3 #[.int .i64 dim, lv, vv, .int .i64 k, iv] w fun e w' => e = .returned (.bool true) ∧ Below w.heap.size w w' :=
  exactRanks_calls dim lv L vv v k iv ids w hL hv hi (rows_small (by kernel_rfl) hs) hk

end Go.Proofs.Ytglghgjbnoldaaa
