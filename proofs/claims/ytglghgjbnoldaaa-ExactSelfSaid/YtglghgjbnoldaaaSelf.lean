/-
The law ExactSelf.
-/
import Derived.Test.YtglghgjbnoldaaaSelfP
namespace Go.Proofs.Ytglghgjbnoldaaa
set_option linter.unusedVariables false
set_option linter.unusedSimpArgs false
open Go.RowKit

set_option maxHeartbeats 8000000 in
set_option maxRecDepth 100000 in
theorem exactSelf_calls (dim : Int) (lv : Value) (L : List (List Int)) (id : Int) (w : World) (hL : (Kd.int .i32).slice.slice.At [] w [lv] L)
    (hs : ∀ x ∈ L, x.length ≤ 70368744177664) (hid : (Lit.int .i64 id).wf = true) :
    Calls Try.prog 7 #[.int .i64 dim, lv, .int .i64 id] w fun e w' => e = .returned (.bool true) ∧ Below w.heap.size w w' := by
  have HA := Lib.hid (awake22_calls w)
  have H1 := Lib.hid hL
  have HS := Lib.hid hs
  obtain ⟨al, cl, rfl, hl1, hl2⟩ := Kd.slice_form hL
  unfold maxLen at hl2
  clear hL hs
  go_enter Try.func7, Try.ntmps7
  go_wp2_with fail
  refine HA.out.mono ?_
  rintro e w1 ⟨rfl, hb1⟩
  have HB1 := Lib.hid hb1
  have HSO := Lib.hid (some_calls dim _ L [] w1 (H1.out.below hb1) HS.out)
  clear hb1 HA
  go_wp2_with fail
  refine HSO.out.mono ?_
  rintro e w2 ⟨hb2, ⟨hok, rfl⟩ | ⟨hok, p, rfl, hits⟩⟩
  · have HB2 := Lib.hid (HB1.out.trans (hb2.mono HB1.out.size))
    clear hok hb2
    go_wp2_with fail
    go_ret
    exact ⟨rfl, HB2.out⟩
  have HB2 := Lib.hid (HB1.out.trans (hb2.mono HB1.out.size))
  have HIT := Lib.hid hits
  have hLn := hits.n
  clear hok hb2 hits HSO
  by_cases q1 : id < 0
  · go_wp2_with fail
    go_ret
    exact ⟨rfl, HB2.out⟩
  by_cases q2 : (L.length : Int) ≤ id
  · go_wp2_with fail
    go_ret
    exact ⟨rfl, HB2.out⟩
  obtain ⟨n, rfl⟩ : ∃ n : Nat, id = (n : Int) := ⟨id.toNat, by omega⟩
  obtain ⟨v, hv⟩ : ∃ v, L[n]? = some v := ⟨_, List.getElem?_eq_getElem (by omega)⟩
  have HLV := Lib.hid hv
  have HL2 := Lib.hid (H1.out.below HB2.out)
  obtain ⟨bl, ol, cl', vl, hvl, hbl, _, _, _, gl, hyi⟩ := lists_at HL2.out hv
  simp at hvl
  obtain ⟨rfl, rfl⟩ := hvl
  obtain ⟨av, cv, rfl, _, _⟩ := Kd.slice_form hyi
  have n0 : (0 : Int) ≤ (n : Int) := by omega
  have n1 : (n : Int) < (L.length : Int) := by omega
  have HYI := Lib.hid hyi
  have hvc := HIT.out.ok v (List.mem_of_getElem? hv)
  have HLL := Lib.hid (show 0 < L.length by omega)
  have hex : exCheck L.length dim v 1 = 0 := by
    unfold exCheck
    rw [if_neg (by omega), if_neg (by rw [hvc]; simp), if_neg (by omega)]
  have HBR := Lib.hid (brute_ok w2 [] p dim L 1 _ v HIT.out HYI.out hex (by decide))
  clear hex hvc hyi hv
  go_wp2_with fail
  refine HBR.out.mono ?_
  rintro e w3 ⟨v3, out3, rfl, hr3, hch3, hb3⟩
  obtain ⟨m, hout, hmn, hm, hpre⟩ := self_law HIT.out.ok HLV.out hch3.rank
  have HB3 := Lib.hid (HB2.out.trans (hb3.mono HB2.out.size))
  have u3 : Upd [] w2 w3 := Upd.ofBelow hb3 []
  have HL3 := Lib.hid (HL2.out.upd u3 (by simp) (M' := []) (fun k hk => .inl hk))
  have HY3 := Lib.hid (HYI.out.upd u3 (by simp) (M' := []) (fun k hk => .inl hk))
  have gl3 : w3.cell? ⟨bl, ol + n, none⟩ = some (.slice av v.length cv) := (u3.cell (a := ⟨bl, _, none⟩) hbl (by simp)).trans gl
  have hbl3 : bl < w3.heap.size := Nat.lt_of_lt_of_le hbl u3.size
  subst hout
  obtain ⟨b, o, c3, hv3, hb3w, _, _, _, _, hc0, hc1⟩ := rs_at (hr3.read (M := []) (by simp)) (i := 0) rfl
  subst hv3
  simp only [Nat.zero_mul, Nat.add_zero, List.length_singleton] at hc0 hc1
  have HP := Lib.hid hpre
  have HM := Lib.hid hm
  have m1 : (m : Int) < (L.length : Int) := by omega
  have m2 : ¬ (n : Int) < (m : Int) := by omega
  clear hr3 hch3 hb3 HBR u3 hpre hm gl hbl
  rw [show ([⟨(m : Int), 0⟩] : List Rs).length = 1 from rfl]
  go_wp2_with fail
  simp only [show decide ((n : Int) < (m : Int)) = false by simp; omega, show decide (n < m) = false by simp; omega, Bool.false_or]
  go_loopw [11] (fun iv wr => ∃ i : Nat, i ≤ m ∧ iv = .int .i64 (i : Int) ∧ Hid (Upd [] w3 wr)) (fun iv _ => m - (intOf iv).toNat)
  case atStart => exact ⟨0, Nat.zero_le _, rfl, Lib.hid (Upd.refl [] w3)⟩
  case round =>
    obtain ⟨i, hi, rfl, hu⟩ := hrel
    have g0 : wr.cell? ⟨b, o, none⟩ = some (.int .i64 (m : Int)) := (hu.out.cell (a := ⟨b, _, none⟩) hb3w (by simp)).trans hc0
    have gn : wr.cell? ⟨bl, ol + n, none⟩ = some (.slice av v.length cv) := (hu.out.cell (a := ⟨bl, _, none⟩) hbl3 (by simp)).trans gl3
    have HLR := Lib.hid (HL3.out.upd hu.out (by simp) (M' := []) (fun k hk => .inl hk))
    have HYR := Lib.hid (HY3.out.upd hu.out (by simp) (M' := []) (fun k hk => .inl hk))
    by_cases hlt : i < m
    · obtain ⟨y, hy⟩ : ∃ y, L[i]? = some y := ⟨_, List.getElem?_eq_getElem (by omega)⟩
      have hne := HP.out i y hlt hy
      obtain ⟨bl2, ol2, cl2, vl2, hvl2, hblr, _, _, _, gi, hyi⟩ := lists_at HLR.out hy
      simp at hvl2
      obtain ⟨⟨rfl, rfl⟩, rfl⟩ := hvl2
      obtain ⟨ay, cy, rfl, _, _⟩ := Kd.slice_form hyi
      have HYI := Lib.hid hyi
      have HSM := Lib.hid (fun q => by
        have := ref03_same_calls (.slice ay y.length cy) (.slice av v.length cv) y v [] (wr.drewN q) (HYI.out.upd (Upd.drewN [] wr q) (by simp) (fun k hk => .inl hk)) (HYR.out.upd (Upd.drewN [] wr q) (by simp) (fun k hk => .inl hk))
        rw [hne] at this
        exact this)
      have FC : Hid (∀ W, Upd [] wr W → W.cell? ⟨bl, ol + i, none⟩ = some (.slice ay y.length cy) ∧ W.cell? ⟨bl, ol + n, none⟩ = some (.slice av v.length cv)) := Lib.hid (fun W hu => ⟨(hu.cell (a := ⟨bl, _, none⟩) hblr (by simp)).trans gi, (hu.cell (a := ⟨bl, _, none⟩) hblr (by simp)).trans gn⟩)
      have i0 : (0 : Int) ≤ (i : Int) := by omega
      have i1 : (i : Int) < (L.length : Int) := by omega
      have i2 : (i : Int) < (m : Int) := by omega
      clear hy hne hyi
      go_wp2_with fail
      go_region_held3 (fun w' => w'.cell? ⟨bl, ol + i, none⟩ = some (.slice ay y.length cy) ∧ w'.cell? ⟨bl, ol + n, none⟩ = some (.slice av v.length cv))
        (first | go_keep | exact ⟨gi, gn⟩ | exact FC.out _ (Upd.drewN [] wr _))
        (first
          | (go_at_call 21
             refine (HSM.out _).mono ?_
             rintro e w5 ⟨rfl, q, rfl⟩))
      go_wp2_with fail
      go_roundw
      case rel => exact ⟨i + 1, by omega, by go_num, Lib.hid (hu.out.trans (Upd.drewN [] wr _))⟩
      case measure => simp [intOf]; omega
    · have him : i = m := by omega
      subst him
      obtain ⟨bl2, ol2, cl2, vl2, hvl2, hblr, _, _, _, gi, hyi⟩ := lists_at HLR.out HM.out
      simp at hvl2
      obtain ⟨⟨rfl, rfl⟩, rfl⟩ := hvl2
      obtain ⟨ay, cy, rfl, _, _⟩ := Kd.slice_form hyi
      have HYI := Lib.hid hyi
      have HSM := Lib.hid (fun q => by
        have := ref03_same_calls (.slice ay v.length cy) (.slice av v.length cv) v v [] (wr.drewN q) (HYI.out.upd (Upd.drewN [] wr q) (by simp) (fun k hk => .inl hk)) (HYR.out.upd (Upd.drewN [] wr q) (by simp) (fun k hk => .inl hk))
        rw [beq_self_eq_true] at this
        exact this)
      have FC : Hid (∀ W, Upd [] wr W → W.cell? ⟨b, o, none⟩ = some (.int .i64 (i : Int)) ∧ W.cell? ⟨bl, ol + i, none⟩ = some (.slice ay v.length cy) ∧ W.cell? ⟨bl, ol + n, none⟩ = some (.slice av v.length cv)) := Lib.hid (fun W hu2 => ⟨(hu2.cell (a := ⟨b, _, none⟩) (Nat.lt_of_lt_of_le hb3w hu.out.size) (by simp)).trans g0, (hu2.cell (a := ⟨bl, _, none⟩) hblr (by simp)).trans gi, (hu2.cell (a := ⟨bl, _, none⟩) hblr (by simp)).trans gn⟩)
      have i0 : (0 : Int) ≤ (i : Int) := by omega
      clear hyi
      go_wp2_with fail
      go_region_held3 (fun w' => w'.cell? ⟨b, o, none⟩ = some (.int .i64 (i : Int)) ∧ w'.cell? ⟨bl, ol + i, none⟩ = some (.slice ay v.length cy) ∧ w'.cell? ⟨bl, ol + n, none⟩ = some (.slice av v.length cv))
        (first | go_keep | exact ⟨g0, gi, gn⟩ | exact FC.out _ (Upd.drewN [] wr _))
        (first
          | (go_at_call 21
             refine (HSM.out _).mono ?_
             rintro e w5 ⟨rfl, q, rfl⟩))
      go_wp2_with fail
      go_ret
      exact ⟨rfl, HB3.out.trans ((hu.out.trans (Upd.drewN [] wr _)).below.mono HB3.out.size)⟩

theorem ExactSelf_walk (dim : Int) (lv : Value) (L : List (List Int)) (id : Int) (w : World) (hd : (Lit.int .i64 dim).wf = true) (hL : (Kd.int .i32).slice.slice.At [] w [lv] L) (hs : L.length * Try.prog.bytesOf 23 ≤ reachBytes ∧ ∀ x ∈ L, x.length * Try.prog.bytesOf 21 ≤ reachBytes ∧ ∀ y ∈ x, True) (hid : (Lit.int .i64 id).wf = true) :
    Calls Try.prog 7 #[.int .i64 dim, lv, .int .i64 id] w fun e w' => e = .returned (.bool true) ∧ Below w.heap.size w w' :=
  exactSelf_calls dim lv L id w hL (rows_small (by kernel_rfl) hs) hid

end Go.Proofs.Ytglghgjbnoldaaa
