/-
The document's ranking; exact.Rank and Brute.
-/
import Derived.Test.YtglghgjbnoldaaaTopk
import Derived.Test.YtglghgjbnoldaaaSort4
namespace Go.Proofs.Ytglghgjbnoldaaa
set_option linter.unusedVariables false
set_option linter.unusedSimpArgs false
open Go.RowKit

theorem rs_step {a b : List Rs} {k : Nat} {x y : Rs} (hx : a[k]? = some x) (hy : b[k]? = some y) (h : a.take k = b.take k) (hxy : x = y) : a.take (k + 1) = b.take (k + 1) := by
  rw [take_snoc' hx, take_snoc' hy, h, hxy]

set_option maxHeartbeats 2000000 in
theorem same4_calls (v1 v2 : Value) (a b : List Rs) (M : List Nat) (w : World) (h1 : rsE.kd.slice.At M w [v1] a) (h2 : rsE.kd.slice.At M w [v2] b) :
    Calls Try.prog 14 #[v1, v2] w fun e w' => e = .returned (.bool (decide (a = b))) ∧ ∃ n, w' = w.drewN n := by
  obtain ⟨ao1, cap1, rfl, hl1, hcap1⟩ := Kd.slice_form h1
  obtain ⟨ao2, cap2, rfl, hl2, hcap2⟩ := Kd.slice_form h2
  have H1 := Lib.hid h1
  have H2 := Lib.hid h2
  unfold maxLen at hcap1 hcap2
  clear h1 h2
  by_cases hlen : a.length = b.length
  case' neg =>
    have hd : decide (a = b) = false := by simp; intro e; exact hlen (by rw [e])
    rw [hd]
    have hle : ((a.length : Int) != (b.length : Int)) = true := by simp; omega
    go_enter Try.func14, Try.ntmps14
    go_wp2_with fail
    go_ret
    exact ⟨rfl, 0, rfl⟩
  have hle : ((a.length : Int) != (b.length : Int)) = false := by simp; omega
  have HLE := Lib.hid hlen
  obtain ⟨r, hr⟩ : ∃ r, decide (a = b) = r := ⟨_, rfl⟩
  rw [hr]
  have HR := Lib.hid hr
  clear hr hlen
  go_enter Try.func14, Try.ntmps14
  go_wp2_with fail
  go_loopw [5] (fun i wr => ∃ k q : Nat, k ≤ a.length ∧ i = .int .i64 k ∧ Hid (a.take k = b.take k) ∧ wr = w.drewN q) (fun i _ => a.length - (intOf i).toNat)
  case atStart => exact ⟨0, 0, Nat.zero_le _, rfl, Lib.hid (by simp), rfl⟩
  case round =>
    obtain ⟨k, q, hk, rfl, heq, rfl⟩ := hrel
    by_cases hlt : k < a.length
    · obtain ⟨x, hx⟩ : ∃ x, a[k]? = some x := ⟨_, List.getElem?_eq_getElem hlt⟩
      obtain ⟨y, hy⟩ : ∃ x, b[k]? = some x := ⟨_, List.getElem?_eq_getElem (by have := HLE.out; omega)⟩
      obtain ⟨b1, o1, c1, hv1, _, _, _, _, _, g1, g2⟩ := rs_at H1.out hx
      obtain ⟨b2, o2, c2, hv2, _, _, _, _, _, g3, g4⟩ := rs_at H2.out hy
      simp at hv1 hv2
      obtain ⟨rfl, rfl⟩ := hv1
      obtain ⟨rfl, rfl⟩ := hv2
      have i0 : (0 : Int) ≤ (k : Int) := by omega
      have i1 : (k : Int) < (a.length : Int) := by omega
      have i2 : (k : Int) < (b.length : Int) := by have := HLE.out; omega
      have HX := Lib.hid hx
      have HY := Lib.hid hy
      clear hx hy
      by_cases hxy : x = y
      · subst hxy
        go_wp2_with fail
        go_quiet (fail)
        go_wp2_with fail
        go_roundw
        case rel => exact ⟨k + 1, _, by omega, by go_num, Lib.hid (rs_step HX.out HY.out heq.out rfl), by first | exact World.drewN_drewN .. | rfl⟩
        case measure => simp [intOf]; omega
      · have hF : r = false := by
          rw [← HR.out]
          simp
          intro e
          have hx := HX.out
          rw [e, HY.out] at hx
          exact hxy (Option.some.inj hx).symm
        subst hF
        by_cases hid : x.id = y.id
        · have hfar : ¬ x.far = y.far := fun e => hxy (by cases x; cases y; simp_all)
          have hb1 : (x.id == y.id) = true := by simpa using hid
          have hb2 : (x.far == y.far) = false := by simpa using hfar
          have he := hid
          clear hid hxy
          go_wp2_with fail
          go_quiet (fail)
          go_wp2_with fail
          go_ret
          exact ⟨rfl, _, by first | exact World.drewN_drewN .. | rfl⟩
        · have hb1 : (x.id == y.id) = false := by simpa using hid
          clear hxy
          go_wp2_with fail
          go_quiet (fail)
          go_wp2_with fail
          go_ret
          exact ⟨rfl, _, by first | exact World.drewN_drewN .. | rfl⟩
    · have hT : r = true := by
        rw [← HR.out]
        have e := heq.out
        have hl := HLE.out
        rw [List.take_of_length_le (by omega), List.take_of_length_le (by omega)] at e
        simpa using e
      subst hT
      go_wp2_with fail
      go_ret
      exact ⟨rfl, _, rfl⟩

/-! ### The document's ranking -/
set_option maxHeartbeats 4000000 in
set_option maxRecDepth 100000 in
theorem all22_calls (lv vv iv : Value) (L : List (List Int)) (v ids : List Int) (M : List Nat) (w : World) (hL : (Kd.int .i32).slice.slice.At M w [lv] L) (hv : (Kd.int .i32).slice.At M w [vv] v) (hi : (Kd.int .i64).slice.At M w [iv] ids) (hlen : ids.length ≤ 1048576) (hLn : L.length ≤ 1048576) :
    Calls Try.prog 34 #[lv, vv, iv] w fun e w' => ∃ v', e = .returned v' ∧ Below w.heap.size w w' ∧ Row rsE.kd [] 42 w.heap.size w' v' (sort4 (resOf L v (uniq ids))) := by
  obtain ⟨al, cl, rfl, hl1, hl2⟩ := Kd.slice_form hL
  obtain ⟨av, cv, rfl, hv1, hv2⟩ := Kd.slice_form hv
  obtain ⟨ai, ci, rfl, hi1, hi2⟩ := Kd.slice_form hi
  have HL := Lib.hid hL
  have HV := Lib.hid hv
  have HU := Lib.hid (ref_unique_calls _ ids M w hi (by omega))
  have hul := uniq_len ids
  unfold maxLen at hl2 hv2 hi2
  obtain ⟨i0, hi0, hz0, hz1, hz2⟩ := info_parts infoQRs
  have HI := Lib.hid hi0
  have HZ0 := Lib.hid hz0
  have HZ1 := Lib.hid hz1
  have HZ2 := Lib.hid hz2
  clear hi0 hz0 hz1 hz2 hL hv hi
  obtain ⟨U, hU⟩ : ∃ U, uniq ids = U := ⟨_, rfl⟩
  rw [hU] at HU hul ⊢
  clear hU
  go_enter Try.func34, Try.ntmps34
  go_wp2_with fail
  refine HU.out.mono ?_
  rintro e w1 ⟨vu, rfl, hb1, hru⟩
  obtain ⟨au, cu, rfl, hu1, hu2⟩ := row_form hru
  unfold maxLen at hu2
  have HRU := Lib.hid (hru.read (by simp))
  have HB1 := Lib.hid hb1
  clear hb1 hru HU
  go_wp2_with fail
  go_loopw [7, 9] (fun o i wr => ∃ k : Nat, k ≤ U.length ∧ i = .int .i64 k ∧ Hid (Row rsE.kd [] 42 w1.heap.size wr o (resOf L v (U.take k))) ∧ Hid (Below w1.heap.size w1 wr)) (fun _ i _ => U.length - (intOf i).toNat)
  case atStart => exact ⟨0, Nat.zero_le _, rfl, Lib.hid (Row.nil _ _ _ _ _), Lib.hid (Below.refl _ _)⟩
  case round =>
    obtain ⟨k, hk, rfl, hrow, hb⟩ := hrel
    by_cases hlt : k < U.length
    · obtain ⟨x, hx⟩ : ∃ x, U[k]? = some x := ⟨_, List.getElem?_eq_getElem hlt⟩
      have hsn := resOf_snoc L v (U.take k) x
      rw [← take_snoc' hx] at hsn
      obtain ⟨bu, ou, cu', hvu, hbu, _, _, _, g0, gwf⟩ := ints_at (HRU.out.below hb.out) hx
      simp at hvu
      obtain ⟨rfl, rfl⟩ := hvu
      have hbu1 : bu < w1.heap.size := by
        obtain ⟨b', o', _, hv', hbl', _⟩ := ints_at HRU.out hx
        simp at hv'
        obtain ⟨⟨rfl, _⟩, _⟩ := hv'
        exact hbl'
      have j0 : (0 : Int) ≤ (k : Int) := by omega
      have j1 : (k : Int) < (U.length : Int) := by omega
      clear hx
      by_cases h0 : x < 0
      · rw [if_neg (by omega)] at hsn
        have HSN := Lib.hid hsn
        clear hsn
        go_wp2_with fail
        go_roundw
        case rel => exact ⟨k + 1, by omega, by go_num, by rw [HSN.out]; exact hrow, hb⟩
        case measure => simp [intOf]; omega
      · by_cases h1 : (L.length : Int) ≤ x
        · rw [if_neg (by omega)] at hsn
          have HSN := Lib.hid hsn
          clear hsn
          go_wp2_with fail
          go_roundw
          case rel => exact ⟨k + 1, by omega, by go_num, by rw [HSN.out]; exact hrow, hb⟩
          case measure => simp [intOf]; omega
        · rw [if_pos ⟨by omega, by omega⟩] at hsn
          have HSN := Lib.hid hsn
          obtain ⟨n, rfl⟩ : ∃ n : Nat, x = (n : Int) := ⟨x.toNat, by omega⟩
          obtain ⟨y, hy⟩ : ∃ y, L[n]? = some y := ⟨_, List.getElem?_eq_getElem (by omega)⟩
          clear hsn
          have hwr : w.heap.size ≤ wr.heap.size := Nat.le_trans HB1.out.size hb.out.size
          have hu0 : Upd [] w wr := Upd.ofBelow (HB1.out.trans (hb.out.mono HB1.out.size)) []
          obtain ⟨bl, ol, cl', vl, hvl, hbl, _, _, _, gl, hyi⟩ := lists_at (HL.out.upd hu0 (by simp) (fun k hk => .inl hk)) hy
          simp at hvl
          obtain ⟨rfl, rfl⟩ := hvl
          have hbl1 : bl < w.heap.size := by
            obtain ⟨b', o', _, _, hv', hbl', _⟩ := lists_at HL.out hy
            simp at hv'
            obtain ⟨⟨rfl, _⟩, _⟩ := hv'
            exact hbl'
          have hw1 := HB1.out.size
          obtain ⟨ay, cy, rfl, _, _⟩ := Kd.slice_form hyi
          have HVW := Lib.hid (HV.out.upd hu0 (by simp) (M' := M) (fun k hk => .inl hk))
          have HYI := Lib.hid hyi
          have hfa : farAt L (n : Int) v = farI y v := by
            unfold farAt
            rw [if_neg (by omega)]
            simp [hy]
          rw [hfa] at HSN
          have HFAR := Lib.hid (fun q => ref03_far_calls (.slice ay y.length cy) (.slice av v.length cv) y v M (wr.drewN q) (HYI.out.upd (Upd.drewN [] wr q) (by simp) (fun k hk => .inl hk)) (HVW.out.upd (Upd.drewN [] wr q) (by simp) (fun k hk => .inl hk)))
          have hwf : rsE.ok ⟨(n : Int), farI y v⟩ := ⟨gwf, farI_wf y v⟩
          have HWF := Lib.hid hwf
          obtain ⟨f, hf⟩ : ∃ f, farI y v = f := ⟨_, rfl⟩
          rw [hf] at HSN HFAR HWF
          have FC : Hid (∀ W, Upd [] wr W → W.cell? ⟨bu, ou + k, none⟩ = some (.int .i64 (n : Int)) ∧ W.cell? ⟨bl, ol + n, none⟩ = some (.slice ay y.length cy)) := Lib.hid (fun W hu => ⟨(hu.cell (a := ⟨bu, _, none⟩) hbu (by simp)).trans g0, (hu.cell (a := ⟨bl, _, none⟩) hbl (by simp)).trans gl⟩)
          have n0 : (0 : Int) ≤ (n : Int) := by omega
          have n1 : (n : Int) < (L.length : Int) := by omega
          have hrl : (resOf L v (U.take k)).length ≤ 1048576 := by
            unfold resOf
            rw [List.length_map]
            have := List.length_filter_le (fun i => decide (0 ≤ i) && decide (i < (L.length : Int))) (U.take k)
            rw [List.length_take] at this
            omega
          have hrow' := hrow
          generalize resOf L v (U.take k) = out at *
          have hvo := hrow.out.ob_lt
          clear hy hu0 hyi hfa hwf hf gwf hrow'
          go_wp2_with fail
          go_region_held3 (fun w' => w'.cell? ⟨bu, ou + k, none⟩ = some (.int .i64 (n : Int)) ∧ w'.cell? ⟨bl, ol + n, none⟩ = some (.slice ay y.length cy))
            (first | go_keep | exact ⟨g0, gl⟩ | exact FC.out _ (Upd.drewN [] wr _) | exact ⟨m0, m1⟩)
            (first
              | (go_at_call 17
                 refine (HFAR.out _).mono ?_
                 rintro e w5 ⟨rfl, q, rfl⟩)
              | (refine step_row_append rfl (.tmp 32) (.tmp 47) _ rfl (K := rsE.kd) (M := []) (B := w1.heap.size) (l := out) (l2 := [⟨(n : Int), f⟩]) (v := u7) (u := .slice (some ⟨_, 0, none⟩) 1 1) rfl rfl ?_ Try.underlying29 HI.out HZ0.out HZ1.out HZ2.out rfl (by decide) ?_ ?_ ?_ ?_ ?_
                 · exact (hrow.out.upd (Upd.drewN [] wr _) (by simp) (by simp) (M' := []) (by simp)).upd (Upd.alloc [] _ _) (by simp) (by simp) (M' := []) (by simp)
                 · exact rs_one (x := ⟨(n : Int), f⟩) (Go.heap_alloc_new _ _) (fun hm => by have hq := (hvo _ (by simpa using hm)).2; simp at hq) HWF.out
                 · (simp [maxLen]; omega)
                 · (simp; omega)
                 · (simp; have := hb.out.size; omega)
                 intro v7 w7 hr7 hv7 ho7
                 have hu7 : Upd (ob u7) wr w7 := Upd.trans (Upd.trans (Upd.drewN _ wr _) (Upd.alloc _ _ _)) hv7
                 have m0 : w7.cell? ⟨bu, ou + k, none⟩ = some (.int .i64 (n : Int)) := (hu7.cell (a := ⟨bu, _, none⟩) hbu (fun hm => by have := (hvo _ hm).1; simp at this; omega)).trans g0
                 have m1 : w7.cell? ⟨bl, ol + n, none⟩ = some (.slice ay y.length cy) := (hu7.cell (a := ⟨bl, _, none⟩) hbl (fun hm => by have := (hvo _ hm).1; simp at this; omega)).trans gl
                 have HR7 := Lib.hid hr7
                 have HU7 := Lib.hid hu7))
          have HB7 : Hid (Below w1.heap.size w1 w7) := Lib.hid (hb.out.trans (HU7.out.belowB hb.out.size (fun k hk => (hvo k hk).1)))
          clear m0 m1 hr7 hv7 ho7 hu7
          go_wp2_with fail
          go_roundw
          case rel => exact ⟨k + 1, by omega, by go_num, by rw [HSN.out]; exact HR7, HB7⟩
          case measure => simp [intOf]; omega
    · have hkU : k = U.length := by omega
      have HROW : Hid (Row rsE.kd [] 42 w1.heap.size wr u7 (resOf L v U)) := Lib.hid (by
        have := hrow.out
        rw [hkU, List.take_length] at this
        exact this)
      have hrl : (resOf L v U).length ≤ 1048576 := by
        unfold resOf
        rw [List.length_map]
        have := List.length_filter_le (fun i => decide (0 ≤ i) && decide (i < (L.length : Int))) U
        omega
      obtain ⟨out, hout⟩ : ∃ out, resOf L v U = out := ⟨_, rfl⟩
      rw [hout] at HROW hrl
      have HOUT := Lib.hid hout
      clear hrow hkU hout
      obtain ⟨ao, co, rfl, _, _⟩ := row_form HROW.out
      have HS4 := Lib.hid (sort4_calls _ out [] wr (HROW.out.read (by simp)) hrl)
      have HBW : Hid (Below w.heap.size w wr) := Lib.hid (HB1.out.trans (hb.out.mono HB1.out.size))
      clear HROW
      go_wp2_with fail
      refine HS4.out.mono ?_
      rintro e w9 ⟨v9, rfl, hb9, hr9⟩
      have HR9 := Lib.hid (hr9.base HBW.out.size)
      have HB9 := Lib.hid (HBW.out.trans (hb9.mono HBW.out.size))
      obtain ⟨a9, c9, rfl, _, _⟩ := row_form hr9
      clear hr9 hb9 HS4
      go_wp2_with fail
      go_ret
      exact ⟨_, rfl, HB9.out, by rw [HOUT.out]; exact HR9.out⟩

theorem rank22_calls (lv vv iv : Value) (L : List (List Int)) (v ids : List Int) (kk : Int) (M : List Nat) (w : World) (hL : (Kd.int .i32).slice.slice.At M w [lv] L) (hv : (Kd.int .i32).slice.At M w [vv] v) (hi : (Kd.int .i64).slice.At M w [iv] ids) (hlen : ids.length ≤ 1048576) (hLn : L.length ≤ 1048576) (hk : 0 ≤ kk) :
    Calls Try.prog 15 #[lv, vv, .int .i64 kk, iv] w fun e w' => ∃ v', e = .returned v' ∧ Below w.heap.size w w' ∧ rsE.kd.slice.At [] w' [v'] ((sort4 (resOf L v (uniq ids))).take kk.toNat) := by
  have HA := Lib.hid (all22_calls lv vv iv L v ids M w hL hv hi hlen hLn)
  obtain ⟨al, cl, rfl, _, _⟩ := Kd.slice_form hL
  obtain ⟨av, cv, rfl, _, _⟩ := Kd.slice_form hv
  obtain ⟨ai, ci, rfl, _, _⟩ := Kd.slice_form hi
  generalize sort4 (resOf L v (uniq ids)) = S at *
  clear hL hv hi
  obtain ⟨k, rfl⟩ : ∃ k : Nat, kk = (k : Int) := ⟨kk.toNat, by omega⟩
  rw [Int.toNat_natCast]
  go_enter Try.func15, Try.ntmps15
  go_wp2_with fail
  refine HA.out.mono ?_
  rintro e w1 ⟨v1, rfl, hb1, hr1⟩
  obtain ⟨a1, c1, rfl, hl1, hc1⟩ := row_form hr1
  unfold maxLen at hc1
  have HB1 := Lib.hid hb1
  have HR1 := Lib.hid (hr1.read (by simp))
  clear hb1 hr1 HA
  by_cases hlt : k < S.length
  · have h1 : (k : Int) < (S.length : Int) := by omega
    have h2 : (0 : Int) ≤ (k : Int) := by omega
    have h3 : (k : Int) ≤ (c1 : Int) := by omega
    have HT := Lib.hid (Kd.slice_take HR1.out (k := k) (by omega))
    go_wp2_with fail
    go_ret
    exact ⟨_, rfl, HB1.out, HT.out⟩
  · have HT : Hid (S.take k = S) := Lib.hid (List.take_of_length_le (by omega))
    have h1 : ¬ (k : Int) < (S.length : Int) := by omega
    go_wp2_with fail
    go_ret
    exact ⟨_, rfl, HB1.out, by rw [HT.out]; exact HR1.out⟩

end Go.Proofs.Ytglghgjbnoldaaa
