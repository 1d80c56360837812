/-
The document's answers: ref09.Covers.
-/
import Derived.Test.YtfkmkhojedfccaaUnique
namespace Go.Proofs.Ytfkmkhojedfccaa
set_option linter.unusedVariables false
set_option linter.unusedSimpArgs false
open Go.RowKit

/-- ref09.Covers. -/
def coversRef (n : Int) (xs : List (List Int)) : Bool :=
  let u := uniq xs.flatten
  let n := max n 0
  if u.length ≠ xs.flatten.length ∨ (u.length : Int) ≠ n then false
  else n == 0 || (u[0]? == some 0 && u[n.toNat - 1]? == some (n - 1))

theorem flat_snoc {xs : List (List Int)} {k : Nat} {x : List Int} (hx : xs[k]? = some x) : (xs.take (k + 1)).flatten = (xs.take k).flatten ++ x := by
  rw [take_snoc' hx]; simp
theorem flat_len (xs : List (List Int)) (k : Nat) : (xs.take k).flatten.length ≤ xs.flatten.length := by
  conv => rhs; rw [← List.take_append_drop k xs, List.flatten_append, List.length_append]
  omega

theorem lists_at {α : Type} {K : Kd α} {M : List Nat} {w : World} {v : Value} {l : List (List α)} (h : K.slice.slice.At M w [v] l) {i : Nat} {x : List α} (hx : l[i]? = some x) :
    ∃ b o cap vi, v = .slice (some ⟨b, o, none⟩) l.length cap ∧ b < w.heap.size ∧ b ∉ M ∧ l.length ≤ cap ∧ cap ≤ maxLen ∧ w.cell? ⟨b, o + i, none⟩ = some vi ∧ K.slice.At M w [vi] x := by
  obtain ⟨b, o, cap, h1, h2, h3, h4, h5, cs', hr, hc⟩ := Kd.slice_get h hx
  have hl := K.slice.len hr.out
  obtain ⟨ao, cp, hcs, _⟩ := hr.out
  subst hcs
  refine ⟨b, o, cap, _, h1, h2, h3, h4, h5, ?_, hr⟩
  have := hc 0 _ rfl
  simpa [Kd.slice] using this

set_option maxRecDepth 100000 in
set_option maxHeartbeats 2000000 in
theorem ref_covers_calls (v : Value) (n : Int) (xs : List (List Int)) (M : List Nat) (w : World) (h : (Kd.int .i64).slice.slice.At M w [v] xs) (hlen : xs.flatten.length ≤ 1099511627776) (hn1 : -9223372036854775808 ≤ n) (hn2 : n ≤ 9223372036854775807) :
    Calls Try.prog 49 #[.int .i64 n, v] w fun e w' => e = .returned (.bool (coversRef n xs)) ∧ Below w.heap.size w w' := by
  obtain ⟨ao, cap, rfl, hl, hcap⟩ := Kd.slice_form h
  have H := Lib.hid h
  clear h
  unfold maxLen at hcap
  obtain ⟨i0, hi, hz0, hz1, hz2⟩ := info_parts A.infoInt
  have HI := Lib.hid hi
  have HZ0 := Lib.hid hz0
  have HZ1 := Lib.hid hz1
  have HZ2 := Lib.hid hz2
  have HFL := Lib.hid (flat_len xs)
  clear hi hz0 hz1 hz2
  obtain ⟨res, hres⟩ : ∃ r, coversRef n xs = r := ⟨_, rfl⟩
  rw [hres]
  have HRES := Lib.hid hres
  clear hres
  by_cases hneg : n < 0
  · obtain ⟨m, hm⟩ : ∃ m : Int, m = 0 := ⟨0, rfl⟩
    have hmx : max n 0 = m := by omega
    have HMX := Lib.hid hmx
    clear hmx
    go_enter Try.func49, Try.ntmps49
    go_wp2_with fail
    go_loopw [6, 5] (fun i s wr => ∃ (k : Nat), k ≤ xs.length ∧ i = .int .i64 k ∧ Hid (Row (Kd.int .i64) [] 3 w.heap.size wr s (xs.take k).flatten) ∧ Hid (Below w.heap.size w wr)) (fun i _ _ => xs.length - (intOf i).toNat)
    case atStart => exact ⟨0, by omega, rfl, Row.nil _ _ _ _ _, Below.refl _ _⟩
    case round =>
      obtain ⟨k, hk, rfl, hrow, hw⟩ := hrel
      by_cases hlt : k < xs.length
      · obtain ⟨x, hx⟩ : ∃ x, xs[k]? = some x := ⟨_, List.getElem?_eq_getElem hlt⟩
        obtain ⟨b, o, c, vi, hv, hb, _, _, _, hc, hsx⟩ := lists_at (H.out.upd (Upd.ofBelow hw.out []) (by simp) (M' := ob _) (fun k hk => .inr (hrow.out.ob_lt k hk).1)) hx
        simp at hv
        obtain ⟨rfl, rfl⟩ := hv
        have hsn := flat_snoc hx
        have hfl := HFL.out (k + 1)
        rw [hsn, List.length_append] at hfl
        have hrowb := hrow.out.ob_lt
        obtain ⟨v', w', hrun, hrow2, hu2, hob⟩ := hrow.out.appendAt (P := Try.prog) (t := 46) (ty := 46) (u := vi) (l2 := x) Try.underlying46 HI.out HZ0.out HZ1.out HZ2.out rfl (by decide) (by simpa using hsx) (by simp only [maxLen]; omega) (by omega) (by have := hw.out.size; omega)
        have hwf : Below w.heap.size w w' := hw.out.trans (hu2.belowB hw.out.size (fun k hk => (hrowb k hk).1))
        have HROW2 := Lib.hid hrow2
        have HRUN := Lib.hid hrun
        have HWF := Lib.hid hwf
        have HSN := Lib.hid hsn
        obtain ⟨ai, ci, rfl, _, _⟩ := slice_form' hsx
        clear hrun hrow2 hu2 hob hrowb hwf hsx hsn hx hfl
        go_wp2_with (at_builtin; refine append_step rfl _ _ _ rfl rfl rfl HRUN.out ?_)
        go_roundw
        case rel => exact ⟨k + 1, by omega, by go_num, by rw [HSN.out]; exact HROW2.out, HWF.out⟩
        case measure => simp [intOf]; omega
      · have e : xs.take k = xs := List.take_of_length_le (by omega)
        rw [e] at hrow
        have hln := hlen
        generalize hall : xs.flatten = all at hrow hln
        have HALL := Lib.hid hall
        clear hall
        obtain ⟨aa, ca, rfl, hla, hca⟩ := row_form hrow.out
        have src := Row.read hrow.out (by simp)
        have HU := Lib.hid (ref_unique_calls _ _ [] wr src hln)
        clear src e
        go_wp2_with fail
        refine HU.out.mono ?_
        rintro e w2 ⟨u, rfl, hb2, hru⟩
        have HB2 := Lib.hid (hw.out.trans (hb2.mono hw.out.size))
        obtain ⟨au, cu, rfl, hlu, hcu⟩ := row_form hru
        have HRU := Lib.hid hru
        unfold maxLen at hcu
        clear hb2 hru
        generalize hual : uniq all = ul at *
        have HCR : Hid (coversRef n xs = (if ul.length ≠ all.length ∨ (ul.length : Int) ≠ m then false else m == 0 || (ul[0]? == some 0 && ul[m.toNat - 1]? == some (m - 1)))) := Lib.hid (by unfold coversRef; simp only [HALL.out, hual, HMX.out])
        clear hual
        by_cases hq1 : ul.length = all.length
        · have hb1 : ((ul.length : Int) != (all.length : Int)) = false := by simp; omega
          by_cases hq2 : (ul.length : Int) = m
          · have hb2 : ((ul.length : Int) != m) = false := by simpa using hq2
            have e := HRES.out
            rw [HCR.out, if_neg (by simp [hq1, ← hq2])] at e
            cases ul with
            | nil =>
              have hm0 : m = 0 := by simpa using hq2.symm
              have e2 : res = true := by rw [← e]; simp [hm0]
              have HE := Lib.hid e2
              have hnz : (n == 0) = true ∨ n < 0 := by simp; omega
              clear e e2
              rcases hnz with hnz | hnz
              all_goals
                first
                  | (exfalso; simp at hnz; omega)
                  | (exfalso; omega)
                  | (go_wp2_with fail
                     go_ret
                     rw [HE.out]
                     exact ⟨rfl, HB2.out⟩)
            | cons y ul0 =>
              simp at hq2
              omega
          · have e : res = false := by rw [← HRES.out, HCR.out, if_pos (Or.inr hq2)]
            have HE := Lib.hid e
            have hb2 : ((ul.length : Int) != m) = true := by simpa using hq2
            clear e
            go_wp2_with fail
            go_ret
            rw [HE.out]
            exact ⟨rfl, HB2.out⟩
        · have e : res = false := by rw [← HRES.out, HCR.out, if_pos (Or.inl hq1)]
          have HE := Lib.hid e
          have hb1 : ((ul.length : Int) != (all.length : Int)) = true := by simp; omega
          clear e
          go_wp2_with fail
          go_ret
          rw [HE.out]
          exact ⟨rfl, HB2.out⟩
  · obtain ⟨m, hm⟩ : ∃ m : Int, m = n := ⟨n, rfl⟩
    have hmx : max n 0 = m := by omega
    have HMX := Lib.hid hmx
    clear hmx
    go_enter Try.func49, Try.ntmps49
    go_wp2_with fail
    go_loopw [6, 5] (fun i s wr => ∃ (k : Nat), k ≤ xs.length ∧ i = .int .i64 k ∧ Hid (Row (Kd.int .i64) [] 3 w.heap.size wr s (xs.take k).flatten) ∧ Hid (Below w.heap.size w wr)) (fun i _ _ => xs.length - (intOf i).toNat)
    case atStart => exact ⟨0, by omega, rfl, Row.nil _ _ _ _ _, Below.refl _ _⟩
    case round =>
      obtain ⟨k, hk, rfl, hrow, hw⟩ := hrel
      by_cases hlt : k < xs.length
      · obtain ⟨x, hx⟩ : ∃ x, xs[k]? = some x := ⟨_, List.getElem?_eq_getElem hlt⟩
        obtain ⟨b, o, c, vi, hv, hb, _, _, _, hc, hsx⟩ := lists_at (H.out.upd (Upd.ofBelow hw.out []) (by simp) (M' := ob _) (fun k hk => .inr (hrow.out.ob_lt k hk).1)) hx
        simp at hv
        obtain ⟨rfl, rfl⟩ := hv
        have hsn := flat_snoc hx
        have hfl := HFL.out (k + 1)
        rw [hsn, List.length_append] at hfl
        have hrowb := hrow.out.ob_lt
        obtain ⟨v', w', hrun, hrow2, hu2, hob⟩ := hrow.out.appendAt (P := Try.prog) (t := 46) (ty := 46) (u := vi) (l2 := x) Try.underlying46 HI.out HZ0.out HZ1.out HZ2.out rfl (by decide) (by simpa using hsx) (by simp only [maxLen]; omega) (by omega) (by have := hw.out.size; omega)
        have hwf : Below w.heap.size w w' := hw.out.trans (hu2.belowB hw.out.size (fun k hk => (hrowb k hk).1))
        have HROW2 := Lib.hid hrow2
        have HRUN := Lib.hid hrun
        have HWF := Lib.hid hwf
        have HSN := Lib.hid hsn
        obtain ⟨ai, ci, rfl, _, _⟩ := slice_form' hsx
        clear hrun hrow2 hu2 hob hrowb hwf hsx hsn hx hfl
        go_wp2_with (at_builtin; refine append_step rfl _ _ _ rfl rfl rfl HRUN.out ?_)
        go_roundw
        case rel => exact ⟨k + 1, by omega, by go_num, by rw [HSN.out]; exact HROW2.out, HWF.out⟩
        case measure => simp [intOf]; omega
      · have e : xs.take k = xs := List.take_of_length_le (by omega)
        rw [e] at hrow
        have hln := hlen
        generalize hall : xs.flatten = all at hrow hln
        have HALL := Lib.hid hall
        clear hall
        obtain ⟨aa, ca, rfl, hla, hca⟩ := row_form hrow.out
        have src := Row.read hrow.out (by simp)
        have HU := Lib.hid (ref_unique_calls _ _ [] wr src hln)
        clear src e
        go_wp2_with fail
        refine HU.out.mono ?_
        rintro e w2 ⟨u, rfl, hb2, hru⟩
        have HB2 := Lib.hid (hw.out.trans (hb2.mono hw.out.size))
        obtain ⟨au, cu, rfl, hlu, hcu⟩ := row_form hru
        have HRU := Lib.hid hru
        unfold maxLen at hcu
        clear hb2 hru
        generalize hual : uniq all = ul at *
        have HCR : Hid (coversRef n xs = (if ul.length ≠ all.length ∨ (ul.length : Int) ≠ m then false else m == 0 || (ul[0]? == some 0 && ul[m.toNat - 1]? == some (m - 1)))) := Lib.hid (by unfold coversRef; simp only [HALL.out, hual, HMX.out])
        clear hual
        by_cases hq1 : ul.length = all.length
        · have hb1 : ((ul.length : Int) != (all.length : Int)) = false := by simp; omega
          by_cases hq2 : (ul.length : Int) = m
          · have hb2 : ((ul.length : Int) != m) = false := by simpa using hq2
            have e := HRES.out
            rw [HCR.out, if_neg (by simp [hq1, ← hq2])] at e
            cases ul with
            | nil =>
              have hm0 : m = 0 := by simpa using hq2.symm
              have e2 : res = true := by rw [← e]; simp [hm0]
              have HE := Lib.hid e2
              have hnz : (n == 0) = true ∨ n < 0 := by simp; omega
              clear e e2
              rcases hnz with hnz | hnz
              all_goals
                first
                  | (exfalso; simp at hnz; omega)
                  | (exfalso; omega)
                  | (go_wp2_with fail
                     go_ret
                     rw [HE.out]
                     exact ⟨rfl, HB2.out⟩)
            | cons y ul0 =>
              have hn1 : n = (ul0.length : Int) + 1 := by simp at hq2; omega
              have hlast : ∃ z, (y :: ul0)[ul0.length]? = some z := ⟨_, List.getElem?_eq_getElem (by simp)⟩
              obtain ⟨z, hz⟩ := hlast
              obtain ⟨g, cg, hv1, hx1, hx2, hx3, hx4, hc0⟩ := int_row_get HRU.out (i := 0) (x := y) rfl
              obtain ⟨g', cg', hv2, hy1, hy2, hy3, hy4, hc1⟩ := int_row_get HRU.out hz
              simp at hv1 hv2
              obtain ⟨rfl, rfl⟩ := hv1
              obtain ⟨⟨rfl, hz1⟩, hz2⟩ := hv2
              clear hx1 hx2 hx3 hx4 hy1 hy2 hy3 hy4
              have e2 : (y == 0 && z == (ul0.length : Int)) = res := by
                rw [← e]
                have hm1 : m.toNat - 1 = ul0.length := by omega
                have hm2 : m - 1 = (ul0.length : Int) := by omega
                have hm3 : (m == 0) = false := by simp; omega
                rw [hm1, hm2, hm3, hz]
                simp
              have HE := Lib.hid e2
              have hlen2 : all.length = ul0.length + 1 := by simpa using hq1.symm
              have HL2 := Lib.hid hlen2
              have hi1 : (0 : Int) < (ul0.length : Int) + 1 := by omega
              have hi2 : (ul0.length : Int) < (ul0.length : Int) + 1 := by omega
              have hn0 : (n == 0) = false := by simp; omega
              clear e e2 hz hq1 hq2 hlen2
              obtain ⟨N, hN⟩ : ∃ N, N = ul0.length := ⟨_, rfl⟩
              rw [← hN] at hn1 hi1 hi2 hc1 HE HL2
              subst hn1
              have hlc : (y :: ul0).length = N + 1 := by rw [hN]; rfl
              clear hm hb1 hb2
              rw [hlc, HL2.out]
              rw [hlc] at hlu
              have hcu2 : N + 1 ≤ cu := hlu
              clear hlu hlc hN hla hca
              by_cases hy : y = 0
              · subst hy
                simp only [beq_self_eq_true, Bool.true_and] at HE
                go_wp2_with fail
                go_ret
                rw [HE.out]
                exact ⟨rfl, HB2.out⟩
              · have hyb : (y == 0) = false := by simpa using hy
                rw [hyb, Bool.false_and] at HE
                go_wp2_with fail
                go_ret
                rw [← HE.out]
                exact ⟨rfl, HB2.out⟩
          · have e : res = false := by rw [← HRES.out, HCR.out, if_pos (Or.inr hq2)]
            have HE := Lib.hid e
            have hb2 : ((ul.length : Int) != m) = true := by simpa using hq2
            clear e
            go_wp2_with fail
            go_ret
            rw [HE.out]
            exact ⟨rfl, HB2.out⟩
        · have e : res = false := by rw [← HRES.out, HCR.out, if_pos (Or.inl hq1)]
          have HE := Lib.hid e
          have hb1 : ((ul.length : Int) != (all.length : Int)) = true := by simp; omega
          clear e
          go_wp2_with fail
          go_ret
          rw [HE.out]
          exact ⟨rfl, HB2.out⟩

end Go.Proofs.Ytfkmkhojedfccaa
