/-
The law ShapeSpoilt.
-/
import Derived.Test.YtfkmkhojedfccaaSpoC
namespace Go.Proofs.Ytfkmkhojedfccaa
set_option linter.unusedVariables false
set_option linter.unusedSimpArgs false
open Go.RowKit

set_option maxHeartbeats 8000000 in
set_option maxRecDepth 100000 in
theorem shapeSpoilt_calls (v : Value) (l : List Nd) (n dim at_ by_ kind : Int) (w : World) (h : kNd.slice.At [] w [v] l) (hs : ∀ x ∈ l, x.small) :
    Calls Try.prog 5 #[v, .int .i64 n, .int .i64 dim, .int .i64 at_, .int .i64 by_, .int .i64 kind] w fun e w' => e = .returned (.bool true) ∧ Below w.heap.size w w' := by
  obtain ⟨ao, cap, rfl, hlv, hcap⟩ := Kd.slice_form h
  unfold maxLen at hcap
  have HA := Lib.hid (awake14_calls w)
  have H := Lib.hid h
  have HS := Lib.hid hs
  obtain ⟨fw, hfw⟩ : ∃ r, few l = r := ⟨_, rfl⟩
  have HFW := Lib.hid hfw
  clear h hs hfw
  go_enter Try.func5, Try.ntmps5
  go_wp2_with fail
  refine HA.out.mono ?_
  rintro e w1 ⟨rfl, hb1⟩
  have HB1 := Lib.hid hb1
  have HF := few_calls _ l [] w1 (H.out.below hb1) HS.out
  rw [HFW.out] at HF
  have HF' := Lib.hid HF
  clear hb1 HF
  go_wp2_with fail
  refine HF'.out.mono ?_
  rintro e w2 ⟨rfl, m, hw2⟩
  have HB2 : Hid (Below w.heap.size w w2) := Lib.hid (by rw [hw2]; exact HB1.out.trans (bdN _ _ _))
  clear hw2
  cases fw with
  | false =>
    go_wp2_with fail
    go_ret
    exact ⟨rfl, HB2.out⟩
  | true =>
    obtain ⟨f1, f2, f3⟩ := few_go l 0 0 HFW.out
    have hlen : l.length ≤ 401 := by rcases f1 with rfl | f1 <;> simp_all
    have hfl : (leavesOf l).flatten.length ≤ 1099511627776 := by simp only [ite_self] at f2; omega
    have HC := ref_check_calls _ l n dim [] w2 (H.out.below HB2.out) (by omega) hfl
    rw [← check_same] at HC
    obtain ⟨c, hc⟩ : ∃ c, checkNd l n dim = c := ⟨_, rfl⟩
    rw [hc] at HC
    have HC := Lib.hid HC
    have HCC := Lib.hid hc
    have HF3 := Lib.hid f3
    clear f1 f2 f3 hfl hc
    by_cases hn : 5000 < n
    · go_wp2_with fail
      go_ret
      exact ⟨rfl, HB2.out⟩
    go_wp2_with fail
    refine HC.out.mono ?_
    rintro e w3 ⟨rfl, hb3⟩
    have HB3 := Lib.hid (HB2.out.trans (hb3.mono HB2.out.size))
    clear hb3 HC
    by_cases hc0 : c = 0
    case' neg =>
      have hcb : (c != 0) = true := by simpa using hc0
      go_wp2_with fail
      go_ret
      exact ⟨rfl, HB3.out⟩
    subst hc0
    by_cases q1 : at_ < 0
    · go_wp2_with fail
      go_ret
      exact ⟨rfl, HB3.out⟩
    by_cases q2 : (l.length : Int) ≤ at_
    · go_wp2_with fail
      go_ret
      exact ⟨rfl, HB3.out⟩
    by_cases q3 : by_ = 0
    · have q3' : (by_ == 0) = true := by simpa using q3
      go_wp2_with fail
      go_ret
      exact ⟨rfl, HB3.out⟩
    have q3' : (by_ == 0) = false := by simpa using q3
    by_cases q4 : 1000 < by_
    · go_wp2_with fail
      go_ret
      exact ⟨rfl, HB3.out⟩
    by_cases q5 : by_ < -1000
    · go_wp2_with fail
      go_ret
      exact ⟨rfl, HB3.out⟩
    obtain ⟨a, haA⟩ : ∃ a : Nat, at_ = (a : Int) := ⟨at_.toNat, by omega⟩
    have hal : a < l.length := by omega
    have HAA1 := Lib.hid haA
    clear haA
    have H3 := Lib.hid (H.out.below HB3.out)
    have HVA := Lib.hid (valid_of HCC.out)
    obtain ⟨i0, hi, hz0, hz1, hz2⟩ := info_of32
    have HI := Lib.hid hi
    have HZ0 := Lib.hid hz0
    have HZ1 := Lib.hid hz1
    have HZ2 := Lib.hid hz2
    clear hi hz0 hz1 hz2
    obtain ⟨i1, hi, hz0, hz1, hz2⟩ := info_of64
    have JI := Lib.hid hi
    have JZ0 := Lib.hid hz0
    have JZ1 := Lib.hid hz1
    have JZ2 := Lib.hid hz2
    clear hi hz0 hz1 hz2
    obtain ⟨i2, hi, hz0, hz1, hz2⟩ := info_ofNode
    have KI := Lib.hid hi
    have KZ0 := Lib.hid hz0
    have KZ1 := Lib.hid hz1
    have KZ2 := Lib.hid hz2
    clear hi hz0 hz1 hz2
    go_wp2_with fail
    go_loopw [13, 14] (fun u i wr => ∃ (k : Nat) (M : List Nat), k ≤ l.length ∧ i = .int .i64 (k : Int) ∧ Hid (Cpy w3.heap.size wr u l a k M) ∧ Hid (Below w3.heap.size w3 wr)) (fun _ i _ => l.length - (intOf i).toNat)
    case atStart => exact ⟨0, [], Nat.zero_le _, rfl, Lib.hid (Cpy.start _ _ _ _), Lib.hid (Below.refl _ _)⟩
    case round =>
      obtain ⟨k, M, hk, rfl, hcp, hb⟩ := hrel
      by_cases hlt : k < l.length
      ·
        -- COPY
        obtain ⟨x, hx⟩ : ∃ x, l[k]? = some x := ⟨_, List.getElem?_eq_getElem hlt⟩
        obtain ⟨b, o, cq, vi, vn, hv, hbl, _, _, _, hn, c0, c1, c2, c3, c4, c5⟩ := nds_at (H3.out.below hb.out) hx
        simp at hv
        obtain ⟨rfl, rfl⟩ := hv
        have hb3 : b < w3.heap.size := by
          obtain ⟨b', o', _, _, _, hv', hbl', _⟩ := nds_at H3.out hx
          simp at hv'
          obtain ⟨⟨rfl, _⟩, _⟩ := hv'
          exact hbl'
        obtain ⟨ai, ci, rfl, _, _⟩ := slice_form' hn.ids
        obtain ⟨an, cn, rfl, _, _⟩ := slice_form' hn.normal
        have hi5 := HF3.out x (List.mem_of_getElem? hx)
        have hn1 := bare_normal (HVA.out.bare x (List.mem_of_getElem? hx)) (valid_dim HCC.out)
        have HC6 : Hid (∀ W, Upd [] wr W → W.cell? ⟨b, o + k * 6, none⟩ = some (.bool x.leaf) ∧ W.cell? ⟨b, o + k * 6 + 1, none⟩ = some (.slice ai x.ids.length ci) ∧ W.cell? ⟨b, o + k * 6 + 2, none⟩ = some (.slice an x.pl.normal.length cn) ∧ W.cell? ⟨b, o + k * 6 + 3, none⟩ = some (.int .i64 x.pl.off) ∧ W.cell? ⟨b, o + k * 6 + 4, none⟩ = some (.int .i64 x.left) ∧ W.cell? ⟨b, o + k * 6 + 5, none⟩ = some (.int .i64 x.right)) := Lib.hid (fun W hu => ⟨(hu.cell (a := ⟨b, _, none⟩) hbl (by simp)).trans c0, (hu.cell (a := ⟨b, _, none⟩) hbl (by simp)).trans c1, (hu.cell (a := ⟨b, _, none⟩) hbl (by simp)).trans c2, (hu.cell (a := ⟨b, _, none⟩) hbl (by simp)).trans c3, (hu.cell (a := ⟨b, _, none⟩) hbl (by simp)).trans c4, (hu.cell (a := ⟨b, _, none⟩) hbl (by simp)).trans c5⟩)
        have HNI : Hid (∀ W N, Upd [] wr W → (∀ j, j ∈ N → wr.heap.size ≤ j) → (Kd.int .i64).slice.At N W [.slice ai x.ids.length ci] x.ids) := Lib.hid (fun W N hu hN => hn.ids.upd hu (by simp) (fun j hj => .inr (hN j hj)))
        have HNO : Hid (∀ W N, Upd [] wr W → (∀ j, j ∈ N → wr.heap.size ≤ j) → (Kd.int .i32).slice.At N W [.slice an x.pl.normal.length cn] x.pl.normal) := Lib.hid (fun W N hu hN => hn.normal.upd hu (by simp) (fun j hj => .inr (hN j hj)))
        have HX := Lib.hid hx
        have HWO := Lib.hid hn.wo
        have HWL := Lib.hid hn.wl
        have HWR := Lib.hid hn.wr
        have i1 : (k : Int) < (l.length : Int) := by omega
        have i0 : (0 : Int) ≤ (k : Int) := by omega
        clear hn hx
        go_wp2_with fail
        refine wp_region_noPanic ?_
        refine wp_region_held_drew (S := (fun w' => w'.cell? ⟨b, o + k * 6, none⟩ = some (.bool x.leaf) ∧ w'.cell? ⟨b, o + k * 6 + 1, none⟩ = some (.slice ai x.ids.length ci) ∧ w'.cell? ⟨b, o + k * 6 + 2, none⟩ = some (.slice an x.pl.normal.length cn) ∧ w'.cell? ⟨b, o + k * 6 + 3, none⟩ = some (.int .i64 x.pl.off) ∧ w'.cell? ⟨b, o + k * 6 + 4, none⟩ = some (.int .i64 x.left) ∧ w'.cell? ⟨b, o + k * 6 + 5, none⟩ = some (.int .i64 x.right))) (by kernel_rfl) ?_ (fun hHeld => ?_)
        · (try dsimp only)
          exact HC6.out _ (Upd.drew [] wr)
        refine wpAnyH_take (i := 1) (oi := ?_) (v := ?_) ?_ (by kernel_rfl) (by kernel_rfl) (by kernel_rfl) (fun _ _ _ h => h) ?_ (by assumption) ?_
        (rotate_left 2; focus (simp only [List.getElem?_toArray, List.getElem?_cons_succ, List.getElem?_cons_zero]; rfl))
        (focus (refine Or.inl ⟨by rfl, ?_⟩; intro w hSw; (try dsimp only at hSw); go_simp; any_goals with_reducible rfl))
        (try simp only [Act.put, List.setIfInBounds_toArray, List.set_cons_zero, List.set_cons_succ])
        refine wpAnyH_take (i := 2) (oi := ?_) (v := ?_) ?_ (by kernel_rfl) (by kernel_rfl) (by kernel_rfl) (fun _ _ _ h => h) ?_ (by assumption) ?_
        (rotate_left 2; focus (simp only [List.getElem?_toArray, List.getElem?_cons_succ, List.getElem?_cons_zero]; rfl))
        (focus (refine Or.inl ⟨by rfl, ?_⟩; intro w hSw; (try dsimp only at hSw); go_simp; any_goals with_reducible rfl))
        (try simp only [Act.put, List.setIfInBounds_toArray, List.set_cons_zero, List.set_cons_succ])
        refine wpAnyH_take (i := 3) (oi := ?_) (v := ?_) ?_ (by kernel_rfl) (by kernel_rfl) (by kernel_rfl) (fun _ _ _ h => h) ?_ (by assumption) ?_
        (rotate_left 2; focus (simp only [List.getElem?_toArray, List.getElem?_cons_succ, List.getElem?_cons_zero]; rfl))
        (focus (refine Or.inl ⟨by rfl, ?_⟩; intro w hSw; (try dsimp only at hSw); go_simp; any_goals with_reducible rfl))
        (try simp only [Act.put, List.setIfInBounds_toArray, List.set_cons_zero, List.set_cons_succ])
        refine wpAnyH_take (i := 4) (oi := ?_) (v := ?_) ?_ (by kernel_rfl) (by kernel_rfl) (by kernel_rfl) (fun _ _ _ h => h) ?_ (by assumption) ?_
        (rotate_left 2; focus (simp only [List.getElem?_toArray, List.getElem?_cons_succ, List.getElem?_cons_zero]; rfl))
        (focus (refine Or.inl ⟨by rfl, ?_⟩; intro w hSw; (try dsimp only at hSw); go_simp; any_goals with_reducible rfl))
        (try simp only [Act.put, List.setIfInBounds_toArray, List.set_cons_zero, List.set_cons_succ])
        refine wpAnyH_take (i := 5) (oi := ?_) (v := ?_) ?_ (by kernel_rfl) (by kernel_rfl) (by kernel_rfl) (fun _ _ _ h => h) ?_ (by assumption) ?_
        (rotate_left 2; focus (simp only [List.getElem?_toArray, List.getElem?_cons_succ, List.getElem?_cons_zero]; rfl))
        (focus (refine Or.inl ⟨by rfl, ?_⟩; intro w hSw; (try dsimp only at hSw); go_simp; any_goals with_reducible rfl))
        (try simp only [Act.put, List.setIfInBounds_toArray, List.set_cons_zero, List.set_cons_succ])
        refine wpAnyH_take (i := 6) (oi := ?_) (v := ?_) ?_ (by kernel_rfl) (by kernel_rfl) (by kernel_rfl) (fun _ _ _ h => h) ?_ (by assumption) ?_
        (rotate_left 2; focus (simp only [List.getElem?_toArray, List.getElem?_cons_succ, List.getElem?_cons_zero]; rfl))
        (focus (refine Or.inl ⟨by rfl, ?_⟩; intro w hSw; (try dsimp only at hSw); go_simp; any_goals with_reducible rfl))
        (try simp only [Act.put, List.setIfInBounds_toArray, List.set_cons_zero, List.set_cons_succ])
        refine wpAnyH_take (i := 8) (oi := ?_) (v := ?_) ?_ (by kernel_rfl) (by kernel_rfl) (by kernel_rfl) (fun _ _ _ h => h) ?_ (by assumption) ?_
        (rotate_left 2; focus (simp only [List.getElem?_toArray, List.getElem?_cons_succ, List.getElem?_cons_zero]; rfl))
        (focus (refine Or.inl ⟨by rfl, ?_⟩; intro w hSw; (try dsimp only at hSw); go_simp; any_goals with_reducible rfl))
        (try simp only [Act.put, List.setIfInBounds_toArray, List.set_cons_zero, List.set_cons_succ])
        refine wpAnyH_take (i := 9) (oi := ?_) (v := ?_) ?_ (by kernel_rfl) (by kernel_rfl) (by kernel_rfl) (fun _ _ _ h => h) ?_ (by assumption) ?_
        (rotate_left 2; focus (simp only [List.getElem?_toArray, List.getElem?_cons_succ, List.getElem?_cons_zero]; rfl))
        (focus (refine Or.inl ⟨by rfl, ?_⟩; intro w hSw; (try dsimp only at hSw); go_simp; any_goals with_reducible rfl))
        (try simp only [Act.put, List.setIfInBounds_toArray, List.set_cons_zero, List.set_cons_succ])
        refine wpAnyH_take (i := 10) (oi := ?_) (v := ?_) ?_ (by kernel_rfl) (by kernel_rfl) (by kernel_rfl) (fun _ _ _ h => h) ?_ (by assumption) ?_
        (rotate_left 2; focus (simp only [List.getElem?_toArray, List.getElem?_cons_succ, List.getElem?_cons_zero]; rfl))
        (focus (refine Or.inl ⟨by rfl, ?_⟩; intro w hSw; (try dsimp only at hSw); go_simp; any_goals with_reducible rfl))
        (try simp only [Act.put, List.setIfInBounds_toArray, List.set_cons_zero, List.set_cons_succ])
        refine wpAnyH_take (i := 11) (oi := ?_) (v := ?_) ?_ (by kernel_rfl) (by kernel_rfl) (by kernel_rfl) (fun _ _ _ h => h) ?_ (by assumption) ?_
        (rotate_left 2; focus (simp only [List.getElem?_toArray, List.getElem?_cons_succ, List.getElem?_cons_zero]; rfl))
        (focus (refine Or.inl ⟨by rfl, ?_⟩; intro w hSw; (try dsimp only at hSw); go_simp; any_goals with_reducible rfl))
        (try simp only [Act.put, List.setIfInBounds_toArray, List.set_cons_zero, List.set_cons_succ])
        refine wpAnyH_take (i := 12) (oi := ?_) (v := ?_) ?_ (by kernel_rfl) (by kernel_rfl) (by kernel_rfl) (fun _ _ _ h => h) ?_ (by assumption) ?_
        (rotate_left 2; focus (simp only [List.getElem?_toArray, List.getElem?_cons_succ, List.getElem?_cons_zero]; rfl))
        (focus (refine Or.inl ⟨by rfl, ?_⟩; intro w hSw; (try dsimp only at hSw); go_simp; any_goals with_reducible rfl))
        (try simp only [Act.put, List.setIfInBounds_toArray, List.set_cons_zero, List.set_cons_succ])
        refine wpAnyH_take (i := 13) (oi := ?_) (v := ?_) ?_ (by kernel_rfl) (by kernel_rfl) (by kernel_rfl) (fun _ _ _ h => h) ?_ (by assumption) ?_
        (rotate_left 2; focus (simp only [List.getElem?_toArray, List.getElem?_cons_succ, List.getElem?_cons_zero]; rfl))
        (focus (refine Or.inl ⟨by rfl, ?_⟩; intro w hSw; (try dsimp only at hSw); go_simp; any_goals with_reducible rfl))
        (try simp only [Act.put, List.setIfInBounds_toArray, List.set_cons_zero, List.set_cons_succ])
        refine wpAnyH_ready (rs := [0, 15]) (by kernel_rfl) (by simp) (AllReadyH.cons (by simp only [List.getElem?_toArray, List.getElem?_cons_succ, List.getElem?_cons_zero]; rfl) (fun K hK => ?_) (AllReadyH.cons (by simp only [List.getElem?_toArray, List.getElem?_cons_succ, List.getElem?_cons_zero]; rfl) (fun K hK => ?_) AllReadyH.nil))
        · go_simp
          refine named_world ?_
          intro V1 hV1
          have U1 : Hid (Upd [] wr V1) := Lib.hid (by rw [hV1]; exact (Upd.drew [] wr).trans (Upd.alloc [] wr.drew (.cells #[] 21)))
          have Ae : V1.heap[wr.drew.heap.size]? = some (.cells #[] 21) := by rw [hV1]; exact Go.heap_alloc_new wr.drew _
          clear hV1
          refine hK.out _ _ ?_ (fun hNew => ?_)
          · (try dsimp only)
            exact HC6.out _ U1.out
          clear hK K hHeld
          have hHeld := hNew
          clear hNew
          (try simp only [Act.put, List.setIfInBounds_toArray, List.set_cons_zero, List.set_cons_succ])
          refine wpAnyH_ready (rs := [7, 15]) (by kernel_rfl) (by simp) (AllReadyH.cons (by simp only [List.getElem?_toArray, List.getElem?_cons_succ, List.getElem?_cons_zero]; rfl) (fun K hK => ?_) (AllReadyH.cons (by simp only [List.getElem?_toArray, List.getElem?_cons_succ, List.getElem?_cons_zero]; rfl) (fun K hK => ?_) AllReadyH.nil))
          · refine step_row_append rfl (.tmp 61) (.tmp 67) _ rfl (K := Kd.int .i32) (M := []) (B := wr.heap.size) (v := .slice (some ⟨wr.drew.heap.size, 0, none⟩) 0 0) (u := .slice an x.pl.normal.length cn) (l := []) (l2 := x.pl.normal) rfl rfl ?_ Try.underlying22 HI.out HZ0.out HZ1.out HZ2.out rfl (by decide) ?_ ?_ ?_ ?_ ?_
            · exact row_new Ae ((Upd.drew [] wr).size)
            · exact HNO.out _ _ (U1.out) (fun j hj => by simp [ob, Value.ownBlock] at hj; subst hj; exact ((Upd.drew [] wr).size))
            · (simp [maxLen]; omega)
            · (simp; omega)
            · exact (U1.out).size
            intro vn2 V2 hrn hun hon
            simp only [List.nil_append] at hrn
            have U2 : Hid (Upd [] wr V2) := Lib.hid ((U1.out).trans' hun (fun j hj => .inr (by simp [ob, Value.ownBlock] at hj; subst hj; exact ((Upd.drew [] wr).size))))
            obtain ⟨ap, cp, rfl, hlp, hcp2⟩ := row_form hrn
            refine hK.out _ _ ?_ (fun hNew => ?_)
            · (try dsimp only)
              exact HC6.out _ U2.out
            clear hK K hHeld
            have hHeld := hNew
            clear hNew
            (try simp only [Act.put, List.setIfInBounds_toArray, List.set_cons_zero, List.set_cons_succ])
            refine wpAnyH_take (i := 14) (oi := ?_) (v := ?_) ?_ (by kernel_rfl) (by kernel_rfl) (by kernel_rfl) (fun _ _ _ h => h) ?_ (by assumption) ?_
            (rotate_left 2; focus (simp only [List.getElem?_toArray, List.getElem?_cons_succ, List.getElem?_cons_zero]; rfl))
            (focus (refine Or.inl ⟨by rfl, ?_⟩; intro w hSw; (try dsimp only at hSw); go_simp; any_goals with_reducible rfl))
            (try simp only [Act.put, List.setIfInBounds_toArray, List.set_cons_zero, List.set_cons_succ])
            refine wpAnyH_ready (rs := [15]) (by kernel_rfl) (by simp) (AllReadyH.cons (by simp only [List.getElem?_toArray, List.getElem?_cons_succ, List.getElem?_cons_zero]; rfl) (fun K hK => ?_) AllReadyH.nil)
            go_simp
            refine named_world ?_
            intro V3 hV3
            have U3 : Hid (Upd [] wr V3) := Lib.hid (by rw [hV3]; exact (U2.out).trans (Upd.alloc [] V2 (.cells #[.slice none 0 0, .int .i64 0] 24)))
            have Ap : V3.heap[V2.heap.size]? = some (.cells #[.slice none 0 0, .int .i64 0] 24) := by rw [hV3]; exact Go.heap_alloc_new V2 _
            have R3 := Row.upd hrn (by rw [hV3]; exact Upd.alloc [] V2 (.cells #[.slice none 0 0, .int .i64 0] 24) : Upd [] V2 V3) (by simp) (by simp) (M' := []) (by simp)
            have HPN : V2.heap.size ∉ ob (.slice ap x.pl.normal.length cp) := fun hm => Nat.lt_irrefl _ ((hrn).ob_lt _ hm).2
            clear hV3
            refine hK.out _ _ ?_ (fun hNew => ?_)
            · (try dsimp only)
              exact HC6.out _ U3.out
            clear hK K hHeld
            have hHeld := hNew
            clear hNew
            (try simp only [Act.put, List.setIfInBounds_toArray, List.set_cons_zero, List.set_cons_succ])
            refine wpAnyH_ready (rs := [16]) (by kernel_rfl) (by simp) (AllReadyH.cons (by simp only [List.getElem?_toArray, List.getElem?_cons_succ, List.getElem?_cons_zero]; rfl) (fun K hK => ?_) AllReadyH.nil)
            have AP : V3.heap[V2.heap.size]? = some (.cells #[.slice none 0 0, .int .i64 0] 24) := Ap
            have cy0 : V3.cell? ⟨V2.heap.size, 0, none⟩ = some (.slice none 0 0) := by rw [cell_of_block AP]; rfl
            have cy1 : V3.cell? ⟨V2.heap.size, 1, none⟩ = some (.int .i64 0) := by rw [cell_of_block AP]; rfl
            have fy0 : V3.frozen? ⟨V2.heap.size, 0, none⟩ = false := frozen_of_block AP
            have fy1 : V3.frozen? ⟨V2.heap.size, 1, none⟩ = false := frozen_of_block AP
            go_simp
            clear cy0 cy1 fy0 fy1
            refine named_world ?_
            intro V4 hV4
            have AA : V4.heap[V2.heap.size]? = some (.cells #[.slice ap x.pl.normal.length cp, .int .i64 x.pl.off] 24) := by
              have A0 : (V3.setCell ⟨V2.heap.size, 0, none⟩ (.slice ap x.pl.normal.length cp)).heap[V2.heap.size]? = some (.cells #[.slice ap x.pl.normal.length cp, .int .i64 0] 24) := heap_setCell_same V3 V2.heap.size 0 _ _ _ AP
              rw [hV4]; exact heap_setCell_same _ V2.heap.size 1 _ _ _ A0
            have UU : Upd [V2.heap.size] V3 V4 := by rw [hV4]; exact (Upd.setCell (by simp) _).trans (Upd.setCell (by simp) _)
            clear hV4
            have hpw : wr.heap.size ≤ V2.heap.size := (U2.out).size
            have UZ : Upd [] wr V4 := (U3.out).trans' UU (fun j hj => .inr (by simp at hj; omega))
            have RZ : Row (Kd.int .i32) [] 21 wr.heap.size V4 (.slice ap x.pl.normal.length cp) x.pl.normal := (Row.int_any R3 (M' := [V2.heap.size])).upd UU (fun j hj => hj) (fun j hj hm => by rw [List.mem_singleton] at hm; exact HPN (hm ▸ hj)) (by simp)
            refine hK.out _ _ ?_ (fun hNew => ?_)
            · (try dsimp only)
              exact HC6.out _ UZ
            clear hK K hHeld
            have hHeld := hNew
            clear hNew
            (try simp only [Act.put, List.setIfInBounds_toArray, List.set_cons_zero, List.set_cons_succ])
            refine wpAnyH_done (by kernel_rfl) ?_ _
            refine NoPanic.normal ?_
            have HWP : Hid (wr.heap.size ≤ V2.heap.size) := Lib.hid hpw
            have HPL : Hid (V2.heap.size < V4.heap.size) := Lib.hid (block_lt AA)
            have HUZ := Lib.hid UZ
            have HRZ := Lib.hid RZ
            have HAA := Lib.hid AA
            have CP : Hid (∀ W, Upd [] V4 W → W.cell? ⟨b, o + k * 6, none⟩ = some (.bool x.leaf) ∧ W.cell? ⟨b, o + k * 6 + 1, none⟩ = some (.slice ai x.ids.length ci) ∧ W.cell? ⟨b, o + k * 6 + 2, none⟩ = some (.slice an x.pl.normal.length cn) ∧ W.cell? ⟨b, o + k * 6 + 3, none⟩ = some (.int .i64 x.pl.off) ∧ W.cell? ⟨b, o + k * 6 + 4, none⟩ = some (.int .i64 x.left) ∧ W.cell? ⟨b, o + k * 6 + 5, none⟩ = some (.int .i64 x.right) ∧ W.cell? ⟨V2.heap.size, 0, none⟩ = some (.slice ap x.pl.normal.length cp) ∧ W.cell? ⟨V2.heap.size, 1, none⟩ = some (.int .i64 x.pl.off)) := Lib.hid (fun W hu => by
              have hA := upd_far hu HAA.out (by simp)
              obtain ⟨d0, d1, d2, d3, d4, d5⟩ := HC6.out W (HUZ.out.trans hu)
              exact ⟨d0, d1, d2, d3, d4, d5, by rw [cell_of_block hA]; rfl, by rw [cell_of_block hA]; rfl⟩)
            clear UZ RZ AA UU
            go_wp2_with fail
            refine wp_region_noPanic ?_
            refine wp_region_held_drew (S := (fun w' => w'.cell? ⟨b, o + k * 6, none⟩ = some (.bool x.leaf) ∧ w'.cell? ⟨b, o + k * 6 + 1, none⟩ = some (.slice ai x.ids.length ci) ∧ w'.cell? ⟨b, o + k * 6 + 2, none⟩ = some (.slice an x.pl.normal.length cn) ∧ w'.cell? ⟨b, o + k * 6 + 3, none⟩ = some (.int .i64 x.pl.off) ∧ w'.cell? ⟨b, o + k * 6 + 4, none⟩ = some (.int .i64 x.left) ∧ w'.cell? ⟨b, o + k * 6 + 5, none⟩ = some (.int .i64 x.right) ∧ w'.cell? ⟨V2.heap.size, 0, none⟩ = some (.slice ap x.pl.normal.length cp) ∧ w'.cell? ⟨V2.heap.size, 1, none⟩ = some (.int .i64 x.pl.off))) (by kernel_rfl) ?_ (fun hHeld => ?_)
            · (try dsimp only)
              exact CP.out _ (Upd.drew [] V4)
            refine wpAnyH_take (i := 0) (oi := ?_) (v := ?_) ?_ (by kernel_rfl) (by kernel_rfl) (by kernel_rfl) (fun _ _ _ h => h) ?_ (by assumption) ?_
            (rotate_left 2; focus (simp only [List.getElem?_toArray, List.getElem?_cons_succ, List.getElem?_cons_zero]; rfl))
            (focus (refine Or.inl ⟨by rfl, ?_⟩; intro w hSw; (try dsimp only at hSw); go_simp; any_goals with_reducible rfl))
            (try simp only [Act.put, List.setIfInBounds_toArray, List.set_cons_zero, List.set_cons_succ])
            refine wpAnyH_take (i := 1) (oi := ?_) (v := ?_) ?_ (by kernel_rfl) (by kernel_rfl) (by kernel_rfl) (fun _ _ _ h => h) ?_ (by assumption) ?_
            (rotate_left 2; focus (simp only [List.getElem?_toArray, List.getElem?_cons_succ, List.getElem?_cons_zero]; rfl))
            (focus (refine Or.inl ⟨by rfl, ?_⟩; intro w hSw; (try dsimp only at hSw); go_simp; any_goals with_reducible rfl))
            (try simp only [Act.put, List.setIfInBounds_toArray, List.set_cons_zero, List.set_cons_succ])
            refine wpAnyH_take (i := 2) (oi := ?_) (v := ?_) ?_ (by kernel_rfl) (by kernel_rfl) (by kernel_rfl) (fun _ _ _ h => h) ?_ (by assumption) ?_
            (rotate_left 2; focus (simp only [List.getElem?_toArray, List.getElem?_cons_succ, List.getElem?_cons_zero]; rfl))
            (focus (refine Or.inl ⟨by rfl, ?_⟩; intro w hSw; (try dsimp only at hSw); go_simp; any_goals with_reducible rfl))
            (try simp only [Act.put, List.setIfInBounds_toArray, List.set_cons_zero, List.set_cons_succ])
            refine wpAnyH_take (i := 3) (oi := ?_) (v := ?_) ?_ (by kernel_rfl) (by kernel_rfl) (by kernel_rfl) (fun _ _ _ h => h) ?_ (by assumption) ?_
            (rotate_left 2; focus (simp only [List.getElem?_toArray, List.getElem?_cons_succ, List.getElem?_cons_zero]; rfl))
            (focus (refine Or.inl ⟨by rfl, ?_⟩; intro w hSw; (try dsimp only at hSw); go_simp; any_goals with_reducible rfl))
            (try simp only [Act.put, List.setIfInBounds_toArray, List.set_cons_zero, List.set_cons_succ])
            refine wpAnyH_take (i := 4) (oi := ?_) (v := ?_) ?_ (by kernel_rfl) (by kernel_rfl) (by kernel_rfl) (fun _ _ _ h => h) ?_ (by assumption) ?_
            (rotate_left 2; focus (simp only [List.getElem?_toArray, List.getElem?_cons_succ, List.getElem?_cons_zero]; rfl))
            (focus (refine Or.inl ⟨by rfl, ?_⟩; intro w hSw; (try dsimp only at hSw); go_simp; any_goals with_reducible rfl))
            (try simp only [Act.put, List.setIfInBounds_toArray, List.set_cons_zero, List.set_cons_succ])
            refine wpAnyH_take (i := 5) (oi := ?_) (v := ?_) ?_ (by kernel_rfl) (by kernel_rfl) (by kernel_rfl) (fun _ _ _ h => h) ?_ (by assumption) ?_
            (rotate_left 2; focus (simp only [List.getElem?_toArray, List.getElem?_cons_succ, List.getElem?_cons_zero]; rfl))
            (focus (refine Or.inl ⟨by rfl, ?_⟩; intro w hSw; (try dsimp only at hSw); go_simp; any_goals with_reducible rfl))
            (try simp only [Act.put, List.setIfInBounds_toArray, List.set_cons_zero, List.set_cons_succ])
            refine wpAnyH_take (i := 7) (oi := ?_) (v := ?_) ?_ (by kernel_rfl) (by kernel_rfl) (by kernel_rfl) (fun _ _ _ h => h) ?_ (by assumption) ?_
            (rotate_left 2; focus (simp only [List.getElem?_toArray, List.getElem?_cons_succ, List.getElem?_cons_zero]; rfl))
            (focus (refine Or.inl ⟨by rfl, ?_⟩; intro w hSw; (try dsimp only at hSw); go_simp; any_goals with_reducible rfl))
            (try simp only [Act.put, List.setIfInBounds_toArray, List.set_cons_zero, List.set_cons_succ])
            refine wpAnyH_take (i := 8) (oi := ?_) (v := ?_) ?_ (by kernel_rfl) (by kernel_rfl) (by kernel_rfl) (fun _ _ _ h => h) ?_ (by assumption) ?_
            (rotate_left 2; focus (simp only [List.getElem?_toArray, List.getElem?_cons_succ, List.getElem?_cons_zero]; rfl))
            (focus (refine Or.inl ⟨by rfl, ?_⟩; intro w hSw; (try dsimp only at hSw); go_simp; any_goals with_reducible rfl))
            (try simp only [Act.put, List.setIfInBounds_toArray, List.set_cons_zero, List.set_cons_succ])
            refine wpAnyH_take (i := 9) (oi := ?_) (v := ?_) ?_ (by kernel_rfl) (by kernel_rfl) (by kernel_rfl) (fun _ _ _ h => h) ?_ (by assumption) ?_
            (rotate_left 2; focus (simp only [List.getElem?_toArray, List.getElem?_cons_succ, List.getElem?_cons_zero]; rfl))
            (focus (refine Or.inl ⟨by rfl, ?_⟩; intro w hSw; (try dsimp only at hSw); go_simp; any_goals with_reducible rfl))
            (try simp only [Act.put, List.setIfInBounds_toArray, List.set_cons_zero, List.set_cons_succ])
            refine wpAnyH_take (i := 10) (oi := ?_) (v := ?_) ?_ (by kernel_rfl) (by kernel_rfl) (by kernel_rfl) (fun _ _ _ h => h) ?_ (by assumption) ?_
            (rotate_left 2; focus (simp only [List.getElem?_toArray, List.getElem?_cons_succ, List.getElem?_cons_zero]; rfl))
            (focus (refine Or.inl ⟨by rfl, ?_⟩; intro w hSw; (try dsimp only at hSw); go_simp; any_goals with_reducible rfl))
            (try simp only [Act.put, List.setIfInBounds_toArray, List.set_cons_zero, List.set_cons_succ])
            refine wpAnyH_take (i := 11) (oi := ?_) (v := ?_) ?_ (by kernel_rfl) (by kernel_rfl) (by kernel_rfl) (fun _ _ _ h => h) ?_ (by assumption) ?_
            (rotate_left 2; focus (simp only [List.getElem?_toArray, List.getElem?_cons_succ, List.getElem?_cons_zero]; rfl))
            (focus (refine Or.inl ⟨by rfl, ?_⟩; intro w hSw; (try dsimp only at hSw); go_simp; any_goals with_reducible rfl))
            (try simp only [Act.put, List.setIfInBounds_toArray, List.set_cons_zero, List.set_cons_succ])
            refine wpAnyH_take (i := 13) (oi := ?_) (v := ?_) ?_ (by kernel_rfl) (by kernel_rfl) (by kernel_rfl) (fun _ _ _ h => h) ?_ (by assumption) ?_
            (rotate_left 2; focus (simp only [List.getElem?_toArray, List.getElem?_cons_succ, List.getElem?_cons_zero]; rfl))
            (focus (refine Or.inl ⟨by rfl, ?_⟩; intro w hSw; (try dsimp only at hSw); go_simp; any_goals with_reducible rfl))
            (try simp only [Act.put, List.setIfInBounds_toArray, List.set_cons_zero, List.set_cons_succ])
            refine wpAnyH_take (i := 14) (oi := ?_) (v := ?_) ?_ (by kernel_rfl) (by kernel_rfl) (by kernel_rfl) (fun _ _ _ h => h) ?_ (by assumption) ?_
            (rotate_left 2; focus (simp only [List.getElem?_toArray, List.getElem?_cons_succ, List.getElem?_cons_zero]; rfl))
            (focus (refine Or.inl ⟨by rfl, ?_⟩; intro w hSw; (try dsimp only at hSw); go_simp; any_goals with_reducible rfl))
            (try simp only [Act.put, List.setIfInBounds_toArray, List.set_cons_zero, List.set_cons_succ])
            refine wpAnyH_take (i := 15) (oi := ?_) (v := ?_) ?_ (by kernel_rfl) (by kernel_rfl) (by kernel_rfl) (fun _ _ _ h => h) ?_ (by assumption) ?_
            (rotate_left 2; focus (simp only [List.getElem?_toArray, List.getElem?_cons_succ, List.getElem?_cons_zero]; rfl))
            (focus (refine Or.inl ⟨by rfl, ?_⟩; intro w hSw; (try dsimp only at hSw); go_simp; any_goals with_reducible rfl))
            (try simp only [Act.put, List.setIfInBounds_toArray, List.set_cons_zero, List.set_cons_succ])
            refine wpAnyH_take (i := 16) (oi := ?_) (v := ?_) ?_ (by kernel_rfl) (by kernel_rfl) (by kernel_rfl) (fun _ _ _ h => h) ?_ (by assumption) ?_
            (rotate_left 2; focus (simp only [List.getElem?_toArray, List.getElem?_cons_succ, List.getElem?_cons_zero]; rfl))
            (focus (refine Or.inl ⟨by rfl, ?_⟩; intro w hSw; (try dsimp only at hSw); go_simp; any_goals with_reducible rfl))
            (try simp only [Act.put, List.setIfInBounds_toArray, List.set_cons_zero, List.set_cons_succ])
            refine wpAnyH_take (i := 17) (oi := ?_) (v := ?_) ?_ (by kernel_rfl) (by kernel_rfl) (by kernel_rfl) (fun _ _ _ h => h) ?_ (by assumption) ?_
            (rotate_left 2; focus (simp only [List.getElem?_toArray, List.getElem?_cons_succ, List.getElem?_cons_zero]; rfl))
            (focus (refine Or.inl ⟨by rfl, ?_⟩; intro w hSw; (try dsimp only at hSw); go_simp; any_goals with_reducible rfl))
            (try simp only [Act.put, List.setIfInBounds_toArray, List.set_cons_zero, List.set_cons_succ])
            refine wpAnyH_take (i := 18) (oi := ?_) (v := ?_) ?_ (by kernel_rfl) (by kernel_rfl) (by kernel_rfl) (fun _ _ _ h => h) ?_ (by assumption) ?_
            (rotate_left 2; focus (simp only [List.getElem?_toArray, List.getElem?_cons_succ, List.getElem?_cons_zero]; rfl))
            (focus (refine Or.inl ⟨by rfl, ?_⟩; intro w hSw; (try dsimp only at hSw); go_simp; any_goals with_reducible rfl))
            (try simp only [Act.put, List.setIfInBounds_toArray, List.set_cons_zero, List.set_cons_succ])
            refine wpAnyH_take (i := 19) (oi := ?_) (v := ?_) ?_ (by kernel_rfl) (by kernel_rfl) (by kernel_rfl) (fun _ _ _ h => h) ?_ (by assumption) ?_
            (rotate_left 2; focus (simp only [List.getElem?_toArray, List.getElem?_cons_succ, List.getElem?_cons_zero]; rfl))
            (focus (refine Or.inl ⟨by rfl, ?_⟩; intro w hSw; (try dsimp only at hSw); go_simp; any_goals with_reducible rfl))
            (try simp only [Act.put, List.setIfInBounds_toArray, List.set_cons_zero, List.set_cons_succ])
            refine wpAnyH_take (i := 20) (oi := ?_) (v := ?_) ?_ (by kernel_rfl) (by kernel_rfl) (by kernel_rfl) (fun _ _ _ h => h) ?_ (by assumption) ?_
            (rotate_left 2; focus (simp only [List.getElem?_toArray, List.getElem?_cons_succ, List.getElem?_cons_zero]; rfl))
            (focus (refine Or.inl ⟨by rfl, ?_⟩; intro w hSw; (try dsimp only at hSw); go_simp; any_goals with_reducible rfl))
            (try simp only [Act.put, List.setIfInBounds_toArray, List.set_cons_zero, List.set_cons_succ])
            refine wpAnyH_take (i := 21) (oi := ?_) (v := ?_) ?_ (by kernel_rfl) (by kernel_rfl) (by kernel_rfl) (fun _ _ _ h => h) ?_ (by assumption) ?_
            (rotate_left 2; focus (simp only [List.getElem?_toArray, List.getElem?_cons_succ, List.getElem?_cons_zero]; rfl))
            (focus (refine Or.inl ⟨by rfl, ?_⟩; intro w hSw; (try dsimp only at hSw); go_simp; any_goals with_reducible rfl))
            (try simp only [Act.put, List.setIfInBounds_toArray, List.set_cons_zero, List.set_cons_succ])
            refine wpAnyH_take (i := 22) (oi := ?_) (v := ?_) ?_ (by kernel_rfl) (by kernel_rfl) (by kernel_rfl) (fun _ _ _ h => h) ?_ (by assumption) ?_
            (rotate_left 2; focus (simp only [List.getElem?_toArray, List.getElem?_cons_succ, List.getElem?_cons_zero]; rfl))
            (focus (refine Or.inl ⟨by rfl, ?_⟩; intro w hSw; (try dsimp only at hSw); go_simp; any_goals with_reducible rfl))
            (try simp only [Act.put, List.setIfInBounds_toArray, List.set_cons_zero, List.set_cons_succ])
            refine wpAnyH_take (i := 23) (oi := ?_) (v := ?_) ?_ (by kernel_rfl) (by kernel_rfl) (by kernel_rfl) (fun _ _ _ h => h) ?_ (by assumption) ?_
            (rotate_left 2; focus (simp only [List.getElem?_toArray, List.getElem?_cons_succ, List.getElem?_cons_zero]; rfl))
            (focus (refine Or.inl ⟨by rfl, ?_⟩; intro w hSw; (try dsimp only at hSw); go_simp; any_goals with_reducible rfl))
            (try simp only [Act.put, List.setIfInBounds_toArray, List.set_cons_zero, List.set_cons_succ])
            refine wpAnyH_ready (rs := [6]) (by kernel_rfl) (by simp) (AllReadyH.cons (by simp only [List.getElem?_toArray, List.getElem?_cons_succ, List.getElem?_cons_zero]; rfl) (fun K hK => ?_) AllReadyH.nil)
            go_simp
            refine named_world ?_
            intro V21 hV21
            have U21 : Hid (Upd [] V4 V21) := Lib.hid (by rw [hV21]; exact (Upd.drew [] V4).trans (Upd.alloc [] V4.drew (.cells #[] 3)))
            have Ai : V21.heap[V4.drew.heap.size]? = some (.cells #[] 3) := by rw [hV21]; exact Go.heap_alloc_new V4.drew _
            clear hV21
            refine hK.out _ _ ?_ (fun hNew => ?_)
            · (try dsimp only)
              exact CP.out _ U21.out
            clear hK K hHeld
            have hHeld := hNew
            clear hNew
            (try simp only [Act.put, List.setIfInBounds_toArray, List.set_cons_zero, List.set_cons_succ])
            refine wpAnyH_ready (rs := [12]) (by kernel_rfl) (by simp) (AllReadyH.cons (by simp only [List.getElem?_toArray, List.getElem?_cons_succ, List.getElem?_cons_zero]; rfl) (fun K hK => ?_) AllReadyH.nil)
            refine step_row_append rfl (.tmp 82) (.tmp 87) _ rfl (K := Kd.int .i64) (M := []) (B := V4.heap.size) (v := .slice (some ⟨V4.drew.heap.size, 0, none⟩) 0 0) (u := .slice ai x.ids.length ci) (l := []) (l2 := x.ids) rfl rfl ?_ Try.underlying46 JI.out JZ0.out JZ1.out JZ2.out rfl (by decide) ?_ ?_ ?_ ?_ ?_
            · exact row_new Ai (Upd.drew [] V4).size
            · exact HNI.out _ _ (HUZ.out.trans (U21.out)) (fun j hj => by simp [ob, Value.ownBlock] at hj; subst hj; exact (Nat.le_trans HUZ.out.size (Upd.drew [] V4).size))
            · (simp [maxLen]; omega)
            · (simp; omega)
            · exact (U21.out).size
            intro vi2 Y22 hri hui hoi
            simp only [List.nil_append] at hri
            have U22 : Hid (Upd [] V4 Y22) := Lib.hid ((U21.out).trans' hui (fun j hj => .inr (by simp [ob, Value.ownBlock] at hj; subst hj; exact (Upd.drew [] V4).size)))
            obtain ⟨aj, cj, rfl, hlj, hcj⟩ := row_form hri
            have HRI := Lib.hid hri
            clear hri hui hoi Ai
            refine hK.out _ _ ?_ (fun hNew => ?_)
            · (try dsimp only)
              exact CP.out _ U22.out
            clear hK K hHeld
            have hHeld := hNew
            clear hNew
            (try simp only [Act.put, List.setIfInBounds_toArray, List.set_cons_zero, List.set_cons_succ])
            refine wpAnyH_take (i := 24) (oi := ?_) (v := ?_) ?_ (by kernel_rfl) (by kernel_rfl) (by kernel_rfl) (fun _ _ _ h => h) ?_ (by assumption) ?_
            (rotate_left 2; focus (simp only [List.getElem?_toArray, List.getElem?_cons_succ, List.getElem?_cons_zero]; rfl))
            (focus (refine Or.inl ⟨by rfl, ?_⟩; intro w hSw; (try dsimp only at hSw); go_simp; any_goals with_reducible rfl))
            (try simp only [Act.put, List.setIfInBounds_toArray, List.set_cons_zero, List.set_cons_succ])
            refine wpAnyH_ready (rs := [25]) (by kernel_rfl) (by simp) (AllReadyH.cons (by simp only [List.getElem?_toArray, List.getElem?_cons_succ, List.getElem?_cons_zero]; rfl) (fun K hK => ?_) AllReadyH.nil)
            go_simp
            refine named_world ?_
            intro V23 hV23
            have UN : Hid (Upd [] Y22 V23) := Lib.hid (by rw [hV23]; exact Upd.alloc [] Y22 _)
            have U23 : Hid (Upd [] V4 V23) := Lib.hid ((U22.out).trans UN.out)
            have AN : Hid (V23.heap[Y22.heap.size]? = some (.cells #[.bool x.leaf, .slice aj x.ids.length cj, .slice ap x.pl.normal.length cp, .int .i64 x.pl.off, .int .i64 x.left, .int .i64 x.right] 48)) := Lib.hid (by rw [hV23]; exact Go.heap_alloc_new Y22 _)
            clear hV23
            obtain ⟨L, y, M', hL, hMlt, hrow, hat, hfin⟩ := hcp.out.grow HX.out (HUZ.out.trans U22.out) hb.out.size (HRI.out.base HUZ.out.size) ((HRZ.out).upd U22.out (by simp) (by simp) (M' := []) (by simp)) (fun j hj hm => by have h1 := (HRI.out.ob_lt j hj).1; have h2 := (HRZ.out.ob_lt j hm).2; omega) HWO.out HWL.out HWR.out
            have HROW := Lib.hid hrow
            have HAT := Lib.hid hat
            have HFIN := Lib.hid hfin
            have HMLT := Lib.hid hMlt
            clear hrow hat hfin hMlt
            refine hK.out _ _ ?_ (fun hNew => ?_)
            · (try dsimp only)
              exact CP.out _ U23.out
            clear hK K hHeld
            have hHeld := hNew
            clear hNew
            (try simp only [Act.put, List.setIfInBounds_toArray, List.set_cons_zero, List.set_cons_succ])
            refine wpAnyH_ready (rs := [26]) (by kernel_rfl) (by simp) (AllReadyH.cons (by simp only [List.getElem?_toArray, List.getElem?_cons_succ, List.getElem?_cons_zero]; rfl) (fun K hK => ?_) AllReadyH.nil)
            refine step_row_append rfl (.tmp 76) (.tmp 101) _ rfl (K := kHole) (M := M') (B := w3.heap.size) (v := u13) (u := .slice (some ⟨Y22.heap.size, 0, none⟩) 1 1) (l := L) (l2 := [y]) rfl rfl ?_ Try.underlying43 KI.out KZ0.out KZ1.out KZ2.out rfl (by decide) ?_ ?_ ?_ ?_ ?_
            · exact HROW.out.upd UN.out (by simp) (by simp) (fun j hj => .inl hj)
            · exact hole_one AN.out (fun hm => by
                rcases List.mem_append.1 hm with hm | hm
                · exact Nat.lt_irrefl _ (HROW.out.ob_lt _ hm).2
                · exact Nat.lt_irrefl _ (HMLT.out _ hm)) (HAT.out.upd UN.out (by simp) (fun j hj => .inl hj))
            · (simp [maxLen]; omega)
            · (simp; omega)
            · exact Nat.le_trans hb.out.size (HUZ.out.trans U23.out).size
            intro v3 Z24 hr3 hu3 ho3
            have HCPY : Hid (Cpy w3.heap.size Z24 v3 l a (k + 1) M') := Lib.hid (HFIN.out v3 Z24 hr3 ((UN.out.mono (by simp)).trans hu3) (by
              rcases ho3 with e | e
              · exact .inl e
              · exact .inr ⟨_, e, UN.out.size⟩))
            have HBZ : Hid (Below w3.heap.size w3 Z24) := Lib.hid ((hb.out.trans ((HUZ.out.trans U23.out).belowB hb.out.size (by simp))).trans (hu3.belowB (Nat.le_trans hb.out.size (HUZ.out.trans U23.out).size) (fun j hj => (HROW.out.ob_lt j hj).1)))
            have HU3 := Lib.hid hu3
            clear hu3 hr3 ho3
            have hbu : b ∉ ob u13 := fun hm => by have := (HROW.out.ob_lt _ hm).1; omega
            have hpu : V2.heap.size ∉ ob u13 := fun hm => by
              have h1 := (hcp.out.row.elim (fun L h => h.1.ob_lt _ hm)).2
              have h2 := HWP.out
              omega
            obtain ⟨d0, d1, d2, d3, d4, d5, d6, d7⟩ := CP.out _ U23.out
            have hpl := HPL.out
            have hsz := (U23.out).size
            have hsy := (HUZ.out.trans U23.out).size
            refine hK.out _ _ ?_ (fun hNew => ?_)
            · (try dsimp only)
              exact ⟨(HU3.out.cell (a := ⟨b, _, none⟩) (by simp only; omega) hbu).trans d0, (HU3.out.cell (a := ⟨b, _, none⟩) (by simp only; omega) hbu).trans d1, (HU3.out.cell (a := ⟨b, _, none⟩) (by simp only; omega) hbu).trans d2, (HU3.out.cell (a := ⟨b, _, none⟩) (by simp only; omega) hbu).trans d3, (HU3.out.cell (a := ⟨b, _, none⟩) (by simp only; omega) hbu).trans d4, (HU3.out.cell (a := ⟨b, _, none⟩) (by simp only; omega) hbu).trans d5, (HU3.out.cell (a := ⟨V2.heap.size, _, none⟩) (by simp only; omega) hpu).trans d6, (HU3.out.cell (a := ⟨V2.heap.size, _, none⟩) (by simp only; omega) hpu).trans d7⟩
            clear hK K hHeld
            have hHeld := hNew
            clear hNew
            (try simp only [Act.put, List.setIfInBounds_toArray, List.set_cons_zero, List.set_cons_succ])
            refine wpAnyH_take (i := 27) (oi := ?_) (v := ?_) ?_ (by kernel_rfl) (by kernel_rfl) (by kernel_rfl) (fun _ _ _ h => h) ?_ (by assumption) ?_
            (rotate_left 2; focus (simp only [List.getElem?_toArray, List.getElem?_cons_succ, List.getElem?_cons_zero]; rfl))
            (focus (refine Or.inl ⟨by rfl, ?_⟩; intro w hSw; (try dsimp only at hSw); go_simp; any_goals with_reducible rfl))
            (try simp only [Act.put, List.setIfInBounds_toArray, List.set_cons_zero, List.set_cons_succ])
            refine wpAnyH_done (by kernel_rfl) ?_ _
            refine NoPanic.normal ?_
            go_wp2_with fail
            go_roundw
            case rel => exact ⟨k + 1, M', by omega, by go_num, HCPY, HBZ⟩
            case measure => simp [intOf]; omega
          · go_simp
            refine named_world ?_
            intro V2 hV2
            have U2 : Hid (Upd [] wr V2) := Lib.hid (by rw [hV2]; exact (U1.out).trans (Upd.alloc [] V1 (.cells #[.slice none 0 0, .int .i64 0] 24)))
            have Ap : V2.heap[V1.heap.size]? = some (.cells #[.slice none 0 0, .int .i64 0] 24) := by rw [hV2]; exact Go.heap_alloc_new V1 _
            have Ae2 : V2.heap[wr.drew.heap.size]? = some (.cells #[] 21) := by rw [hV2]; exact (Below.heap_alloc V1 _ _ (block_lt Ae)).trans Ae
            clear hV2
            refine hK.out _ _ ?_ (fun hNew => ?_)
            · (try dsimp only)
              exact HC6.out _ U2.out
            clear hK K hHeld
            have hHeld := hNew
            clear hNew
            (try simp only [Act.put, List.setIfInBounds_toArray, List.set_cons_zero, List.set_cons_succ])
            refine wpAnyH_ready (rs := [7]) (by kernel_rfl) (by simp) (AllReadyH.cons (by simp only [List.getElem?_toArray, List.getElem?_cons_succ, List.getElem?_cons_zero]; rfl) (fun K hK => ?_) AllReadyH.nil)
            refine step_row_append rfl (.tmp 61) (.tmp 67) _ rfl (K := Kd.int .i32) (M := []) (B := wr.heap.size) (v := .slice (some ⟨wr.drew.heap.size, 0, none⟩) 0 0) (u := .slice an x.pl.normal.length cn) (l := []) (l2 := x.pl.normal) rfl rfl ?_ Try.underlying22 HI.out HZ0.out HZ1.out HZ2.out rfl (by decide) ?_ ?_ ?_ ?_ ?_
            · exact row_new Ae2 ((Upd.drew [] wr).size)
            · exact HNO.out _ _ (U2.out) (fun j hj => by simp [ob, Value.ownBlock] at hj; subst hj; exact ((Upd.drew [] wr).size))
            · (simp [maxLen]; omega)
            · (simp; omega)
            · exact (U2.out).size
            intro vn2 V3 hrn hun hon
            simp only [List.nil_append] at hrn
            have U3 : Hid (Upd [] wr V3) := Lib.hid ((U2.out).trans' hun (fun j hj => .inr (by simp [ob, Value.ownBlock] at hj; subst hj; exact ((Upd.drew [] wr).size))))
            obtain ⟨ap, cp, rfl, hlp, hcp2⟩ := row_form hrn
            have Ap3 : V3.heap[V1.heap.size]? = some (.cells #[.slice none 0 0, .int .i64 0] 24) := (hun.block _ (block_lt Ap) (by rw [show ob (Value.slice (some ⟨wr.drew.heap.size, 0, none⟩) 0 0) = [wr.drew.heap.size] from rfl, List.mem_singleton]; exact Nat.ne_of_gt (block_lt Ae))).trans Ap
            have HPN : V1.heap.size ∉ ob (.slice ap x.pl.normal.length cp) := fun hm => by
              rcases hon with e | e
              · rw [e, show ob (Value.slice (some ⟨wr.drew.heap.size, 0, none⟩) 0 0) = [wr.drew.heap.size] from rfl, List.mem_singleton] at hm; exact absurd hm (Nat.ne_of_gt (block_lt Ae))
              · rw [e, List.mem_singleton] at hm; exact absurd hm (Nat.ne_of_lt (block_lt Ap))
            refine hK.out _ _ ?_ (fun hNew => ?_)
            · (try dsimp only)
              exact HC6.out _ U3.out
            clear hK K hHeld
            have hHeld := hNew
            clear hNew
            (try simp only [Act.put, List.setIfInBounds_toArray, List.set_cons_zero, List.set_cons_succ])
            refine wpAnyH_take (i := 14) (oi := ?_) (v := ?_) ?_ (by kernel_rfl) (by kernel_rfl) (by kernel_rfl) (fun _ _ _ h => h) ?_ (by assumption) ?_
            (rotate_left 2; focus (simp only [List.getElem?_toArray, List.getElem?_cons_succ, List.getElem?_cons_zero]; rfl))
            (focus (refine Or.inl ⟨by rfl, ?_⟩; intro w hSw; (try dsimp only at hSw); go_simp; any_goals with_reducible rfl))
            (try simp only [Act.put, List.setIfInBounds_toArray, List.set_cons_zero, List.set_cons_succ])
            refine wpAnyH_ready (rs := [16]) (by kernel_rfl) (by simp) (AllReadyH.cons (by simp only [List.getElem?_toArray, List.getElem?_cons_succ, List.getElem?_cons_zero]; rfl) (fun K hK => ?_) AllReadyH.nil)
            have AP : V3.heap[V1.heap.size]? = some (.cells #[.slice none 0 0, .int .i64 0] 24) := Ap3
            have cy0 : V3.cell? ⟨V1.heap.size, 0, none⟩ = some (.slice none 0 0) := by rw [cell_of_block AP]; rfl
            have cy1 : V3.cell? ⟨V1.heap.size, 1, none⟩ = some (.int .i64 0) := by rw [cell_of_block AP]; rfl
            have fy0 : V3.frozen? ⟨V1.heap.size, 0, none⟩ = false := frozen_of_block AP
            have fy1 : V3.frozen? ⟨V1.heap.size, 1, none⟩ = false := frozen_of_block AP
            go_simp
            clear cy0 cy1 fy0 fy1
            refine named_world ?_
            intro V4 hV4
            have AA : V4.heap[V1.heap.size]? = some (.cells #[.slice ap x.pl.normal.length cp, .int .i64 x.pl.off] 24) := by
              have A0 : (V3.setCell ⟨V1.heap.size, 0, none⟩ (.slice ap x.pl.normal.length cp)).heap[V1.heap.size]? = some (.cells #[.slice ap x.pl.normal.length cp, .int .i64 0] 24) := heap_setCell_same V3 V1.heap.size 0 _ _ _ AP
              rw [hV4]; exact heap_setCell_same _ V1.heap.size 1 _ _ _ A0
            have UU : Upd [V1.heap.size] V3 V4 := by rw [hV4]; exact (Upd.setCell (by simp) _).trans (Upd.setCell (by simp) _)
            clear hV4
            have hpw : wr.heap.size ≤ V1.heap.size := (U1.out).size
            have UZ : Upd [] wr V4 := (U3.out).trans' UU (fun j hj => .inr (by simp at hj; omega))
            have RZ : Row (Kd.int .i32) [] 21 wr.heap.size V4 (.slice ap x.pl.normal.length cp) x.pl.normal := (Row.int_any hrn (M' := [V1.heap.size])).upd UU (fun j hj => hj) (fun j hj hm => by rw [List.mem_singleton] at hm; exact HPN (hm ▸ hj)) (by simp)
            refine hK.out _ _ ?_ (fun hNew => ?_)
            · (try dsimp only)
              exact HC6.out _ UZ
            clear hK K hHeld
            have hHeld := hNew
            clear hNew
            (try simp only [Act.put, List.setIfInBounds_toArray, List.set_cons_zero, List.set_cons_succ])
            refine wpAnyH_done (by kernel_rfl) ?_ _
            refine NoPanic.normal ?_
            have HWP : Hid (wr.heap.size ≤ V1.heap.size) := Lib.hid hpw
            have HPL : Hid (V1.heap.size < V4.heap.size) := Lib.hid (block_lt AA)
            have HUZ := Lib.hid UZ
            have HRZ := Lib.hid RZ
            have HAA := Lib.hid AA
            have CP : Hid (∀ W, Upd [] V4 W → W.cell? ⟨b, o + k * 6, none⟩ = some (.bool x.leaf) ∧ W.cell? ⟨b, o + k * 6 + 1, none⟩ = some (.slice ai x.ids.length ci) ∧ W.cell? ⟨b, o + k * 6 + 2, none⟩ = some (.slice an x.pl.normal.length cn) ∧ W.cell? ⟨b, o + k * 6 + 3, none⟩ = some (.int .i64 x.pl.off) ∧ W.cell? ⟨b, o + k * 6 + 4, none⟩ = some (.int .i64 x.left) ∧ W.cell? ⟨b, o + k * 6 + 5, none⟩ = some (.int .i64 x.right) ∧ W.cell? ⟨V1.heap.size, 0, none⟩ = some (.slice ap x.pl.normal.length cp) ∧ W.cell? ⟨V1.heap.size, 1, none⟩ = some (.int .i64 x.pl.off)) := Lib.hid (fun W hu => by
              have hA := upd_far hu HAA.out (by simp)
              obtain ⟨d0, d1, d2, d3, d4, d5⟩ := HC6.out W (HUZ.out.trans hu)
              exact ⟨d0, d1, d2, d3, d4, d5, by rw [cell_of_block hA]; rfl, by rw [cell_of_block hA]; rfl⟩)
            clear UZ RZ AA UU
            go_wp2_with fail
            refine wp_region_noPanic ?_
            refine wp_region_held_drew (S := (fun w' => w'.cell? ⟨b, o + k * 6, none⟩ = some (.bool x.leaf) ∧ w'.cell? ⟨b, o + k * 6 + 1, none⟩ = some (.slice ai x.ids.length ci) ∧ w'.cell? ⟨b, o + k * 6 + 2, none⟩ = some (.slice an x.pl.normal.length cn) ∧ w'.cell? ⟨b, o + k * 6 + 3, none⟩ = some (.int .i64 x.pl.off) ∧ w'.cell? ⟨b, o + k * 6 + 4, none⟩ = some (.int .i64 x.left) ∧ w'.cell? ⟨b, o + k * 6 + 5, none⟩ = some (.int .i64 x.right) ∧ w'.cell? ⟨V1.heap.size, 0, none⟩ = some (.slice ap x.pl.normal.length cp) ∧ w'.cell? ⟨V1.heap.size, 1, none⟩ = some (.int .i64 x.pl.off))) (by kernel_rfl) ?_ (fun hHeld => ?_)
            · (try dsimp only)
              exact CP.out _ (Upd.drew [] V4)
            refine wpAnyH_take (i := 0) (oi := ?_) (v := ?_) ?_ (by kernel_rfl) (by kernel_rfl) (by kernel_rfl) (fun _ _ _ h => h) ?_ (by assumption) ?_
            (rotate_left 2; focus (simp only [List.getElem?_toArray, List.getElem?_cons_succ, List.getElem?_cons_zero]; rfl))
            (focus (refine Or.inl ⟨by rfl, ?_⟩; intro w hSw; (try dsimp only at hSw); go_simp; any_goals with_reducible rfl))
            (try simp only [Act.put, List.setIfInBounds_toArray, List.set_cons_zero, List.set_cons_succ])
            refine wpAnyH_take (i := 1) (oi := ?_) (v := ?_) ?_ (by kernel_rfl) (by kernel_rfl) (by kernel_rfl) (fun _ _ _ h => h) ?_ (by assumption) ?_
            (rotate_left 2; focus (simp only [List.getElem?_toArray, List.getElem?_cons_succ, List.getElem?_cons_zero]; rfl))
            (focus (refine Or.inl ⟨by rfl, ?_⟩; intro w hSw; (try dsimp only at hSw); go_simp; any_goals with_reducible rfl))
            (try simp only [Act.put, List.setIfInBounds_toArray, List.set_cons_zero, List.set_cons_succ])
            refine wpAnyH_take (i := 2) (oi := ?_) (v := ?_) ?_ (by kernel_rfl) (by kernel_rfl) (by kernel_rfl) (fun _ _ _ h => h) ?_ (by assumption) ?_
            (rotate_left 2; focus (simp only [List.getElem?_toArray, List.getElem?_cons_succ, List.getElem?_cons_zero]; rfl))
            (focus (refine Or.inl ⟨by rfl, ?_⟩; intro w hSw; (try dsimp only at hSw); go_simp; any_goals with_reducible rfl))
            (try simp only [Act.put, List.setIfInBounds_toArray, List.set_cons_zero, List.set_cons_succ])
            refine wpAnyH_take (i := 3) (oi := ?_) (v := ?_) ?_ (by kernel_rfl) (by kernel_rfl) (by kernel_rfl) (fun _ _ _ h => h) ?_ (by assumption) ?_
            (rotate_left 2; focus (simp only [List.getElem?_toArray, List.getElem?_cons_succ, List.getElem?_cons_zero]; rfl))
            (focus (refine Or.inl ⟨by rfl, ?_⟩; intro w hSw; (try dsimp only at hSw); go_simp; any_goals with_reducible rfl))
            (try simp only [Act.put, List.setIfInBounds_toArray, List.set_cons_zero, List.set_cons_succ])
            refine wpAnyH_take (i := 4) (oi := ?_) (v := ?_) ?_ (by kernel_rfl) (by kernel_rfl) (by kernel_rfl) (fun _ _ _ h => h) ?_ (by assumption) ?_
            (rotate_left 2; focus (simp only [List.getElem?_toArray, List.getElem?_cons_succ, List.getElem?_cons_zero]; rfl))
            (focus (refine Or.inl ⟨by rfl, ?_⟩; intro w hSw; (try dsimp only at hSw); go_simp; any_goals with_reducible rfl))
            (try simp only [Act.put, List.setIfInBounds_toArray, List.set_cons_zero, List.set_cons_succ])
            refine wpAnyH_take (i := 5) (oi := ?_) (v := ?_) ?_ (by kernel_rfl) (by kernel_rfl) (by kernel_rfl) (fun _ _ _ h => h) ?_ (by assumption) ?_
            (rotate_left 2; focus (simp only [List.getElem?_toArray, List.getElem?_cons_succ, List.getElem?_cons_zero]; rfl))
            (focus (refine Or.inl ⟨by rfl, ?_⟩; intro w hSw; (try dsimp only at hSw); go_simp; any_goals with_reducible rfl))
            (try simp only [Act.put, List.setIfInBounds_toArray, List.set_cons_zero, List.set_cons_succ])
            refine wpAnyH_take (i := 7) (oi := ?_) (v := ?_) ?_ (by kernel_rfl) (by kernel_rfl) (by kernel_rfl) (fun _ _ _ h => h) ?_ (by assumption) ?_
            (rotate_left 2; focus (simp only [List.getElem?_toArray, List.getElem?_cons_succ, List.getElem?_cons_zero]; rfl))
            (focus (refine Or.inl ⟨by rfl, ?_⟩; intro w hSw; (try dsimp only at hSw); go_simp; any_goals with_reducible rfl))
            (try simp only [Act.put, List.setIfInBounds_toArray, List.set_cons_zero, List.set_cons_succ])
            refine wpAnyH_take (i := 8) (oi := ?_) (v := ?_) ?_ (by kernel_rfl) (by kernel_rfl) (by kernel_rfl) (fun _ _ _ h => h) ?_ (by assumption) ?_
            (rotate_left 2; focus (simp only [List.getElem?_toArray, List.getElem?_cons_succ, List.getElem?_cons_zero]; rfl))
            (focus (refine Or.inl ⟨by rfl, ?_⟩; intro w hSw; (try dsimp only at hSw); go_simp; any_goals with_reducible rfl))
            (try simp only [Act.put, List.setIfInBounds_toArray, List.set_cons_zero, List.set_cons_succ])
            refine wpAnyH_take (i := 9) (oi := ?_) (v := ?_) ?_ (by kernel_rfl) (by kernel_rfl) (by kernel_rfl) (fun _ _ _ h => h) ?_ (by assumption) ?_
            (rotate_left 2; focus (simp only [List.getElem?_toArray, List.getElem?_cons_succ, List.getElem?_cons_zero]; rfl))
            (focus (refine Or.inl ⟨by rfl, ?_⟩; intro w hSw; (try dsimp only at hSw); go_simp; any_goals with_reducible rfl))
            (try simp only [Act.put, List.setIfInBounds_toArray, List.set_cons_zero, List.set_cons_succ])
            refine wpAnyH_take (i := 10) (oi := ?_) (v := ?_) ?_ (by kernel_rfl) (by kernel_rfl) (by kernel_rfl) (fun _ _ _ h => h) ?_ (by assumption) ?_
            (rotate_left 2; focus (simp only [List.getElem?_toArray, List.getElem?_cons_succ, List.getElem?_cons_zero]; rfl))
            (focus (refine Or.inl ⟨by rfl, ?_⟩; intro w hSw; (try dsimp only at hSw); go_simp; any_goals with_reducible rfl))
            (try simp only [Act.put, List.setIfInBounds_toArray, List.set_cons_zero, List.set_cons_succ])
            refine wpAnyH_take (i := 11) (oi := ?_) (v := ?_) ?_ (by kernel_rfl) (by kernel_rfl) (by kernel_rfl) (fun _ _ _ h => h) ?_ (by assumption) ?_
            (rotate_left 2; focus (simp only [List.getElem?_toArray, List.getElem?_cons_succ, List.getElem?_cons_zero]; rfl))
            (focus (refine Or.inl ⟨by rfl, ?_⟩; intro w hSw; (try dsimp only at hSw); go_simp; any_goals with_reducible rfl))
            (try simp only [Act.put, List.setIfInBounds_toArray, List.set_cons_zero, List.set_cons_succ])
            refine wpAnyH_take (i := 13) (oi := ?_) (v := ?_) ?_ (by kernel_rfl) (by kernel_rfl) (by kernel_rfl) (fun _ _ _ h => h) ?_ (by assumption) ?_
            (rotate_left 2; focus (simp only [List.getElem?_toArray, List.getElem?_cons_succ, List.getElem?_cons_zero]; rfl))
            (focus (refine Or.inl ⟨by rfl, ?_⟩; intro w hSw; (try dsimp only at hSw); go_simp; any_goals with_reducible rfl))
            (try simp only [Act.put, List.setIfInBounds_toArray, List.set_cons_zero, List.set_cons_succ])
            refine wpAnyH_take (i := 14) (oi := ?_) (v := ?_) ?_ (by kernel_rfl) (by kernel_rfl) (by kernel_rfl) (fun _ _ _ h => h) ?_ (by assumption) ?_
            (rotate_left 2; focus (simp only [List.getElem?_toArray, List.getElem?_cons_succ, List.getElem?_cons_zero]; rfl))
            (focus (refine Or.inl ⟨by rfl, ?_⟩; intro w hSw; (try dsimp only at hSw); go_simp; any_goals with_reducible rfl))
            (try simp only [Act.put, List.setIfInBounds_toArray, List.set_cons_zero, List.set_cons_succ])
            refine wpAnyH_take (i := 15) (oi := ?_) (v := ?_) ?_ (by kernel_rfl) (by kernel_rfl) (by kernel_rfl) (fun _ _ _ h => h) ?_ (by assumption) ?_
            (rotate_left 2; focus (simp only [List.getElem?_toArray, List.getElem?_cons_succ, List.getElem?_cons_zero]; rfl))
            (focus (refine Or.inl ⟨by rfl, ?_⟩; intro w hSw; (try dsimp only at hSw); go_simp; any_goals with_reducible rfl))
            (try simp only [Act.put, List.setIfInBounds_toArray, List.set_cons_zero, List.set_cons_succ])
            refine wpAnyH_take (i := 16) (oi := ?_) (v := ?_) ?_ (by kernel_rfl) (by kernel_rfl) (by kernel_rfl) (fun _ _ _ h => h) ?_ (by assumption) ?_
            (rotate_left 2; focus (simp only [List.getElem?_toArray, List.getElem?_cons_succ, List.getElem?_cons_zero]; rfl))
            (focus (refine Or.inl ⟨by rfl, ?_⟩; intro w hSw; (try dsimp only at hSw); go_simp; any_goals with_reducible rfl))
            (try simp only [Act.put, List.setIfInBounds_toArray, List.set_cons_zero, List.set_cons_succ])
            refine wpAnyH_take (i := 17) (oi := ?_) (v := ?_) ?_ (by kernel_rfl) (by kernel_rfl) (by kernel_rfl) (fun _ _ _ h => h) ?_ (by assumption) ?_
            (rotate_left 2; focus (simp only [List.getElem?_toArray, List.getElem?_cons_succ, List.getElem?_cons_zero]; rfl))
            (focus (refine Or.inl ⟨by rfl, ?_⟩; intro w hSw; (try dsimp only at hSw); go_simp; any_goals with_reducible rfl))
            (try simp only [Act.put, List.setIfInBounds_toArray, List.set_cons_zero, List.set_cons_succ])
            refine wpAnyH_take (i := 18) (oi := ?_) (v := ?_) ?_ (by kernel_rfl) (by kernel_rfl) (by kernel_rfl) (fun _ _ _ h => h) ?_ (by assumption) ?_
            (rotate_left 2; focus (simp only [List.getElem?_toArray, List.getElem?_cons_succ, List.getElem?_cons_zero]; rfl))
            (focus (refine Or.inl ⟨by rfl, ?_⟩; intro w hSw; (try dsimp only at hSw); go_simp; any_goals with_reducible rfl))
            (try simp only [Act.put, List.setIfInBounds_toArray, List.set_cons_zero, List.set_cons_succ])
            refine wpAnyH_take (i := 19) (oi := ?_) (v := ?_) ?_ (by kernel_rfl) (by kernel_rfl) (by kernel_rfl) (fun _ _ _ h => h) ?_ (by assumption) ?_
            (rotate_left 2; focus (simp only [List.getElem?_toArray, List.getElem?_cons_succ, List.getElem?_cons_zero]; rfl))
            (focus (refine Or.inl ⟨by rfl, ?_⟩; intro w hSw; (try dsimp only at hSw); go_simp; any_goals with_reducible rfl))
            (try simp only [Act.put, List.setIfInBounds_toArray, List.set_cons_zero, List.set_cons_succ])
            refine wpAnyH_take (i := 20) (oi := ?_) (v := ?_) ?_ (by kernel_rfl) (by kernel_rfl) (by kernel_rfl) (fun _ _ _ h => h) ?_ (by assumption) ?_
            (rotate_left 2; focus (simp only [List.getElem?_toArray, List.getElem?_cons_succ, List.getElem?_cons_zero]; rfl))
            (focus (refine Or.inl ⟨by rfl, ?_⟩; intro w hSw; (try dsimp only at hSw); go_simp; any_goals with_reducible rfl))
            (try simp only [Act.put, List.setIfInBounds_toArray, List.set_cons_zero, List.set_cons_succ])
            refine wpAnyH_take (i := 21) (oi := ?_) (v := ?_) ?_ (by kernel_rfl) (by kernel_rfl) (by kernel_rfl) (fun _ _ _ h => h) ?_ (by assumption) ?_
            (rotate_left 2; focus (simp only [List.getElem?_toArray, List.getElem?_cons_succ, List.getElem?_cons_zero]; rfl))
            (focus (refine Or.inl ⟨by rfl, ?_⟩; intro w hSw; (try dsimp only at hSw); go_simp; any_goals with_reducible rfl))
            (try simp only [Act.put, List.setIfInBounds_toArray, List.set_cons_zero, List.set_cons_succ])
            refine wpAnyH_take (i := 22) (oi := ?_) (v := ?_) ?_ (by kernel_rfl) (by kernel_rfl) (by kernel_rfl) (fun _ _ _ h => h) ?_ (by assumption) ?_
            (rotate_left 2; focus (simp only [List.getElem?_toArray, List.getElem?_cons_succ, List.getElem?_cons_zero]; rfl))
            (focus (refine Or.inl ⟨by rfl, ?_⟩; intro w hSw; (try dsimp only at hSw); go_simp; any_goals with_reducible rfl))
            (try simp only [Act.put, List.setIfInBounds_toArray, List.set_cons_zero, List.set_cons_succ])
            refine wpAnyH_take (i := 23) (oi := ?_) (v := ?_) ?_ (by kernel_rfl) (by kernel_rfl) (by kernel_rfl) (fun _ _ _ h => h) ?_ (by assumption) ?_
            (rotate_left 2; focus (simp only [List.getElem?_toArray, List.getElem?_cons_succ, List.getElem?_cons_zero]; rfl))
            (focus (refine Or.inl ⟨by rfl, ?_⟩; intro w hSw; (try dsimp only at hSw); go_simp; any_goals with_reducible rfl))
            (try simp only [Act.put, List.setIfInBounds_toArray, List.set_cons_zero, List.set_cons_succ])
            refine wpAnyH_ready (rs := [6]) (by kernel_rfl) (by simp) (AllReadyH.cons (by simp only [List.getElem?_toArray, List.getElem?_cons_succ, List.getElem?_cons_zero]; rfl) (fun K hK => ?_) AllReadyH.nil)
            go_simp
            refine named_world ?_
            intro V21 hV21
            have U21 : Hid (Upd [] V4 V21) := Lib.hid (by rw [hV21]; exact (Upd.drew [] V4).trans (Upd.alloc [] V4.drew (.cells #[] 3)))
            have Ai : V21.heap[V4.drew.heap.size]? = some (.cells #[] 3) := by rw [hV21]; exact Go.heap_alloc_new V4.drew _
            clear hV21
            refine hK.out _ _ ?_ (fun hNew => ?_)
            · (try dsimp only)
              exact CP.out _ U21.out
            clear hK K hHeld
            have hHeld := hNew
            clear hNew
            (try simp only [Act.put, List.setIfInBounds_toArray, List.set_cons_zero, List.set_cons_succ])
            refine wpAnyH_ready (rs := [12]) (by kernel_rfl) (by simp) (AllReadyH.cons (by simp only [List.getElem?_toArray, List.getElem?_cons_succ, List.getElem?_cons_zero]; rfl) (fun K hK => ?_) AllReadyH.nil)
            refine step_row_append rfl (.tmp 82) (.tmp 87) _ rfl (K := Kd.int .i64) (M := []) (B := V4.heap.size) (v := .slice (some ⟨V4.drew.heap.size, 0, none⟩) 0 0) (u := .slice ai x.ids.length ci) (l := []) (l2 := x.ids) rfl rfl ?_ Try.underlying46 JI.out JZ0.out JZ1.out JZ2.out rfl (by decide) ?_ ?_ ?_ ?_ ?_
            · exact row_new Ai (Upd.drew [] V4).size
            · exact HNI.out _ _ (HUZ.out.trans (U21.out)) (fun j hj => by simp [ob, Value.ownBlock] at hj; subst hj; exact (Nat.le_trans HUZ.out.size (Upd.drew [] V4).size))
            · (simp [maxLen]; omega)
            · (simp; omega)
            · exact (U21.out).size
            intro vi2 Y22 hri hui hoi
            simp only [List.nil_append] at hri
            have U22 : Hid (Upd [] V4 Y22) := Lib.hid ((U21.out).trans' hui (fun j hj => .inr (by simp [ob, Value.ownBlock] at hj; subst hj; exact (Upd.drew [] V4).size)))
            obtain ⟨aj, cj, rfl, hlj, hcj⟩ := row_form hri
            have HRI := Lib.hid hri
            clear hri hui hoi Ai
            refine hK.out _ _ ?_ (fun hNew => ?_)
            · (try dsimp only)
              exact CP.out _ U22.out
            clear hK K hHeld
            have hHeld := hNew
            clear hNew
            (try simp only [Act.put, List.setIfInBounds_toArray, List.set_cons_zero, List.set_cons_succ])
            refine wpAnyH_take (i := 24) (oi := ?_) (v := ?_) ?_ (by kernel_rfl) (by kernel_rfl) (by kernel_rfl) (fun _ _ _ h => h) ?_ (by assumption) ?_
            (rotate_left 2; focus (simp only [List.getElem?_toArray, List.getElem?_cons_succ, List.getElem?_cons_zero]; rfl))
            (focus (refine Or.inl ⟨by rfl, ?_⟩; intro w hSw; (try dsimp only at hSw); go_simp; any_goals with_reducible rfl))
            (try simp only [Act.put, List.setIfInBounds_toArray, List.set_cons_zero, List.set_cons_succ])
            refine wpAnyH_ready (rs := [25]) (by kernel_rfl) (by simp) (AllReadyH.cons (by simp only [List.getElem?_toArray, List.getElem?_cons_succ, List.getElem?_cons_zero]; rfl) (fun K hK => ?_) AllReadyH.nil)
            go_simp
            refine named_world ?_
            intro V23 hV23
            have UN : Hid (Upd [] Y22 V23) := Lib.hid (by rw [hV23]; exact Upd.alloc [] Y22 _)
            have U23 : Hid (Upd [] V4 V23) := Lib.hid ((U22.out).trans UN.out)
            have AN : Hid (V23.heap[Y22.heap.size]? = some (.cells #[.bool x.leaf, .slice aj x.ids.length cj, .slice ap x.pl.normal.length cp, .int .i64 x.pl.off, .int .i64 x.left, .int .i64 x.right] 48)) := Lib.hid (by rw [hV23]; exact Go.heap_alloc_new Y22 _)
            clear hV23
            obtain ⟨L, y, M', hL, hMlt, hrow, hat, hfin⟩ := hcp.out.grow HX.out (HUZ.out.trans U22.out) hb.out.size (HRI.out.base HUZ.out.size) ((HRZ.out).upd U22.out (by simp) (by simp) (M' := []) (by simp)) (fun j hj hm => by have h1 := (HRI.out.ob_lt j hj).1; have h2 := (HRZ.out.ob_lt j hm).2; omega) HWO.out HWL.out HWR.out
            have HROW := Lib.hid hrow
            have HAT := Lib.hid hat
            have HFIN := Lib.hid hfin
            have HMLT := Lib.hid hMlt
            clear hrow hat hfin hMlt
            refine hK.out _ _ ?_ (fun hNew => ?_)
            · (try dsimp only)
              exact CP.out _ U23.out
            clear hK K hHeld
            have hHeld := hNew
            clear hNew
            (try simp only [Act.put, List.setIfInBounds_toArray, List.set_cons_zero, List.set_cons_succ])
            refine wpAnyH_ready (rs := [26]) (by kernel_rfl) (by simp) (AllReadyH.cons (by simp only [List.getElem?_toArray, List.getElem?_cons_succ, List.getElem?_cons_zero]; rfl) (fun K hK => ?_) AllReadyH.nil)
            refine step_row_append rfl (.tmp 76) (.tmp 101) _ rfl (K := kHole) (M := M') (B := w3.heap.size) (v := u13) (u := .slice (some ⟨Y22.heap.size, 0, none⟩) 1 1) (l := L) (l2 := [y]) rfl rfl ?_ Try.underlying43 KI.out KZ0.out KZ1.out KZ2.out rfl (by decide) ?_ ?_ ?_ ?_ ?_
            · exact HROW.out.upd UN.out (by simp) (by simp) (fun j hj => .inl hj)
            · exact hole_one AN.out (fun hm => by
                rcases List.mem_append.1 hm with hm | hm
                · exact Nat.lt_irrefl _ (HROW.out.ob_lt _ hm).2
                · exact Nat.lt_irrefl _ (HMLT.out _ hm)) (HAT.out.upd UN.out (by simp) (fun j hj => .inl hj))
            · (simp [maxLen]; omega)
            · (simp; omega)
            · exact Nat.le_trans hb.out.size (HUZ.out.trans U23.out).size
            intro v3 Z24 hr3 hu3 ho3
            have HCPY : Hid (Cpy w3.heap.size Z24 v3 l a (k + 1) M') := Lib.hid (HFIN.out v3 Z24 hr3 ((UN.out.mono (by simp)).trans hu3) (by
              rcases ho3 with e | e
              · exact .inl e
              · exact .inr ⟨_, e, UN.out.size⟩))
            have HBZ : Hid (Below w3.heap.size w3 Z24) := Lib.hid ((hb.out.trans ((HUZ.out.trans U23.out).belowB hb.out.size (by simp))).trans (hu3.belowB (Nat.le_trans hb.out.size (HUZ.out.trans U23.out).size) (fun j hj => (HROW.out.ob_lt j hj).1)))
            have HU3 := Lib.hid hu3
            clear hu3 hr3 ho3
            have hbu : b ∉ ob u13 := fun hm => by have := (HROW.out.ob_lt _ hm).1; omega
            have hpu : V1.heap.size ∉ ob u13 := fun hm => by
              have h1 := (hcp.out.row.elim (fun L h => h.1.ob_lt _ hm)).2
              have h2 := HWP.out
              omega
            obtain ⟨d0, d1, d2, d3, d4, d5, d6, d7⟩ := CP.out _ U23.out
            have hpl := HPL.out
            have hsz := (U23.out).size
            have hsy := (HUZ.out.trans U23.out).size
            refine hK.out _ _ ?_ (fun hNew => ?_)
            · (try dsimp only)
              exact ⟨(HU3.out.cell (a := ⟨b, _, none⟩) (by simp only; omega) hbu).trans d0, (HU3.out.cell (a := ⟨b, _, none⟩) (by simp only; omega) hbu).trans d1, (HU3.out.cell (a := ⟨b, _, none⟩) (by simp only; omega) hbu).trans d2, (HU3.out.cell (a := ⟨b, _, none⟩) (by simp only; omega) hbu).trans d3, (HU3.out.cell (a := ⟨b, _, none⟩) (by simp only; omega) hbu).trans d4, (HU3.out.cell (a := ⟨b, _, none⟩) (by simp only; omega) hbu).trans d5, (HU3.out.cell (a := ⟨V1.heap.size, _, none⟩) (by simp only; omega) hpu).trans d6, (HU3.out.cell (a := ⟨V1.heap.size, _, none⟩) (by simp only; omega) hpu).trans d7⟩
            clear hK K hHeld
            have hHeld := hNew
            clear hNew
            (try simp only [Act.put, List.setIfInBounds_toArray, List.set_cons_zero, List.set_cons_succ])
            refine wpAnyH_take (i := 27) (oi := ?_) (v := ?_) ?_ (by kernel_rfl) (by kernel_rfl) (by kernel_rfl) (fun _ _ _ h => h) ?_ (by assumption) ?_
            (rotate_left 2; focus (simp only [List.getElem?_toArray, List.getElem?_cons_succ, List.getElem?_cons_zero]; rfl))
            (focus (refine Or.inl ⟨by rfl, ?_⟩; intro w hSw; (try dsimp only at hSw); go_simp; any_goals with_reducible rfl))
            (try simp only [Act.put, List.setIfInBounds_toArray, List.set_cons_zero, List.set_cons_succ])
            refine wpAnyH_done (by kernel_rfl) ?_ _
            refine NoPanic.normal ?_
            go_wp2_with fail
            go_roundw
            case rel => exact ⟨k + 1, M', by omega, by go_num, HCPY, HBZ⟩
            case measure => simp [intOf]; omega
        · go_simp
          refine named_world ?_
          intro V1 hV1
          have U1 : Hid (Upd [] wr V1) := Lib.hid (by rw [hV1]; exact (Upd.drew [] wr).trans (Upd.alloc [] wr.drew (.cells #[.slice none 0 0, .int .i64 0] 24)))
          have Ap : V1.heap[wr.drew.heap.size]? = some (.cells #[.slice none 0 0, .int .i64 0] 24) := by rw [hV1]; exact Go.heap_alloc_new wr.drew _
          clear hV1
          refine hK.out _ _ ?_ (fun hNew => ?_)
          · (try dsimp only)
            exact HC6.out _ U1.out
          clear hK K hHeld
          have hHeld := hNew
          clear hNew
          (try simp only [Act.put, List.setIfInBounds_toArray, List.set_cons_zero, List.set_cons_succ])
          refine wpAnyH_ready (rs := [0]) (by kernel_rfl) (by simp) (AllReadyH.cons (by simp only [List.getElem?_toArray, List.getElem?_cons_succ, List.getElem?_cons_zero]; rfl) (fun K hK => ?_) AllReadyH.nil)
          go_simp
          refine named_world ?_
          intro V2 hV2
          have U2 : Hid (Upd [] wr V2) := Lib.hid (by rw [hV2]; exact (U1.out).trans (Upd.alloc [] V1 (.cells #[] 21)))
          have Ae : V2.heap[V1.heap.size]? = some (.cells #[] 21) := by rw [hV2]; exact Go.heap_alloc_new V1 _
          have Ap2 : V2.heap[wr.drew.heap.size]? = some (.cells #[.slice none 0 0, .int .i64 0] 24) := by rw [hV2]; exact (Below.heap_alloc V1 _ _ (block_lt Ap)).trans Ap
          clear hV2
          refine hK.out _ _ ?_ (fun hNew => ?_)
          · (try dsimp only)
            exact HC6.out _ U2.out
          clear hK K hHeld
          have hHeld := hNew
          clear hNew
          (try simp only [Act.put, List.setIfInBounds_toArray, List.set_cons_zero, List.set_cons_succ])
          refine wpAnyH_ready (rs := [7]) (by kernel_rfl) (by simp) (AllReadyH.cons (by simp only [List.getElem?_toArray, List.getElem?_cons_succ, List.getElem?_cons_zero]; rfl) (fun K hK => ?_) AllReadyH.nil)
          refine step_row_append rfl (.tmp 61) (.tmp 67) _ rfl (K := Kd.int .i32) (M := []) (B := wr.heap.size) (v := .slice (some ⟨V1.heap.size, 0, none⟩) 0 0) (u := .slice an x.pl.normal.length cn) (l := []) (l2 := x.pl.normal) rfl rfl ?_ Try.underlying22 HI.out HZ0.out HZ1.out HZ2.out rfl (by decide) ?_ ?_ ?_ ?_ ?_
          · exact row_new Ae ((U1.out).size)
          · exact HNO.out _ _ (U2.out) (fun j hj => by simp [ob, Value.ownBlock] at hj; subst hj; exact ((U1.out).size))
          · (simp [maxLen]; omega)
          · (simp; omega)
          · exact (U2.out).size
          intro vn2 V3 hrn hun hon
          simp only [List.nil_append] at hrn
          have U3 : Hid (Upd [] wr V3) := Lib.hid ((U2.out).trans' hun (fun j hj => .inr (by simp [ob, Value.ownBlock] at hj; subst hj; exact ((U1.out).size))))
          obtain ⟨ap, cp, rfl, hlp, hcp2⟩ := row_form hrn
          have Ap3 : V3.heap[wr.drew.heap.size]? = some (.cells #[.slice none 0 0, .int .i64 0] 24) := (hun.block _ (block_lt Ap2) (by rw [show ob (Value.slice (some ⟨V1.heap.size, 0, none⟩) 0 0) = [V1.heap.size] from rfl, List.mem_singleton]; exact Nat.ne_of_lt (block_lt Ap))).trans Ap2
          have HPN : wr.drew.heap.size ∉ ob (.slice ap x.pl.normal.length cp) := fun hm => by
            rcases hon with e | e
            · rw [e, show ob (Value.slice (some ⟨V1.heap.size, 0, none⟩) 0 0) = [V1.heap.size] from rfl, List.mem_singleton] at hm; exact absurd hm (Nat.ne_of_lt (block_lt Ap))
            · rw [e, List.mem_singleton] at hm; exact absurd hm (Nat.ne_of_lt (block_lt Ap2))
          refine hK.out _ _ ?_ (fun hNew => ?_)
          · (try dsimp only)
            exact HC6.out _ U3.out
          clear hK K hHeld
          have hHeld := hNew
          clear hNew
          (try simp only [Act.put, List.setIfInBounds_toArray, List.set_cons_zero, List.set_cons_succ])
          refine wpAnyH_take (i := 14) (oi := ?_) (v := ?_) ?_ (by kernel_rfl) (by kernel_rfl) (by kernel_rfl) (fun _ _ _ h => h) ?_ (by assumption) ?_
          (rotate_left 2; focus (simp only [List.getElem?_toArray, List.getElem?_cons_succ, List.getElem?_cons_zero]; rfl))
          (focus (refine Or.inl ⟨by rfl, ?_⟩; intro w hSw; (try dsimp only at hSw); go_simp; any_goals with_reducible rfl))
          (try simp only [Act.put, List.setIfInBounds_toArray, List.set_cons_zero, List.set_cons_succ])
          refine wpAnyH_ready (rs := [16]) (by kernel_rfl) (by simp) (AllReadyH.cons (by simp only [List.getElem?_toArray, List.getElem?_cons_succ, List.getElem?_cons_zero]; rfl) (fun K hK => ?_) AllReadyH.nil)
          have AP : V3.heap[wr.heap.size]? = some (.cells #[.slice none 0 0, .int .i64 0] 24) := Ap3
          have cy0 : V3.cell? ⟨wr.heap.size, 0, none⟩ = some (.slice none 0 0) := by rw [cell_of_block AP]; rfl
          have cy1 : V3.cell? ⟨wr.heap.size, 1, none⟩ = some (.int .i64 0) := by rw [cell_of_block AP]; rfl
          have fy0 : V3.frozen? ⟨wr.heap.size, 0, none⟩ = false := frozen_of_block AP
          have fy1 : V3.frozen? ⟨wr.heap.size, 1, none⟩ = false := frozen_of_block AP
          go_simp
          clear cy0 cy1 fy0 fy1
          refine named_world ?_
          intro V4 hV4
          have AA : V4.heap[wr.heap.size]? = some (.cells #[.slice ap x.pl.normal.length cp, .int .i64 x.pl.off] 24) := by
            have A0 : (V3.setCell ⟨wr.heap.size, 0, none⟩ (.slice ap x.pl.normal.length cp)).heap[wr.heap.size]? = some (.cells #[.slice ap x.pl.normal.length cp, .int .i64 0] 24) := heap_setCell_same V3 wr.heap.size 0 _ _ _ AP
            rw [hV4]; exact heap_setCell_same _ wr.heap.size 1 _ _ _ A0
          have UU : Upd [wr.heap.size] V3 V4 := by rw [hV4]; exact (Upd.setCell (by simp) _).trans (Upd.setCell (by simp) _)
          clear hV4
          have hpw : wr.heap.size ≤ wr.heap.size := (Upd.drew [] wr).size
          have UZ : Upd [] wr V4 := (U3.out).trans' UU (fun j hj => .inr (by simp at hj; omega))
          have RZ : Row (Kd.int .i32) [] 21 wr.heap.size V4 (.slice ap x.pl.normal.length cp) x.pl.normal := (Row.int_any hrn (M' := [wr.heap.size])).upd UU (fun j hj => hj) (fun j hj hm => by rw [List.mem_singleton] at hm; exact HPN (hm ▸ hj)) (by simp)
          refine hK.out _ _ ?_ (fun hNew => ?_)
          · (try dsimp only)
            exact HC6.out _ UZ
          clear hK K hHeld
          have hHeld := hNew
          clear hNew
          (try simp only [Act.put, List.setIfInBounds_toArray, List.set_cons_zero, List.set_cons_succ])
          refine wpAnyH_done (by kernel_rfl) ?_ _
          refine NoPanic.normal ?_
          have HWP : Hid (wr.heap.size ≤ wr.heap.size) := Lib.hid hpw
          have HPL : Hid (wr.heap.size < V4.heap.size) := Lib.hid (block_lt AA)
          have HUZ := Lib.hid UZ
          have HRZ := Lib.hid RZ
          have HAA := Lib.hid AA
          have CP : Hid (∀ W, Upd [] V4 W → W.cell? ⟨b, o + k * 6, none⟩ = some (.bool x.leaf) ∧ W.cell? ⟨b, o + k * 6 + 1, none⟩ = some (.slice ai x.ids.length ci) ∧ W.cell? ⟨b, o + k * 6 + 2, none⟩ = some (.slice an x.pl.normal.length cn) ∧ W.cell? ⟨b, o + k * 6 + 3, none⟩ = some (.int .i64 x.pl.off) ∧ W.cell? ⟨b, o + k * 6 + 4, none⟩ = some (.int .i64 x.left) ∧ W.cell? ⟨b, o + k * 6 + 5, none⟩ = some (.int .i64 x.right) ∧ W.cell? ⟨wr.heap.size, 0, none⟩ = some (.slice ap x.pl.normal.length cp) ∧ W.cell? ⟨wr.heap.size, 1, none⟩ = some (.int .i64 x.pl.off)) := Lib.hid (fun W hu => by
            have hA := upd_far hu HAA.out (by simp)
            obtain ⟨d0, d1, d2, d3, d4, d5⟩ := HC6.out W (HUZ.out.trans hu)
            exact ⟨d0, d1, d2, d3, d4, d5, by rw [cell_of_block hA]; rfl, by rw [cell_of_block hA]; rfl⟩)
          clear UZ RZ AA UU
          go_wp2_with fail
          refine wp_region_noPanic ?_
          refine wp_region_held_drew (S := (fun w' => w'.cell? ⟨b, o + k * 6, none⟩ = some (.bool x.leaf) ∧ w'.cell? ⟨b, o + k * 6 + 1, none⟩ = some (.slice ai x.ids.length ci) ∧ w'.cell? ⟨b, o + k * 6 + 2, none⟩ = some (.slice an x.pl.normal.length cn) ∧ w'.cell? ⟨b, o + k * 6 + 3, none⟩ = some (.int .i64 x.pl.off) ∧ w'.cell? ⟨b, o + k * 6 + 4, none⟩ = some (.int .i64 x.left) ∧ w'.cell? ⟨b, o + k * 6 + 5, none⟩ = some (.int .i64 x.right) ∧ w'.cell? ⟨wr.heap.size, 0, none⟩ = some (.slice ap x.pl.normal.length cp) ∧ w'.cell? ⟨wr.heap.size, 1, none⟩ = some (.int .i64 x.pl.off))) (by kernel_rfl) ?_ (fun hHeld => ?_)
          · (try dsimp only)
            exact CP.out _ (Upd.drew [] V4)
          refine wpAnyH_take (i := 0) (oi := ?_) (v := ?_) ?_ (by kernel_rfl) (by kernel_rfl) (by kernel_rfl) (fun _ _ _ h => h) ?_ (by assumption) ?_
          (rotate_left 2; focus (simp only [List.getElem?_toArray, List.getElem?_cons_succ, List.getElem?_cons_zero]; rfl))
          (focus (refine Or.inl ⟨by rfl, ?_⟩; intro w hSw; (try dsimp only at hSw); go_simp; any_goals with_reducible rfl))
          (try simp only [Act.put, List.setIfInBounds_toArray, List.set_cons_zero, List.set_cons_succ])
          refine wpAnyH_take (i := 1) (oi := ?_) (v := ?_) ?_ (by kernel_rfl) (by kernel_rfl) (by kernel_rfl) (fun _ _ _ h => h) ?_ (by assumption) ?_
          (rotate_left 2; focus (simp only [List.getElem?_toArray, List.getElem?_cons_succ, List.getElem?_cons_zero]; rfl))
          (focus (refine Or.inl ⟨by rfl, ?_⟩; intro w hSw; (try dsimp only at hSw); go_simp; any_goals with_reducible rfl))
          (try simp only [Act.put, List.setIfInBounds_toArray, List.set_cons_zero, List.set_cons_succ])
          refine wpAnyH_take (i := 2) (oi := ?_) (v := ?_) ?_ (by kernel_rfl) (by kernel_rfl) (by kernel_rfl) (fun _ _ _ h => h) ?_ (by assumption) ?_
          (rotate_left 2; focus (simp only [List.getElem?_toArray, List.getElem?_cons_succ, List.getElem?_cons_zero]; rfl))
          (focus (refine Or.inl ⟨by rfl, ?_⟩; intro w hSw; (try dsimp only at hSw); go_simp; any_goals with_reducible rfl))
          (try simp only [Act.put, List.setIfInBounds_toArray, List.set_cons_zero, List.set_cons_succ])
          refine wpAnyH_take (i := 3) (oi := ?_) (v := ?_) ?_ (by kernel_rfl) (by kernel_rfl) (by kernel_rfl) (fun _ _ _ h => h) ?_ (by assumption) ?_
          (rotate_left 2; focus (simp only [List.getElem?_toArray, List.getElem?_cons_succ, List.getElem?_cons_zero]; rfl))
          (focus (refine Or.inl ⟨by rfl, ?_⟩; intro w hSw; (try dsimp only at hSw); go_simp; any_goals with_reducible rfl))
          (try simp only [Act.put, List.setIfInBounds_toArray, List.set_cons_zero, List.set_cons_succ])
          refine wpAnyH_take (i := 4) (oi := ?_) (v := ?_) ?_ (by kernel_rfl) (by kernel_rfl) (by kernel_rfl) (fun _ _ _ h => h) ?_ (by assumption) ?_
          (rotate_left 2; focus (simp only [List.getElem?_toArray, List.getElem?_cons_succ, List.getElem?_cons_zero]; rfl))
          (focus (refine Or.inl ⟨by rfl, ?_⟩; intro w hSw; (try dsimp only at hSw); go_simp; any_goals with_reducible rfl))
          (try simp only [Act.put, List.setIfInBounds_toArray, List.set_cons_zero, List.set_cons_succ])
          refine wpAnyH_take (i := 5) (oi := ?_) (v := ?_) ?_ (by kernel_rfl) (by kernel_rfl) (by kernel_rfl) (fun _ _ _ h => h) ?_ (by assumption) ?_
          (rotate_left 2; focus (simp only [List.getElem?_toArray, List.getElem?_cons_succ, List.getElem?_cons_zero]; rfl))
          (focus (refine Or.inl ⟨by rfl, ?_⟩; intro w hSw; (try dsimp only at hSw); go_simp; any_goals with_reducible rfl))
          (try simp only [Act.put, List.setIfInBounds_toArray, List.set_cons_zero, List.set_cons_succ])
          refine wpAnyH_take (i := 7) (oi := ?_) (v := ?_) ?_ (by kernel_rfl) (by kernel_rfl) (by kernel_rfl) (fun _ _ _ h => h) ?_ (by assumption) ?_
          (rotate_left 2; focus (simp only [List.getElem?_toArray, List.getElem?_cons_succ, List.getElem?_cons_zero]; rfl))
          (focus (refine Or.inl ⟨by rfl, ?_⟩; intro w hSw; (try dsimp only at hSw); go_simp; any_goals with_reducible rfl))
          (try simp only [Act.put, List.setIfInBounds_toArray, List.set_cons_zero, List.set_cons_succ])
          refine wpAnyH_take (i := 8) (oi := ?_) (v := ?_) ?_ (by kernel_rfl) (by kernel_rfl) (by kernel_rfl) (fun _ _ _ h => h) ?_ (by assumption) ?_
          (rotate_left 2; focus (simp only [List.getElem?_toArray, List.getElem?_cons_succ, List.getElem?_cons_zero]; rfl))
          (focus (refine Or.inl ⟨by rfl, ?_⟩; intro w hSw; (try dsimp only at hSw); go_simp; any_goals with_reducible rfl))
          (try simp only [Act.put, List.setIfInBounds_toArray, List.set_cons_zero, List.set_cons_succ])
          refine wpAnyH_take (i := 9) (oi := ?_) (v := ?_) ?_ (by kernel_rfl) (by kernel_rfl) (by kernel_rfl) (fun _ _ _ h => h) ?_ (by assumption) ?_
          (rotate_left 2; focus (simp only [List.getElem?_toArray, List.getElem?_cons_succ, List.getElem?_cons_zero]; rfl))
          (focus (refine Or.inl ⟨by rfl, ?_⟩; intro w hSw; (try dsimp only at hSw); go_simp; any_goals with_reducible rfl))
          (try simp only [Act.put, List.setIfInBounds_toArray, List.set_cons_zero, List.set_cons_succ])
          refine wpAnyH_take (i := 10) (oi := ?_) (v := ?_) ?_ (by kernel_rfl) (by kernel_rfl) (by kernel_rfl) (fun _ _ _ h => h) ?_ (by assumption) ?_
          (rotate_left 2; focus (simp only [List.getElem?_toArray, List.getElem?_cons_succ, List.getElem?_cons_zero]; rfl))
          (focus (refine Or.inl ⟨by rfl, ?_⟩; intro w hSw; (try dsimp only at hSw); go_simp; any_goals with_reducible rfl))
          (try simp only [Act.put, List.setIfInBounds_toArray, List.set_cons_zero, List.set_cons_succ])
          refine wpAnyH_take (i := 11) (oi := ?_) (v := ?_) ?_ (by kernel_rfl) (by kernel_rfl) (by kernel_rfl) (fun _ _ _ h => h) ?_ (by assumption) ?_
          (rotate_left 2; focus (simp only [List.getElem?_toArray, List.getElem?_cons_succ, List.getElem?_cons_zero]; rfl))
          (focus (refine Or.inl ⟨by rfl, ?_⟩; intro w hSw; (try dsimp only at hSw); go_simp; any_goals with_reducible rfl))
          (try simp only [Act.put, List.setIfInBounds_toArray, List.set_cons_zero, List.set_cons_succ])
          refine wpAnyH_take (i := 13) (oi := ?_) (v := ?_) ?_ (by kernel_rfl) (by kernel_rfl) (by kernel_rfl) (fun _ _ _ h => h) ?_ (by assumption) ?_
          (rotate_left 2; focus (simp only [List.getElem?_toArray, List.getElem?_cons_succ, List.getElem?_cons_zero]; rfl))
          (focus (refine Or.inl ⟨by rfl, ?_⟩; intro w hSw; (try dsimp only at hSw); go_simp; any_goals with_reducible rfl))
          (try simp only [Act.put, List.setIfInBounds_toArray, List.set_cons_zero, List.set_cons_succ])
          refine wpAnyH_take (i := 14) (oi := ?_) (v := ?_) ?_ (by kernel_rfl) (by kernel_rfl) (by kernel_rfl) (fun _ _ _ h => h) ?_ (by assumption) ?_
          (rotate_left 2; focus (simp only [List.getElem?_toArray, List.getElem?_cons_succ, List.getElem?_cons_zero]; rfl))
          (focus (refine Or.inl ⟨by rfl, ?_⟩; intro w hSw; (try dsimp only at hSw); go_simp; any_goals with_reducible rfl))
          (try simp only [Act.put, List.setIfInBounds_toArray, List.set_cons_zero, List.set_cons_succ])
          refine wpAnyH_take (i := 15) (oi := ?_) (v := ?_) ?_ (by kernel_rfl) (by kernel_rfl) (by kernel_rfl) (fun _ _ _ h => h) ?_ (by assumption) ?_
          (rotate_left 2; focus (simp only [List.getElem?_toArray, List.getElem?_cons_succ, List.getElem?_cons_zero]; rfl))
          (focus (refine Or.inl ⟨by rfl, ?_⟩; intro w hSw; (try dsimp only at hSw); go_simp; any_goals with_reducible rfl))
          (try simp only [Act.put, List.setIfInBounds_toArray, List.set_cons_zero, List.set_cons_succ])
          refine wpAnyH_take (i := 16) (oi := ?_) (v := ?_) ?_ (by kernel_rfl) (by kernel_rfl) (by kernel_rfl) (fun _ _ _ h => h) ?_ (by assumption) ?_
          (rotate_left 2; focus (simp only [List.getElem?_toArray, List.getElem?_cons_succ, List.getElem?_cons_zero]; rfl))
          (focus (refine Or.inl ⟨by rfl, ?_⟩; intro w hSw; (try dsimp only at hSw); go_simp; any_goals with_reducible rfl))
          (try simp only [Act.put, List.setIfInBounds_toArray, List.set_cons_zero, List.set_cons_succ])
          refine wpAnyH_take (i := 17) (oi := ?_) (v := ?_) ?_ (by kernel_rfl) (by kernel_rfl) (by kernel_rfl) (fun _ _ _ h => h) ?_ (by assumption) ?_
          (rotate_left 2; focus (simp only [List.getElem?_toArray, List.getElem?_cons_succ, List.getElem?_cons_zero]; rfl))
          (focus (refine Or.inl ⟨by rfl, ?_⟩; intro w hSw; (try dsimp only at hSw); go_simp; any_goals with_reducible rfl))
          (try simp only [Act.put, List.setIfInBounds_toArray, List.set_cons_zero, List.set_cons_succ])
          refine wpAnyH_take (i := 18) (oi := ?_) (v := ?_) ?_ (by kernel_rfl) (by kernel_rfl) (by kernel_rfl) (fun _ _ _ h => h) ?_ (by assumption) ?_
          (rotate_left 2; focus (simp only [List.getElem?_toArray, List.getElem?_cons_succ, List.getElem?_cons_zero]; rfl))
          (focus (refine Or.inl ⟨by rfl, ?_⟩; intro w hSw; (try dsimp only at hSw); go_simp; any_goals with_reducible rfl))
          (try simp only [Act.put, List.setIfInBounds_toArray, List.set_cons_zero, List.set_cons_succ])
          refine wpAnyH_take (i := 19) (oi := ?_) (v := ?_) ?_ (by kernel_rfl) (by kernel_rfl) (by kernel_rfl) (fun _ _ _ h => h) ?_ (by assumption) ?_
          (rotate_left 2; focus (simp only [List.getElem?_toArray, List.getElem?_cons_succ, List.getElem?_cons_zero]; rfl))
          (focus (refine Or.inl ⟨by rfl, ?_⟩; intro w hSw; (try dsimp only at hSw); go_simp; any_goals with_reducible rfl))
          (try simp only [Act.put, List.setIfInBounds_toArray, List.set_cons_zero, List.set_cons_succ])
          refine wpAnyH_take (i := 20) (oi := ?_) (v := ?_) ?_ (by kernel_rfl) (by kernel_rfl) (by kernel_rfl) (fun _ _ _ h => h) ?_ (by assumption) ?_
          (rotate_left 2; focus (simp only [List.getElem?_toArray, List.getElem?_cons_succ, List.getElem?_cons_zero]; rfl))
          (focus (refine Or.inl ⟨by rfl, ?_⟩; intro w hSw; (try dsimp only at hSw); go_simp; any_goals with_reducible rfl))
          (try simp only [Act.put, List.setIfInBounds_toArray, List.set_cons_zero, List.set_cons_succ])
          refine wpAnyH_take (i := 21) (oi := ?_) (v := ?_) ?_ (by kernel_rfl) (by kernel_rfl) (by kernel_rfl) (fun _ _ _ h => h) ?_ (by assumption) ?_
          (rotate_left 2; focus (simp only [List.getElem?_toArray, List.getElem?_cons_succ, List.getElem?_cons_zero]; rfl))
          (focus (refine Or.inl ⟨by rfl, ?_⟩; intro w hSw; (try dsimp only at hSw); go_simp; any_goals with_reducible rfl))
          (try simp only [Act.put, List.setIfInBounds_toArray, List.set_cons_zero, List.set_cons_succ])
          refine wpAnyH_take (i := 22) (oi := ?_) (v := ?_) ?_ (by kernel_rfl) (by kernel_rfl) (by kernel_rfl) (fun _ _ _ h => h) ?_ (by assumption) ?_
          (rotate_left 2; focus (simp only [List.getElem?_toArray, List.getElem?_cons_succ, List.getElem?_cons_zero]; rfl))
          (focus (refine Or.inl ⟨by rfl, ?_⟩; intro w hSw; (try dsimp only at hSw); go_simp; any_goals with_reducible rfl))
          (try simp only [Act.put, List.setIfInBounds_toArray, List.set_cons_zero, List.set_cons_succ])
          refine wpAnyH_take (i := 23) (oi := ?_) (v := ?_) ?_ (by kernel_rfl) (by kernel_rfl) (by kernel_rfl) (fun _ _ _ h => h) ?_ (by assumption) ?_
          (rotate_left 2; focus (simp only [List.getElem?_toArray, List.getElem?_cons_succ, List.getElem?_cons_zero]; rfl))
          (focus (refine Or.inl ⟨by rfl, ?_⟩; intro w hSw; (try dsimp only at hSw); go_simp; any_goals with_reducible rfl))
          (try simp only [Act.put, List.setIfInBounds_toArray, List.set_cons_zero, List.set_cons_succ])
          refine wpAnyH_ready (rs := [6]) (by kernel_rfl) (by simp) (AllReadyH.cons (by simp only [List.getElem?_toArray, List.getElem?_cons_succ, List.getElem?_cons_zero]; rfl) (fun K hK => ?_) AllReadyH.nil)
          go_simp
          refine named_world ?_
          intro V21 hV21
          have U21 : Hid (Upd [] V4 V21) := Lib.hid (by rw [hV21]; exact (Upd.drew [] V4).trans (Upd.alloc [] V4.drew (.cells #[] 3)))
          have Ai : V21.heap[V4.drew.heap.size]? = some (.cells #[] 3) := by rw [hV21]; exact Go.heap_alloc_new V4.drew _
          clear hV21
          refine hK.out _ _ ?_ (fun hNew => ?_)
          · (try dsimp only)
            exact CP.out _ U21.out
          clear hK K hHeld
          have hHeld := hNew
          clear hNew
          (try simp only [Act.put, List.setIfInBounds_toArray, List.set_cons_zero, List.set_cons_succ])
          refine wpAnyH_ready (rs := [12]) (by kernel_rfl) (by simp) (AllReadyH.cons (by simp only [List.getElem?_toArray, List.getElem?_cons_succ, List.getElem?_cons_zero]; rfl) (fun K hK => ?_) AllReadyH.nil)
          refine step_row_append rfl (.tmp 82) (.tmp 87) _ rfl (K := Kd.int .i64) (M := []) (B := V4.heap.size) (v := .slice (some ⟨V4.drew.heap.size, 0, none⟩) 0 0) (u := .slice ai x.ids.length ci) (l := []) (l2 := x.ids) rfl rfl ?_ Try.underlying46 JI.out JZ0.out JZ1.out JZ2.out rfl (by decide) ?_ ?_ ?_ ?_ ?_
          · exact row_new Ai (Upd.drew [] V4).size
          · exact HNI.out _ _ (HUZ.out.trans (U21.out)) (fun j hj => by simp [ob, Value.ownBlock] at hj; subst hj; exact (Nat.le_trans HUZ.out.size (Upd.drew [] V4).size))
          · (simp [maxLen]; omega)
          · (simp; omega)
          · exact (U21.out).size
          intro vi2 Y22 hri hui hoi
          simp only [List.nil_append] at hri
          have U22 : Hid (Upd [] V4 Y22) := Lib.hid ((U21.out).trans' hui (fun j hj => .inr (by simp [ob, Value.ownBlock] at hj; subst hj; exact (Upd.drew [] V4).size)))
          obtain ⟨aj, cj, rfl, hlj, hcj⟩ := row_form hri
          have HRI := Lib.hid hri
          clear hri hui hoi Ai
          refine hK.out _ _ ?_ (fun hNew => ?_)
          · (try dsimp only)
            exact CP.out _ U22.out
          clear hK K hHeld
          have hHeld := hNew
          clear hNew
          (try simp only [Act.put, List.setIfInBounds_toArray, List.set_cons_zero, List.set_cons_succ])
          refine wpAnyH_take (i := 24) (oi := ?_) (v := ?_) ?_ (by kernel_rfl) (by kernel_rfl) (by kernel_rfl) (fun _ _ _ h => h) ?_ (by assumption) ?_
          (rotate_left 2; focus (simp only [List.getElem?_toArray, List.getElem?_cons_succ, List.getElem?_cons_zero]; rfl))
          (focus (refine Or.inl ⟨by rfl, ?_⟩; intro w hSw; (try dsimp only at hSw); go_simp; any_goals with_reducible rfl))
          (try simp only [Act.put, List.setIfInBounds_toArray, List.set_cons_zero, List.set_cons_succ])
          refine wpAnyH_ready (rs := [25]) (by kernel_rfl) (by simp) (AllReadyH.cons (by simp only [List.getElem?_toArray, List.getElem?_cons_succ, List.getElem?_cons_zero]; rfl) (fun K hK => ?_) AllReadyH.nil)
          go_simp
          refine named_world ?_
          intro V23 hV23
          have UN : Hid (Upd [] Y22 V23) := Lib.hid (by rw [hV23]; exact Upd.alloc [] Y22 _)
          have U23 : Hid (Upd [] V4 V23) := Lib.hid ((U22.out).trans UN.out)
          have AN : Hid (V23.heap[Y22.heap.size]? = some (.cells #[.bool x.leaf, .slice aj x.ids.length cj, .slice ap x.pl.normal.length cp, .int .i64 x.pl.off, .int .i64 x.left, .int .i64 x.right] 48)) := Lib.hid (by rw [hV23]; exact Go.heap_alloc_new Y22 _)
          clear hV23
          obtain ⟨L, y, M', hL, hMlt, hrow, hat, hfin⟩ := hcp.out.grow HX.out (HUZ.out.trans U22.out) hb.out.size (HRI.out.base HUZ.out.size) ((HRZ.out).upd U22.out (by simp) (by simp) (M' := []) (by simp)) (fun j hj hm => by have h1 := (HRI.out.ob_lt j hj).1; have h2 := (HRZ.out.ob_lt j hm).2; omega) HWO.out HWL.out HWR.out
          have HROW := Lib.hid hrow
          have HAT := Lib.hid hat
          have HFIN := Lib.hid hfin
          have HMLT := Lib.hid hMlt
          clear hrow hat hfin hMlt
          refine hK.out _ _ ?_ (fun hNew => ?_)
          · (try dsimp only)
            exact CP.out _ U23.out
          clear hK K hHeld
          have hHeld := hNew
          clear hNew
          (try simp only [Act.put, List.setIfInBounds_toArray, List.set_cons_zero, List.set_cons_succ])
          refine wpAnyH_ready (rs := [26]) (by kernel_rfl) (by simp) (AllReadyH.cons (by simp only [List.getElem?_toArray, List.getElem?_cons_succ, List.getElem?_cons_zero]; rfl) (fun K hK => ?_) AllReadyH.nil)
          refine step_row_append rfl (.tmp 76) (.tmp 101) _ rfl (K := kHole) (M := M') (B := w3.heap.size) (v := u13) (u := .slice (some ⟨Y22.heap.size, 0, none⟩) 1 1) (l := L) (l2 := [y]) rfl rfl ?_ Try.underlying43 KI.out KZ0.out KZ1.out KZ2.out rfl (by decide) ?_ ?_ ?_ ?_ ?_
          · exact HROW.out.upd UN.out (by simp) (by simp) (fun j hj => .inl hj)
          · exact hole_one AN.out (fun hm => by
              rcases List.mem_append.1 hm with hm | hm
              · exact Nat.lt_irrefl _ (HROW.out.ob_lt _ hm).2
              · exact Nat.lt_irrefl _ (HMLT.out _ hm)) (HAT.out.upd UN.out (by simp) (fun j hj => .inl hj))
          · (simp [maxLen]; omega)
          · (simp; omega)
          · exact Nat.le_trans hb.out.size (HUZ.out.trans U23.out).size
          intro v3 Z24 hr3 hu3 ho3
          have HCPY : Hid (Cpy w3.heap.size Z24 v3 l a (k + 1) M') := Lib.hid (HFIN.out v3 Z24 hr3 ((UN.out.mono (by simp)).trans hu3) (by
            rcases ho3 with e | e
            · exact .inl e
            · exact .inr ⟨_, e, UN.out.size⟩))
          have HBZ : Hid (Below w3.heap.size w3 Z24) := Lib.hid ((hb.out.trans ((HUZ.out.trans U23.out).belowB hb.out.size (by simp))).trans (hu3.belowB (Nat.le_trans hb.out.size (HUZ.out.trans U23.out).size) (fun j hj => (HROW.out.ob_lt j hj).1)))
          have HU3 := Lib.hid hu3
          clear hu3 hr3 ho3
          have hbu : b ∉ ob u13 := fun hm => by have := (HROW.out.ob_lt _ hm).1; omega
          have hpu : wr.heap.size ∉ ob u13 := fun hm => by
            have h1 := (hcp.out.row.elim (fun L h => h.1.ob_lt _ hm)).2
            have h2 := HWP.out
            omega
          obtain ⟨d0, d1, d2, d3, d4, d5, d6, d7⟩ := CP.out _ U23.out
          have hpl := HPL.out
          have hsz := (U23.out).size
          have hsy := (HUZ.out.trans U23.out).size
          refine hK.out _ _ ?_ (fun hNew => ?_)
          · (try dsimp only)
            exact ⟨(HU3.out.cell (a := ⟨b, _, none⟩) (by simp only; omega) hbu).trans d0, (HU3.out.cell (a := ⟨b, _, none⟩) (by simp only; omega) hbu).trans d1, (HU3.out.cell (a := ⟨b, _, none⟩) (by simp only; omega) hbu).trans d2, (HU3.out.cell (a := ⟨b, _, none⟩) (by simp only; omega) hbu).trans d3, (HU3.out.cell (a := ⟨b, _, none⟩) (by simp only; omega) hbu).trans d4, (HU3.out.cell (a := ⟨b, _, none⟩) (by simp only; omega) hbu).trans d5, (HU3.out.cell (a := ⟨wr.heap.size, _, none⟩) (by simp only; omega) hpu).trans d6, (HU3.out.cell (a := ⟨wr.heap.size, _, none⟩) (by simp only; omega) hpu).trans d7⟩
          clear hK K hHeld
          have hHeld := hNew
          clear hNew
          (try simp only [Act.put, List.setIfInBounds_toArray, List.set_cons_zero, List.set_cons_succ])
          refine wpAnyH_take (i := 27) (oi := ?_) (v := ?_) ?_ (by kernel_rfl) (by kernel_rfl) (by kernel_rfl) (fun _ _ _ h => h) ?_ (by assumption) ?_
          (rotate_left 2; focus (simp only [List.getElem?_toArray, List.getElem?_cons_succ, List.getElem?_cons_zero]; rfl))
          (focus (refine Or.inl ⟨by rfl, ?_⟩; intro w hSw; (try dsimp only at hSw); go_simp; any_goals with_reducible rfl))
          (try simp only [Act.put, List.setIfInBounds_toArray, List.set_cons_zero, List.set_cons_succ])
          refine wpAnyH_done (by kernel_rfl) ?_ _
          refine NoPanic.normal ?_
          go_wp2_with fail
          go_roundw
          case rel => exact ⟨k + 1, M', by omega, by go_num, HCPY, HBZ⟩
          case measure => simp [intOf]; omega
        -- END COPY
      ·
        -- REST
        have hkl : k = l.length := by omega
        subst hkl
        have haA := HAA1.out
        subst haA
        obtain ⟨x, hx⟩ : ∃ x, l[a]? = some x := ⟨_, List.getElem?_eq_getElem hal⟩
        obtain ⟨b, o, cq, vi0, vn0, hv, _, _, _, _, hn, _⟩ := nds_at H3.out hx
        have HWO := Lib.hid hn.wo
        have HWL := Lib.hid hn.wl
        have HWR := Lib.hid hn.wr
        have HRD := Lib.hid (hcp.out.read hx hn.wo hn.wl hn.wr)
        have HRT := Lib.hid (H3.out.below hb.out)
        clear hv hn
        have HSM := shape_same_calls _ _ l l [] wr HRT.out HRD.out
        rw [show decide (l = l) = true by simp] at HSM
        have HSM := Lib.hid HSM
        obtain ⟨g, cap, vi, vn, hv, hc1, hc2, hBg, hgw, hgM, eM, hd, ri, rn, hfz, c0, c1, c2, c3, c4, c5⟩ := hcp.out.bare hx
        subst hv
        obtain ⟨hl0, hl1, hr0, hr1⟩ := valid_sides HCC.out hx
        have hi5 := HF3.out x (List.mem_of_getElem? hx)
        have hn1 := bare_normal (HVA.out.bare x (List.mem_of_getElem? hx)) (valid_dim HCC.out)
        have hMlt : ∀ j, j ∈ M → j < wr.heap.size := fun j hj => by
          rw [eM] at hj
          rcases List.mem_append.1 hj with hj | hj
          · exact (ri.ob_lt j hj).2
          · exact (rn.ob_lt j hj).2
        have hMge : ∀ j, j ∈ M → w3.heap.size ≤ j := fun j hj => by
          rw [eM] at hj
          rcases List.mem_append.1 hj with hj | hj
          · exact (ri.ob_lt j hj).1
          · exact (rn.ob_lt j hj).1
        have HMLT := Lib.hid hMlt
        have HMGE := Lib.hid hMge
        have HGM := Lib.hid hgM
        have HX := Lib.hid hx
        have HHD := Lib.hid hd
        have HIDS : Hid (∀ z ∈ l, z.ids.length ≤ 1099511627775) := Lib.hid (fun z hz => by have := HF3.out z hz; omega)
        obtain ⟨ai, ci, rfl, hli, hci⟩ := row_form ri
        obtain ⟨an, cn, rfl, hln, hcn⟩ := row_form rn
        unfold maxLen at hc2 hci hcn
        have FST : ∀ W, Upd [] wr W → Hid (Cpy w3.heap.size W (.slice (some ⟨g, 0, none⟩) l.length cap) l a l.length M) ∧ Hid (Row (Kd.int .i64) [] 3 w3.heap.size W (.slice ai x.ids.length ci) x.ids) ∧ Hid (Row (Kd.int .i32) [] 21 w3.heap.size W (.slice an x.pl.normal.length cn) x.pl.normal) ∧ (∀ j, W.frozen? ⟨g, j, none⟩ = false) ∧
            W.cell? ⟨g, a * 6, none⟩ = some (.bool x.leaf) ∧ W.cell? ⟨g, a * 6 + 1, none⟩ = some (.slice ai x.ids.length ci) ∧ W.cell? ⟨g, a * 6 + 2, none⟩ = some (.slice an x.pl.normal.length cn) ∧ W.cell? ⟨g, a * 6 + 3, none⟩ = some (.int .i64 x.pl.off) ∧ W.cell? ⟨g, a * 6 + 4, none⟩ = some (.int .i64 x.left) ∧ W.cell? ⟨g, a * 6 + 5, none⟩ = some (.int .i64 x.right) := fun W hu =>
          ⟨Lib.hid (hcp.out.upd hu), Lib.hid (ri.upd hu (by simp) (by simp) (M' := []) (by simp)), Lib.hid (rn.upd hu (by simp) (by simp) (M' := []) (by simp)), fun j => (hu.frozen (a := ⟨g, j, none⟩) hgw (by simp)).trans (hfz j),
            (hu.cell (a := ⟨g, _, none⟩) hgw (by simp)).trans c0, (hu.cell (a := ⟨g, _, none⟩) hgw (by simp)).trans c1, (hu.cell (a := ⟨g, _, none⟩) hgw (by simp)).trans c2, (hu.cell (a := ⟨g, _, none⟩) hgw (by simp)).trans c3, (hu.cell (a := ⟨g, _, none⟩) hgw (by simp)).trans c4, (hu.cell (a := ⟨g, _, none⟩) hgw (by simp)).trans c5⟩
        have FST := Lib.hid FST
        have EM := Lib.hid eM
        clear hx hgM eM hd ri rn hfz c0 c1 c2 c3 c4 c5 hMlt hMge HRD
        go_wp2_with fail
        refine HSM.out.mono ?_
        rintro e w4 ⟨rfl, hb4⟩
        obtain ⟨HCP, HRI, HRN, hfz, c0, c1, c2, c3, c4, c5⟩ := FST.out w4 (Upd.ofBelow hb4 [])
        have HT4 := Lib.hid (HRT.out.below hb4)
        have HB4 := Lib.hid ((HB3.out.trans (hb.out.mono HB3.out.size)).trans (hb4.mono (Nat.le_trans HB3.out.size hb.out.size)))
        have hB4 : w3.heap.size ≤ w4.heap.size := Nat.le_trans hb.out.size hb4.size
        have hgw4 : g < w4.heap.size := Nat.lt_of_lt_of_le hgw hb4.size
        have HML4 : Hid (∀ j, j ∈ M → j < w4.heap.size) := Lib.hid (fun j hj => Nat.lt_of_lt_of_le (HMLT.out j hj) hb4.size)
        have hb4' := hb4
        clear hb4 HSM hcp
        have HB34 : Hid (Below w3.heap.size w3 w4) := Lib.hid (hb.out.trans (hb4'.mono hb.out.size))
        have HE : Hid (EndC w3 w4 _ l n dim a g cap M x _ _) := Lib.hid ⟨H3.out, HB34.out, HCP.out, HGM.out, HML4.out, HMGE.out, hBg, hgw4, HCC.out, HX.out, HIDS.out, EM.out, HHD.out, HRI.out, HRN.out, c0, c1, c2, c3, c4, c5, HWO.out, HWL.out, HWR.out⟩
        clear hb4' hb
        have a0 : (0 : Int) ≤ (a : Int) := by omega
        have a1 : (a : Int) < (l.length : Int) := by omega
        have z1 := hfz (a * 6 + 1)
        have z2 := hfz (a * 6 + 2)
        have z3 := hfz (a * 6 + 3)
        have z4 := hfz (a * 6 + 4)
        have z5 := hfz (a * 6 + 5)
        have z0 := hfz (a * 6)
        clear hfz
        by_cases k0 : kind = 0
        · subst k0
          have hwf := i64_wf' (x := x.left + by_) (by omega) (by omega)
          have hE := HE.out.left (by_ := by_) (by simpa using q3) hwf
          have HTL := Lib.hid hE.1
          have HBZ := Lib.hid (HB3.out.trans (hE.2.mono HB3.out.size))
          clear hE hwf
          go_wp2_with fail
          refine HTL.out.ck.mono ?_
          rintro e w6 ⟨rfl, hb6⟩
          have HB6 := Lib.hid (HBZ.out.trans (hb6.mono HBZ.out.size))
          have HT1 := Lib.hid (HTL.out.s1 _ hb6)
          have HT2 := Lib.hid (fun V hV => HTL.out.s2 V (hb6.trans (Below.mono hV hb6.size)))
          clear hb6 HTL
          go_wp2_with fail
          refine HT1.out.mono ?_
          rintro e w7 ⟨rfl, hb7⟩
          have HB7 := Lib.hid (HB6.out.trans (hb7.mono HB6.out.size))
          have HT3 := Lib.hid (HT2.out _ hb7)
          clear hb7 HT1 HT2
          go_wp2_with fail
          refine HT3.out.mono ?_
          rintro e w8 ⟨rfl, hb8⟩
          have HB8 := Lib.hid (HB7.out.trans (hb8.mono HB7.out.size))
          clear hb8 HT3
          go_wp2_with fail
          go_ret
          exact ⟨rfl, HB8.out⟩
        have kk0 : (kind == 0) = false := by simpa using k0
        by_cases k1 : kind = 1
        · subst k1
          have hwf := i64_wf' (x := x.right + by_) (by omega) (by omega)
          have hE := HE.out.right (by_ := by_) (by simpa using q3) hwf
          have HTL := Lib.hid hE.1
          have HBZ := Lib.hid (HB3.out.trans (hE.2.mono HB3.out.size))
          clear hE hwf
          go_wp2_with fail
          refine HTL.out.ck.mono ?_
          rintro e w6 ⟨rfl, hb6⟩
          have HB6 := Lib.hid (HBZ.out.trans (hb6.mono HBZ.out.size))
          have HT1 := Lib.hid (HTL.out.s1 _ hb6)
          have HT2 := Lib.hid (fun V hV => HTL.out.s2 V (hb6.trans (Below.mono hV hb6.size)))
          clear hb6 HTL
          go_wp2_with fail
          refine HT1.out.mono ?_
          rintro e w7 ⟨rfl, hb7⟩
          have HB7 := Lib.hid (HB6.out.trans (hb7.mono HB6.out.size))
          have HT3 := Lib.hid (HT2.out _ hb7)
          clear hb7 HT1 HT2
          go_wp2_with fail
          refine HT3.out.mono ?_
          rintro e w8 ⟨rfl, hb8⟩
          have HB8 := Lib.hid (HB7.out.trans (hb8.mono HB7.out.size))
          clear hb8 HT3
          go_wp2_with fail
          go_ret
          exact ⟨rfl, HB8.out⟩
        have kk1 : (kind == 1) = false := by simpa using k1
        by_cases k2 : kind = 2
        · subst k2
          have hE := HE.out.leaf
          have HTL := Lib.hid hE.1
          have HBZ := Lib.hid (HB3.out.trans (hE.2.mono HB3.out.size))
          clear hE
          go_wp2_with fail
          refine HTL.out.ck.mono ?_
          rintro e w6 ⟨rfl, hb6⟩
          have HB6 := Lib.hid (HBZ.out.trans (hb6.mono HBZ.out.size))
          have HT1 := Lib.hid (HTL.out.s1 _ hb6)
          have HT2 := Lib.hid (fun V hV => HTL.out.s2 V (hb6.trans (Below.mono hV hb6.size)))
          clear hb6 HTL
          go_wp2_with fail
          refine HT1.out.mono ?_
          rintro e w7 ⟨rfl, hb7⟩
          have HB7 := Lib.hid (HB6.out.trans (hb7.mono HB6.out.size))
          have HT3 := Lib.hid (HT2.out _ hb7)
          clear hb7 HT1 HT2
          go_wp2_with fail
          refine HT3.out.mono ?_
          rintro e w8 ⟨rfl, hb8⟩
          have HB8 := Lib.hid (HB7.out.trans (hb8.mono HB7.out.size))
          clear hb8 HT3
          go_wp2_with fail
          go_ret
          exact ⟨rfl, HB8.out⟩
        have kk2 : (kind == 2) = false := by simpa using k2
        by_cases k3 : kind = 3
        · subst k3
          obtain ⟨v5, w5, hrun, hr5, hu5, ho5⟩ := Row.appendAt (P := Try.prog) (ty := 46) (l2 := [by_]) (((HRI.out).upd (Upd.alloc [] w4 (.cells #[.int .i64 by_] 3)) (by simp) (by simp) (M' := []) (by simp))) Try.underlying46 JI.out JZ0.out JZ1.out JZ2.out rfl (by decide) (ints_one (Go.heap_alloc_new w4 (.cells #[.int .i64 by_] 3)) (fun hm => by have h := (HRI.out.ob_lt _ (by simpa using hm)).2; omega) (i64_wf' (by omega) (by omega))) (by (simp [maxLen]; omega)) (by (simp; omega)) (by have := (Upd.alloc [] w4 (.cells #[.int .i64 by_] 3)).size; omega)
          obtain ⟨a5, cc5, rfl, hl5, hm5⟩ := row_form hr5
          have hE := HE.out.idsE hr5 hu5 ho5
          have HRUN := Lib.hid hrun
          have HTL := Lib.hid hE.1
          have HBZ := Lib.hid (HB3.out.trans (hE.2.mono HB3.out.size))
          simp only [List.length_append, List.length_cons, List.length_nil, Nat.zero_add] at HTL HBZ HRUN hl5
          have hgo : g ∉ ob (Value.slice ai x.ids.length ci) := fun h => HGM.out (by rw [EM.out]; simp [h])
          have hul := (Upd.alloc (ob (Value.slice ai x.ids.length ci)) w4 (.cells #[.int .i64 by_] 3)).trans hu5
          have y1 : w5.cell? ⟨g, a * 6 + 1, none⟩ = some (.slice ai x.ids.length ci) := (hul.cell (a := ⟨g, _, none⟩) hgw4 hgo).trans c1
          have f1 : w5.frozen? ⟨g, a * 6 + 1, none⟩ = false := (hul.frozen (a := ⟨g, _, none⟩) hgw4 hgo).trans z1
          clear hE hrun hr5 hu5 ho5 hul hgo
          go_wp2_with (at_builtin; refine append_step rfl _ _ _ rfl rfl rfl HRUN.out ?_)
          refine HTL.out.ck.mono ?_
          rintro e w6 ⟨rfl, hb6⟩
          have HB6 := Lib.hid (HBZ.out.trans (hb6.mono HBZ.out.size))
          have HT1 := Lib.hid (HTL.out.s1 _ hb6)
          have HT2 := Lib.hid (fun V hV => HTL.out.s2 V (hb6.trans (Below.mono hV hb6.size)))
          clear hb6 HTL
          go_wp2_with fail
          refine HT1.out.mono ?_
          rintro e w7 ⟨rfl, hb7⟩
          have HB7 := Lib.hid (HB6.out.trans (hb7.mono HB6.out.size))
          have HT3 := Lib.hid (HT2.out _ hb7)
          clear hb7 HT1 HT2
          go_wp2_with fail
          refine HT3.out.mono ?_
          rintro e w8 ⟨rfl, hb8⟩
          have HB8 := Lib.hid (HB7.out.trans (hb8.mono HB7.out.size))
          clear hb8 HT3
          go_wp2_with fail
          go_ret
          exact ⟨rfl, HB8.out⟩
        have kk3 : (kind == 3) = false := by simpa using k3
        by_cases k4 : kind = 4
        · subst k4
          obtain ⟨v5, w5, hrun, hr5, hu5, ho5⟩ := Row.appendAt (P := Try.prog) (ty := 22) (l2 := [0]) (((HRN.out).upd (Upd.alloc [] w4 (.cells #[.int .i32 0] 21)) (by simp) (by simp) (M' := []) (by simp))) Try.underlying22 HI.out HZ0.out HZ1.out HZ2.out rfl (by decide) (ints_one (Go.heap_alloc_new w4 (.cells #[.int .i32 0] 21)) (fun hm => by have h := (HRN.out.ob_lt _ (by simpa using hm)).2; omega) (by decide)) (by (simp [maxLen]; omega)) (by (simp; omega)) (by have := (Upd.alloc [] w4 (.cells #[.int .i32 0] 21)).size; omega)
          obtain ⟨a5, cc5, rfl, hl5, hm5⟩ := row_form hr5
          have hE := HE.out.normalE hr5 hu5 ho5
          have HRUN := Lib.hid hrun
          have HTL := Lib.hid hE.1
          have HBZ := Lib.hid (HB3.out.trans (hE.2.mono HB3.out.size))
          simp only [List.length_append, List.length_cons, List.length_nil, Nat.zero_add] at HTL HBZ HRUN hl5
          have hgo : g ∉ ob (Value.slice an x.pl.normal.length cn) := fun h => HGM.out (by rw [EM.out]; simp [h])
          have hul := (Upd.alloc (ob (Value.slice an x.pl.normal.length cn)) w4 (.cells #[.int .i32 0] 21)).trans hu5
          have y1 : w5.cell? ⟨g, a * 6 + 2, none⟩ = some (.slice an x.pl.normal.length cn) := (hul.cell (a := ⟨g, _, none⟩) hgw4 hgo).trans c2
          have f1 : w5.frozen? ⟨g, a * 6 + 2, none⟩ = false := (hul.frozen (a := ⟨g, _, none⟩) hgw4 hgo).trans z2
          clear hE hrun hr5 hu5 ho5 hul hgo
          go_wp2_with (at_builtin; refine append_step rfl _ _ _ rfl rfl rfl HRUN.out ?_)
          refine HTL.out.ck.mono ?_
          rintro e w6 ⟨rfl, hb6⟩
          have HB6 := Lib.hid (HBZ.out.trans (hb6.mono HBZ.out.size))
          have HT1 := Lib.hid (HTL.out.s1 _ hb6)
          have HT2 := Lib.hid (fun V hV => HTL.out.s2 V (hb6.trans (Below.mono hV hb6.size)))
          clear hb6 HTL
          go_wp2_with fail
          refine HT1.out.mono ?_
          rintro e w7 ⟨rfl, hb7⟩
          have HB7 := Lib.hid (HB6.out.trans (hb7.mono HB6.out.size))
          have HT3 := Lib.hid (HT2.out _ hb7)
          clear hb7 HT1 HT2
          go_wp2_with fail
          refine HT3.out.mono ?_
          rintro e w8 ⟨rfl, hb8⟩
          have HB8 := Lib.hid (HB7.out.trans (hb8.mono HB7.out.size))
          clear hb8 HT3
          go_wp2_with fail
          go_ret
          exact ⟨rfl, HB8.out⟩
        have kk4 : (kind == 4) = false := by simpa using k4
        have hE := HE.out.cut
        have HTL := Lib.hid hE.1
        have HBZ := Lib.hid (HB3.out.trans (hE.2.mono HB3.out.size))
        clear hE
        go_wp2_with fail
        refine HTL.out.ck.mono ?_
        rintro e w6 ⟨rfl, hb6⟩
        have HB6 := Lib.hid (HBZ.out.trans (hb6.mono HBZ.out.size))
        have HT1 := Lib.hid (HTL.out.s1 _ hb6)
        have HT2 := Lib.hid (fun V hV => HTL.out.s2 V (hb6.trans (Below.mono hV hb6.size)))
        clear hb6 HTL
        go_wp2_with fail
        refine HT1.out.mono ?_
        rintro e w7 ⟨rfl, hb7⟩
        have HB7 := Lib.hid (HB6.out.trans (hb7.mono HB6.out.size))
        have HT3 := Lib.hid (HT2.out _ hb7)
        clear hb7 HT1 HT2
        go_wp2_with fail
        refine HT3.out.mono ?_
        rintro e w8 ⟨rfl, hb8⟩
        have HB8 := Lib.hid (HB7.out.trans (hb8.mono HB7.out.size))
        clear hb8 HT3
        go_wp2_with fail
        go_ret
        exact ⟨rfl, HB8.out⟩
        -- END REST

theorem ShapeSpoilt_walk (v : Value) (l : List Nd) (n dim at_ by_ kind : Int) (w : World) (h : kNd.slice.At [] w [v] l) (hs : NdsSmall l) (hn : (Lit.int .i64 n).wf = true) (hd : (Lit.int .i64 dim).wf = true) (ha : (Lit.int .i64 at_).wf = true) (hb : (Lit.int .i64 by_).wf = true) (hk : (Lit.int .i64 kind).wf = true) :
    Calls Try.prog 5 #[v, .int .i64 n, .int .i64 dim, .int .i64 at_, .int .i64 by_, .int .i64 kind] w fun e w' => e = .returned (.bool true) ∧ Below w.heap.size w w' :=
  shapeSpoilt_calls v l n dim at_ by_ kind w h hs.2

end Go.Proofs.Ytfkmkhojedfccaa
