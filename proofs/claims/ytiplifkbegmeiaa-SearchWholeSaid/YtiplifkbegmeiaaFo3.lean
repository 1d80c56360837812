/-
Forests: the document's Check, layout.Check, search.Check.
-/
import Derived.Test.YtiplifkbegmeiaaFo2
namespace Go.Proofs.Ytiplifkbegmeiaa
set_option linter.unusedVariables false
set_option linter.unusedSimpArgs false
open Go.RowKit

def badT (n dim depth : Int) (t : List Nd) : Bool := refCheck t n dim != 0 || decide (depth < deepOf t dim)
def foCheck (F : Fo) : Int :=
  if F.L = [] then 15 else if F.leaf < 1 ∨ 1024 < F.leaf ∨ F.depth < 0 ∨ 64 < F.depth then 1 else if F.T.length < 1 ∨ 256 < F.T.length then 5
  else if F.T.any (badT F.L.length F.dim F.depth) then 14 else 0

theorem refCheck_vals (t : List Nd) (n dim : Int) : refCheck t n dim = 0 ∨ refCheck t n dim = 1 ∨ refCheck t n dim = 14 := by
  unfold refCheck
  split
  · exact .inr (.inl rfl)
  · split
    · exact .inr (.inr rfl)
    · split
      · exact .inr (.inr rfl)
      · split
        · exact .inr (.inr rfl)
        · exact .inl rfl

set_option maxHeartbeats 4000000 in
set_option maxRecDepth 100000 in
theorem ref16_check_calls (vL vT : Value) (F : Fo) (M : List Nat) (w : World) (h : FoAt M w vL vT F) (hs : ∀ t ∈ F.T, TSmall t) :
    Calls Try.prog 34 #[.agg #[.int .i64 F.dim, .int .i64 F.leaf, .int .i64 F.depth, vL, vT]] w fun e w' => e = .returned (.int .i64 (foCheck F)) ∧ Below w.heap.size w w' := by
  obtain ⟨aL, cL, rfl, hlL, hcL⟩ := Kd.slice_form h.L
  obtain ⟨aT, cT, rfl, hlT, hcT⟩ := Kd.slice_form h.T
  unfold maxLen at hcL hcT
  obtain ⟨W0, hW0⟩ : ∃ W0, w.alloc (foObj (.slice aL F.L.length cL) (.slice aT F.T.length cT) F) = W0 := ⟨_, rfl⟩
  have hu0 : Upd [] w W0 := by rw [← hW0]; exact Upd.alloc [] w _
  have hx0 : W0.heap[w.heap.size]? = some (foObj (.slice aL F.L.length cL) (.slice aT F.T.length cT) F) := by rw [← hW0]; exact Go.heap_alloc_new w _
  unfold foObj at hW0
  have H0 := Lib.hid (h.below hu0.below)
  have HU0 := Lib.hid hu0
  have HX0 := Lib.hid hx0
  have HS := Lib.hid hs
  obtain ⟨d0, d1, d2, d3, d4⟩ := fo_cells hx0
  obtain ⟨res, hres⟩ : ∃ r, foCheck F = r := ⟨_, rfl⟩
  rw [hres]
  have HRES := Lib.hid hres
  clear h hs hu0 hx0 hres
  by_cases h1 : F.L = []
  · have hl0 : F.L.length = 0 := by rw [h1]; rfl
    have hr : res = 15 := by rw [← HRES.out]; unfold foCheck; rw [if_pos h1]
    subst hr
    have hq : ((F.L.length : Int) == 0) = true := by rw [hl0]; rfl
    clear h1 hl0
    go_enter Try.func34, Try.ntmps34
    go_wp2_with fail
    go_ret
    exact ⟨rfl, HU0.out.below⟩
  · have hl0 : ((F.L.length : Int) == 0) = false := by
      rw [beq_eq_false_iff_ne]
      intro e
      exact h1 (List.eq_nil_of_length_eq_zero (by omega))
    by_cases h2 : F.leaf < 1 ∨ 1024 < F.leaf ∨ F.depth < 0 ∨ 64 < F.depth
    · have hr : res = 1 := by rw [← HRES.out]; unfold foCheck; rw [if_neg h1, if_pos h2]
      subst hr
      rcases (show F.leaf < 1 ∨ ¬ F.leaf < 1 ∧ 1024 < F.leaf ∨ (¬ F.leaf < 1 ∧ ¬ 1024 < F.leaf) ∧ F.depth < 0 ∨ (¬ F.leaf < 1 ∧ ¬ 1024 < F.leaf) ∧ ¬ F.depth < 0 ∧ 64 < F.depth by omega) with h2 | ⟨g1, h2⟩ | ⟨⟨g1, g2⟩, h2⟩ | ⟨⟨g1, g2⟩, g3, h2⟩
      all_goals
        clear h1
        go_enter Try.func34, Try.ntmps34
        go_wp2_with fail
        go_ret
        exact ⟨rfl, HU0.out.below⟩
    · by_cases h3 : F.T.length < 1 ∨ 256 < F.T.length
      · have hr : res = 5 := by rw [← HRES.out]; unfold foCheck; rw [if_neg h1, if_neg h2, if_pos h3]
        subst hr
        have g1 : 1 ≤ F.leaf := by omega
        have g2 : F.leaf ≤ 1024 := by omega
        have g3 : 0 ≤ F.depth := by omega
        have g4 : F.depth ≤ 64 := by omega
        rcases (show (F.T.length : Int) < 1 ∨ ¬ (F.T.length : Int) < 1 ∧ 256 < (F.T.length : Int) by omega) with h3 | ⟨g5, h3⟩
        all_goals
          clear h1 h2
          go_enter Try.func34, Try.ntmps34
          go_wp2_with fail
          go_ret
          exact ⟨rfl, HU0.out.below⟩
      · have HQ0 : Hid ((if F.T.any (badT F.L.length F.dim F.depth) then (14 : Int) else 0) = res) := Lib.hid (by have := HRES.out; unfold foCheck at this; rw [if_neg h1, if_neg h2, if_neg h3] at this; exact this)
        have g1 : 1 ≤ F.leaf := by omega
        have g2 : F.leaf ≤ 1024 := by omega
        have g3 : 0 ≤ F.depth := by omega
        have g4 : F.depth ≤ 64 := by omega
        have g5 : 1 ≤ (F.T.length : Int) := by omega
        have g6 : (F.T.length : Int) ≤ 256 := by omega
        clear h1 h2 h3
        go_enter Try.func34, Try.ntmps34
        go_wp2_with fail
        clear d0 d1 d2 d3 d4
        go_loopw [3] (fun i wr => ∃ k : Nat, k ≤ F.T.length ∧ i = .int .i64 k ∧ Hid ((F.T.take k).any (badT F.L.length F.dim F.depth) = false) ∧ Hid (Upd [] W0 wr)) (fun i _ => F.T.length - (intOf i).toNat)
        case atStart => exact ⟨0, Nat.zero_le _, rfl, rfl, Upd.refl _ _⟩
        case round =>
          obtain ⟨k, hk, rfl, hq, hu⟩ := hrel
          have hxr := upd_far hu.out HX0.out (by simp)
          obtain ⟨d0, d1, d2, d3, d4⟩ := fo_cells hxr
          by_cases hlt : k < F.T.length
          · obtain ⟨x, hx⟩ : ∃ x, F.T[k]? = some x := ⟨_, List.getElem?_eq_getElem hlt⟩
            obtain ⟨b, o, c, vi, hv, hbb, _, _, _, c0, hxi⟩ := lists_at (H0.out.T.upd hu.out (by simp) (fun j hj => .inl hj)) hx
            simp at hv
            obtain ⟨rfl, rfl⟩ := hv
            have hsx := HS.out x (List.mem_of_getElem? hx)
            have HCK : Hid (∀ W, Upd [] wr W → Calls Try.prog 57 #[vi, .int .i64 (F.L.length : Int), .int .i64 F.dim] W fun e w' => e = .returned (.int .i64 (refCheck x F.L.length F.dim)) ∧ Below W.heap.size W w') :=
              Lib.hid (fun W hW => ref_check_calls vi x _ _ M W (hxi.upd hW (by simp) (fun j hj => .inl hj)) hsx.len hsx.flat)
            have HDP : Hid (∀ W, Upd [] wr W → Calls Try.prog 58 #[vi, .int .i64 F.dim] W fun e w' => e = .returned (.int .i64 (deepOf x F.dim)) ∧ Below W.heap.size W w') :=
              Lib.hid (fun W hW => deepest_calls vi x _ M W (hxi.upd hW (by simp) (fun j hj => .inl hj)) hsx.len)
            have HBD : Hid (∀ r, badT F.L.length F.dim F.depth x = r → (r = true → res = 14) ∧ (r = false → (F.T.take (k + 1)).any (badT F.L.length F.dim F.depth) = false)) := Lib.hid (fun r hr => ⟨fun h => by
              rw [← HQ0.out, any_at hx (hr.trans h)]; rfl, fun h => any_take hx hq.out (hr.trans h)⟩)
            have HXR := Lib.hid hxr
            have CB : Hid (∀ W, Upd [] wr W → (W.cell? ⟨w.heap.size, 0, none⟩ = some (.int .i64 F.dim) ∧ W.cell? ⟨w.heap.size, 2, none⟩ = some (.int .i64 F.depth) ∧ W.cell? ⟨w.heap.size, 3, none⟩ = some (.slice aL F.L.length cL) ∧ W.cell? ⟨w.heap.size, 4, none⟩ = some (.slice (some ⟨b, o, none⟩) F.T.length cT) ∧ W.cell? ⟨b, o + k, none⟩ = some vi)) := Lib.hid (fun W hW => by
              obtain ⟨k0, k1, k2, k3, k4⟩ := fo_cells (upd_far hW hxr (by simp))
              exact ⟨k0, k2, k3, k4, (hW.cell hbb (by simp)).trans c0⟩)
            have i0 : (0 : Int) ≤ (k : Int) := by omega
            have i1 : (k : Int) < (F.T.length : Int) := by omega
            obtain ⟨ai, ci, rfl, _, _⟩ := Kd.slice_form hxi
            have hb0 := badT F.L.length F.dim F.depth x
            obtain ⟨c1, hc1⟩ : ∃ c, refCheck x F.L.length F.dim = c := ⟨_, rfl⟩
            have hcv := refCheck_vals x F.L.length F.dim
            rw [hc1] at hcv
            obtain ⟨c2, hc2⟩ : ∃ c, deepOf x F.dim = c := ⟨_, rfl⟩
            rw [hc1] at HCK
            rw [hc2] at HDP
            have HB2 : Hid (badT F.L.length F.dim F.depth x = (c1 != 0 || decide (F.depth < c2))) := Lib.hid (by unfold badT; rw [hc1, hc2])
            clear hx hxi hsx hxr hb0 hc1 hc2 hbb hq
            by_cases hz : c1 = 0
            · have hz1 : (c1 != 0) = false := by simpa using hz
              subst hz
              clear hcv
              by_cases hz2 : F.depth < c2
              · go_wp2_with fail
                go_region_held3 (fun w' => w'.cell? ⟨w.heap.size, 0, none⟩ = some (.int .i64 F.dim) ∧ w'.cell? ⟨w.heap.size, 2, none⟩ = some (.int .i64 F.depth) ∧ w'.cell? ⟨w.heap.size, 3, none⟩ = some (.slice aL F.L.length cL) ∧ w'.cell? ⟨w.heap.size, 4, none⟩ = some (.slice (some ⟨b, o, none⟩) F.T.length cT) ∧ w'.cell? ⟨b, o + k, none⟩ = some (.slice ai x.length ci))
                  (first | exact CB.out _ HU6.out | exact CB.out _ HU5.out | exact CB.out _ (Upd.drewN [] wr 1) | go_keep)
                  (first
                    | (go_at_call 57
                       refine (HCK.out _ (Upd.drewN [] wr _)).mono ?_
                       rintro e w5 ⟨rfl, hb5⟩
                       have HU5 : Hid (Upd [] wr w5) := Lib.hid ((Upd.drewN [] wr 1).trans (Upd.ofBelow hb5 []))
                       clear hb5)
                    | (go_at_call 58
                       refine (HDP.out _ HU5.out).mono ?_
                       rintro e w6 ⟨rfl, hb6⟩
                       have HU6 : Hid (Upd [] wr w6) := Lib.hid (HU5.out.trans (Upd.ofBelow hb6 []))
                       clear hb6))
                have hr := (HBD.out _ rfl).1 (by rw [HB2.out, hz1]; simpa using hz2)
                subst hr
                go_wp2_with fail
                go_ret
                exact ⟨rfl, ((HU0.out.trans hu.out).trans HU6.out).below⟩
              · go_wp2_with fail
                go_region_held3 (fun w' => w'.cell? ⟨w.heap.size, 0, none⟩ = some (.int .i64 F.dim) ∧ w'.cell? ⟨w.heap.size, 2, none⟩ = some (.int .i64 F.depth) ∧ w'.cell? ⟨w.heap.size, 3, none⟩ = some (.slice aL F.L.length cL) ∧ w'.cell? ⟨w.heap.size, 4, none⟩ = some (.slice (some ⟨b, o, none⟩) F.T.length cT) ∧ w'.cell? ⟨b, o + k, none⟩ = some (.slice ai x.length ci))
                  (first | exact CB.out _ HU6.out | exact CB.out _ HU5.out | exact CB.out _ (Upd.drewN [] wr 1) | go_keep)
                  (first
                    | (go_at_call 57
                       refine (HCK.out _ (Upd.drewN [] wr _)).mono ?_
                       rintro e w5 ⟨rfl, hb5⟩
                       have HU5 : Hid (Upd [] wr w5) := Lib.hid ((Upd.drewN [] wr 1).trans (Upd.ofBelow hb5 []))
                       clear hb5)
                    | (go_at_call 58
                       refine (HDP.out _ HU5.out).mono ?_
                       rintro e w6 ⟨rfl, hb6⟩
                       have HU6 : Hid (Upd [] wr w6) := Lib.hid (HU5.out.trans (Upd.ofBelow hb6 []))
                       clear hb6))
                have hr := (HBD.out _ rfl).2 (by rw [HB2.out, hz1]; simpa using hz2)
                have HR := Lib.hid hr
                clear hr
                go_wp2_with fail
                go_roundw
                case rel => exact ⟨k + 1, by omega, by go_num, HR, Lib.hid (hu.out.trans HU6.out)⟩
                case measure => simp [intOf]; omega
            · have hz1 : (c1 != 0) = true := by simpa using hz
              have hr := (HBD.out _ rfl).1 (by rw [HB2.out, hz1]; rfl)
              subst hr
              clear hz1
              rcases hcv with h | rfl | rfl
              · exact absurd h hz
              all_goals
               clear hz
               go_wp2_with fail
               -- REGION
               refine wp_region_noPanic ?_
               refine wp_region_held_drew (S := (fun w' => w'.cell? ⟨w.heap.size, 0, none⟩ = some (.int .i64 F.dim) ∧ w'.cell? ⟨w.heap.size, 2, none⟩ = some (.int .i64 F.depth) ∧ w'.cell? ⟨w.heap.size, 3, none⟩ = some (.slice aL F.L.length cL) ∧ w'.cell? ⟨w.heap.size, 4, none⟩ = some (.slice (some ⟨b, o, none⟩) F.T.length cT) ∧ w'.cell? ⟨b, o + k, none⟩ = some (.slice ai x.length ci))) (by kernel_rfl) ?_ (fun hHeld => ?_)
               · (try dsimp only)
                 exact CB.out _ (Upd.drewN [] wr 1)
               refine wpAnyH_take (i := 0) (oi := ?_) (v := ?_) ?_ (by kernel_rfl) (by kernel_rfl) (by kernel_rfl) (fun _ _ _ h => h) ?_ (by assumption) ?_
               (rotate_left 2; focus (simp only [List.getElem?_toArray, List.getElem?_cons_succ, List.getElem?_cons_zero]; rfl))
               (focus (refine Or.inl ⟨by rfl, ?_⟩; intro w hSw; (try dsimp only at hSw); go_simp; any_goals with_reducible rfl))
               (try simp only [Act.put, List.setIfInBounds_toArray, List.set_cons_zero, List.set_cons_succ])
               refine wpAnyH_take (i := 1) (oi := ?_) (v := ?_) ?_ (by kernel_rfl) (by kernel_rfl) (by kernel_rfl) (fun _ _ _ h => h) ?_ (by assumption) ?_
               (rotate_left 2; focus (simp only [List.getElem?_toArray, List.getElem?_cons_succ, List.getElem?_cons_zero]; rfl))
               (focus (refine Or.inl ⟨by rfl, ?_⟩; intro w hSw; (try dsimp only at hSw); go_simp; any_goals with_reducible rfl))
               (try simp only [Act.put, List.setIfInBounds_toArray, List.set_cons_zero, List.set_cons_succ])
               refine wpAnyH_take (i := 2) (oi := ?_) (v := ?_) ?_ (by kernel_rfl) (by kernel_rfl) (by kernel_rfl) (fun _ _ _ h => h) ?_ (by assumption) ?_
               (rotate_left 2; focus (simp only [List.getElem?_toArray, List.getElem?_cons_succ, List.getElem?_cons_zero]; rfl))
               (focus (refine Or.inl ⟨by rfl, ?_⟩; intro w hSw; (try dsimp only at hSw); go_simp; any_goals with_reducible rfl))
               (try simp only [Act.put, List.setIfInBounds_toArray, List.set_cons_zero, List.set_cons_succ])
               refine wpAnyH_take (i := 3) (oi := ?_) (v := ?_) ?_ (by kernel_rfl) (by kernel_rfl) (by kernel_rfl) (fun _ _ _ h => h) ?_ (by assumption) ?_
               (rotate_left 2; focus (simp only [List.getElem?_toArray, List.getElem?_cons_succ, List.getElem?_cons_zero]; rfl))
               (focus (refine Or.inl ⟨by rfl, ?_⟩; intro w hSw; (try dsimp only at hSw); go_simp; any_goals with_reducible rfl))
               (try simp only [Act.put, List.setIfInBounds_toArray, List.set_cons_zero, List.set_cons_succ])
               refine wpAnyH_take (i := 4) (oi := ?_) (v := ?_) ?_ (by kernel_rfl) (by kernel_rfl) (by kernel_rfl) (fun _ _ _ h => h) ?_ (by assumption) ?_
               (rotate_left 2; focus (simp only [List.getElem?_toArray, List.getElem?_cons_succ, List.getElem?_cons_zero]; rfl))
               (focus (refine Or.inl ⟨by rfl, ?_⟩; intro w hSw; (try dsimp only at hSw); go_simp; any_goals with_reducible rfl))
               (try simp only [Act.put, List.setIfInBounds_toArray, List.set_cons_zero, List.set_cons_succ])
               refine wpAnyH_take (i := 5) (oi := ?_) (v := ?_) ?_ (by kernel_rfl) (by kernel_rfl) (by kernel_rfl) (fun _ _ _ h => h) ?_ (by assumption) ?_
               (rotate_left 2; focus (simp only [List.getElem?_toArray, List.getElem?_cons_succ, List.getElem?_cons_zero]; rfl))
               (focus (refine Or.inl ⟨by rfl, ?_⟩; intro w hSw; (try dsimp only at hSw); go_simp; any_goals with_reducible rfl))
               (try simp only [Act.put, List.setIfInBounds_toArray, List.set_cons_zero, List.set_cons_succ])
               refine wpAnyH_take (i := 6) (oi := ?_) (v := ?_) ?_ (by kernel_rfl) (by kernel_rfl) (by kernel_rfl) (fun _ _ _ h => h) ?_ (by assumption) ?_
               (rotate_left 2; focus (simp only [List.getElem?_toArray, List.getElem?_cons_succ, List.getElem?_cons_zero]; rfl))
               (focus (refine Or.inl ⟨by rfl, ?_⟩; intro w hSw; (try dsimp only at hSw); go_simp; any_goals with_reducible rfl))
               (try simp only [Act.put, List.setIfInBounds_toArray, List.set_cons_zero, List.set_cons_succ])
               refine wpAnyH_take (i := 7) (oi := ?_) (v := ?_) ?_ (by kernel_rfl) (by kernel_rfl) (by kernel_rfl) (fun _ _ _ h => h) ?_ (by assumption) ?_
               (rotate_left 2; focus (simp only [List.getElem?_toArray, List.getElem?_cons_succ, List.getElem?_cons_zero]; rfl))
               (focus (refine Or.inl ⟨by rfl, ?_⟩; intro w hSw; (try dsimp only at hSw); go_simp; any_goals with_reducible rfl))
               (try simp only [Act.put, List.setIfInBounds_toArray, List.set_cons_zero, List.set_cons_succ])
               refine wpAnyH_take (i := 8) (oi := ?_) (v := ?_) ?_ (by kernel_rfl) (by kernel_rfl) (by kernel_rfl) (fun _ _ _ h => h) ?_ (by assumption) ?_
               (rotate_left 2; focus (simp only [List.getElem?_toArray, List.getElem?_cons_succ, List.getElem?_cons_zero]; rfl))
               (focus (refine Or.inl ⟨by rfl, ?_⟩; intro w hSw; (try dsimp only at hSw); go_simp; any_goals with_reducible rfl))
               (try simp only [Act.put, List.setIfInBounds_toArray, List.set_cons_zero, List.set_cons_succ])
               refine wpAnyH_take (i := 9) (oi := ?_) (v := ?_) ?_ (by kernel_rfl) (by kernel_rfl) (by kernel_rfl) (fun _ _ _ h => h) ?_ (by assumption) ?_
               (rotate_left 2; focus (simp only [List.getElem?_toArray, List.getElem?_cons_succ, List.getElem?_cons_zero]; rfl))
               (focus (refine Or.inl ⟨by rfl, ?_⟩; intro w hSw; (try dsimp only at hSw); go_simp; any_goals with_reducible rfl))
               (try simp only [Act.put, List.setIfInBounds_toArray, List.set_cons_zero, List.set_cons_succ])
               refine wpAnyH_ready (rs := [10]) (by kernel_rfl) (by simp) (AllReadyH.cons (by simp only [List.getElem?_toArray, List.getElem?_cons_succ, List.getElem?_cons_zero]; rfl) (fun K hK => ?_) AllReadyH.nil)
               go_simp
               go_at_call 57
               refine (HCK.out _ (Upd.drewN [] wr _)).mono ?_
               rintro e w5 ⟨rfl, hb5⟩
               have HU5 : Hid (Upd [] wr w5) := Lib.hid ((Upd.drewN [] wr 1).trans (Upd.ofBelow hb5 []))
               clear hb5
               (try go_wp2_with fail)
               refine hK.out _ _ ?_ (fun hNew => ?_)
               · (try dsimp only)
                 exact CB.out _ HU5.out
               clear hK K hHeld
               have hHeld := hNew
               clear hNew
               (try simp only [Act.put, List.setIfInBounds_toArray, List.set_cons_zero, List.set_cons_succ])
               refine wpAnyH_take (i := 11) (oi := ?_) (v := ?_) ?_ (by kernel_rfl) (by kernel_rfl) (by kernel_rfl) (fun _ _ _ h => h) ?_ (by assumption) ?_
               (rotate_left 2; focus (simp only [List.getElem?_toArray, List.getElem?_cons_succ, List.getElem?_cons_zero]; rfl))
               (focus (refine Or.inl ⟨by rfl, ?_⟩; intro w hSw; (try dsimp only at hSw); go_simp; any_goals with_reducible rfl))
               (try simp only [Act.put, List.setIfInBounds_toArray, List.set_cons_zero, List.set_cons_succ])
               refine wpAnyH_take (i := 12) (oi := ?_) (v := ?_) ?_ (by kernel_rfl) (by kernel_rfl) (by kernel_rfl) (fun _ _ _ h => h) ?_ (by assumption) ?_
               (rotate_left 2; focus (simp only [List.getElem?_toArray, List.getElem?_cons_succ, List.getElem?_cons_zero]; rfl))
               (focus (refine Or.inl ⟨by rfl, ?_⟩; intro w hSw; (try dsimp only at hSw); go_simp; any_goals with_reducible rfl))
               (try simp only [Act.put, List.setIfInBounds_toArray, List.set_cons_zero, List.set_cons_succ])
               refine wpAnyH_take (i := 13) (oi := ?_) (v := undef) ?_ (by kernel_rfl) (by kernel_rfl) (by kernel_rfl) (fun _ _ _ h => h) ?_ (by assumption) ?_
               (rotate_left 1; focus (simp only [List.getElem?_toArray, List.getElem?_cons_succ, List.getElem?_cons_zero]; rfl))
               (focus (exact Or.inr ⟨by rfl, rfl⟩))
               (try simp only [Act.put, List.setIfInBounds_toArray, List.set_cons_zero, List.set_cons_succ])
               refine wpAnyH_take (i := 14) (oi := ?_) (v := undef) ?_ (by kernel_rfl) (by kernel_rfl) (by kernel_rfl) (fun _ _ _ h => h) ?_ (by assumption) ?_
               (rotate_left 1; focus (simp only [List.getElem?_toArray, List.getElem?_cons_succ, List.getElem?_cons_zero]; rfl))
               (focus (exact Or.inr ⟨by rfl, rfl⟩))
               (try simp only [Act.put, List.setIfInBounds_toArray, List.set_cons_zero, List.set_cons_succ])
               refine wpAnyH_take (i := 15) (oi := ?_) (v := undef) ?_ (by kernel_rfl) (by kernel_rfl) (by kernel_rfl) (fun _ _ _ h => h) ?_ (by assumption) ?_
               (rotate_left 1; focus (simp only [List.getElem?_toArray, List.getElem?_cons_succ, List.getElem?_cons_zero]; rfl))
               (focus (exact Or.inr ⟨by rfl, rfl⟩))
               (try simp only [Act.put, List.setIfInBounds_toArray, List.set_cons_zero, List.set_cons_succ])
               refine wpAnyH_take (i := 16) (oi := ?_) (v := undef) ?_ (by kernel_rfl) (by kernel_rfl) (by kernel_rfl) (fun _ _ _ h => h) ?_ (by assumption) ?_
               (rotate_left 1; focus (simp only [List.getElem?_toArray, List.getElem?_cons_succ, List.getElem?_cons_zero]; rfl))
               (focus (exact Or.inr ⟨by rfl, rfl⟩))
               (try simp only [Act.put, List.setIfInBounds_toArray, List.set_cons_zero, List.set_cons_succ])
               refine wpAnyH_take (i := 17) (oi := ?_) (v := undef) ?_ (by kernel_rfl) (by kernel_rfl) (by kernel_rfl) (fun _ _ _ h => h) ?_ (by assumption) ?_
               (rotate_left 1; focus (simp only [List.getElem?_toArray, List.getElem?_cons_succ, List.getElem?_cons_zero]; rfl))
               (focus (exact Or.inr ⟨by rfl, rfl⟩))
               (try simp only [Act.put, List.setIfInBounds_toArray, List.set_cons_zero, List.set_cons_succ])
               refine wpAnyH_take (i := 18) (oi := ?_) (v := undef) ?_ (by kernel_rfl) (by kernel_rfl) (by kernel_rfl) (fun _ _ _ h => h) ?_ (by assumption) ?_
               (rotate_left 1; focus (simp only [List.getElem?_toArray, List.getElem?_cons_succ, List.getElem?_cons_zero]; rfl))
               (focus (exact Or.inr ⟨by rfl, rfl⟩))
               (try simp only [Act.put, List.setIfInBounds_toArray, List.set_cons_zero, List.set_cons_succ])
               refine wpAnyH_take (i := 19) (oi := ?_) (v := undef) ?_ (by kernel_rfl) (by kernel_rfl) (by kernel_rfl) (fun _ _ _ h => h) ?_ (by assumption) ?_
               (rotate_left 1; focus (simp only [List.getElem?_toArray, List.getElem?_cons_succ, List.getElem?_cons_zero]; rfl))
               (focus (exact Or.inr ⟨by rfl, rfl⟩))
               (try simp only [Act.put, List.setIfInBounds_toArray, List.set_cons_zero, List.set_cons_succ])
               refine wpAnyH_take (i := 20) (oi := ?_) (v := undef) ?_ (by kernel_rfl) (by kernel_rfl) (by kernel_rfl) (fun _ _ _ h => h) ?_ (by assumption) ?_
               (rotate_left 1; focus (simp only [List.getElem?_toArray, List.getElem?_cons_succ, List.getElem?_cons_zero]; rfl))
               (focus (exact Or.inr ⟨by rfl, rfl⟩))
               (try simp only [Act.put, List.setIfInBounds_toArray, List.set_cons_zero, List.set_cons_succ])
               refine wpAnyH_take (i := 21) (oi := ?_) (v := undef) ?_ (by kernel_rfl) (by kernel_rfl) (by kernel_rfl) (fun _ _ _ h => h) ?_ (by assumption) ?_
               (rotate_left 1; focus (simp only [List.getElem?_toArray, List.getElem?_cons_succ, List.getElem?_cons_zero]; rfl))
               (focus (exact Or.inr ⟨by rfl, rfl⟩))
               (try simp only [Act.put, List.setIfInBounds_toArray, List.set_cons_zero, List.set_cons_succ])
               refine wpAnyH_take (i := 22) (oi := ?_) (v := undef) ?_ (by kernel_rfl) (by kernel_rfl) (by kernel_rfl) (fun _ _ _ h => h) ?_ (by assumption) ?_
               (rotate_left 1; focus (simp only [List.getElem?_toArray, List.getElem?_cons_succ, List.getElem?_cons_zero]; rfl))
               (focus (exact Or.inr ⟨by rfl, rfl⟩))
               (try simp only [Act.put, List.setIfInBounds_toArray, List.set_cons_zero, List.set_cons_succ])
               refine wpAnyH_take (i := 23) (oi := ?_) (v := undef) ?_ (by kernel_rfl) (by kernel_rfl) (by kernel_rfl) (fun _ _ _ h => h) ?_ (by assumption) ?_
               (rotate_left 1; focus (simp only [List.getElem?_toArray, List.getElem?_cons_succ, List.getElem?_cons_zero]; rfl))
               (focus (exact Or.inr ⟨by rfl, rfl⟩))
               (try simp only [Act.put, List.setIfInBounds_toArray, List.set_cons_zero, List.set_cons_succ])
               refine wpAnyH_take (i := 24) (oi := ?_) (v := ?_) ?_ (by kernel_rfl) (by kernel_rfl) (by kernel_rfl) (fun _ _ _ h => h) ?_ (by assumption) ?_
               (rotate_left 2; focus (simp only [List.getElem?_toArray, List.getElem?_cons_succ, List.getElem?_cons_zero]; rfl))
               (focus (refine Or.inl ⟨by rfl, ?_⟩; intro w hSw; (try dsimp only at hSw); go_simp; any_goals with_reducible rfl))
               (try simp only [Act.put, List.setIfInBounds_toArray, List.set_cons_zero, List.set_cons_succ])
               refine wpAnyH_done (by kernel_rfl) ?_ _
               refine NoPanic.normal ?_
               -- END REGION
               go_wp2_with fail
               go_ret
               exact ⟨rfl, ((HU0.out.trans hu.out).trans HU5.out).below⟩
          · have e : F.T.take k = F.T := List.take_of_length_le (by omega)
            have hr : res = 0 := by
              have := hq.out
              rw [e] at this
              rw [← HQ0.out, this]; rfl
            subst hr
            clear hq e hxr
            go_wp2_with fail
            go_ret
            exact ⟨rfl, (HU0.out.trans hu.out).below⟩

end Go.Proofs.Ytiplifkbegmeiaa
