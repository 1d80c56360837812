/-
layout.Check, search.Check; the document's Check of a search.
-/
import Derived.Test.YtiplifkbegmeiaaFo3
namespace Go.Proofs.Ytiplifkbegmeiaa
set_option linter.unusedVariables false
set_option linter.unusedSimpArgs false
open Go.RowKit

def badL (n dim depth : Int) (t : List Nd) : Bool := checkNd t n dim != 0 || decide (depth < mostOf (walkOf t))
theorem bad_same (n dim depth : Int) (t : List Nd) : badL n dim depth t = badT n dim depth t := by
  unfold badL badT
  rw [check_same]
  by_cases hc : refCheck t n dim = 0
  · have hw : walkOf t = (treeGo t dim 65 0 0).1 := by
      unfold refCheck at hc
      split at hc
      · simp at hc
      · split at hc
        · simp at hc
        · rename_i h1
          split at hc
          · simp at hc
          · rename_i h2
            exact walkOf_tree (by simpa using h1) (by simpa using h2)
    rw [hw]
    rfl
  · have hb : (refCheck t n dim != 0) = true := by simpa using hc
    rw [hb]; rfl

/-- layout.Check's answer. -/
def layCheck (n : Nat) (dim leaf depth : Int) (T : List (List Nd)) : Int :=
  if n = 0 then 15 else if leaf < 1 ∨ 1024 < leaf ∨ depth < 0 ∨ 64 < depth then 1 else if T.length < 1 ∨ 256 < T.length then 5
  else if T.any (badL n dim depth) then 14 else 0
theorem lay_same (F : Fo) : layCheck F.L.length F.dim F.leaf F.depth F.T = foCheck F := by
  unfold layCheck foCheck
  have e : badL (F.L.length : Int) F.dim F.depth = badT (F.L.length : Int) F.dim F.depth := funext (bad_same _ _ _)
  rw [e]
  by_cases h : F.L = []
  · rw [if_pos h, if_pos (by rw [h]; rfl)]
  · rw [if_neg h, if_neg (fun e => h (List.eq_nil_of_length_eq_zero e))]

theorem lay_cells {w : World} {b p : Nat} {leaf depth : Int} {vT : Value} {t : TypeId} (h : w.heap[b]? = some (.cells #[.pointer (some ⟨p, 0, none⟩), .int .i64 leaf, .int .i64 depth, vT] t)) :
    w.cell? ⟨b, 0, none⟩ = some (.pointer (some ⟨p, 0, none⟩)) ∧ w.cell? ⟨b, 1, none⟩ = some (.int .i64 leaf) ∧ w.cell? ⟨b, 2, none⟩ = some (.int .i64 depth) ∧ w.cell? ⟨b, 3, none⟩ = some vT := by
  refine ⟨?_, ?_, ?_, ?_⟩ <;> (rw [cell_of_block h]; rfl)

set_option maxHeartbeats 4000000 in
set_option maxRecDepth 100000 in
theorem layout_check_calls (p n : Nat) (dim leaf depth : Int) (flat : List Int) (vT : Value) (T : List (List Nd)) (M : List Nat) (w : World) (hi : IsItems w M p dim flat) (hd : 1 ≤ dim) (hn : (flat.length : Int) = n * dim) (h : kNd.slice.slice.At M w [vT] T) (hs : ∀ t ∈ T, TSmall t) :
    Calls Try.prog 20 #[.agg #[.pointer (some ⟨p, 0, none⟩), .int .i64 leaf, .int .i64 depth, vT]] w fun e w' => e = .returned (.int .i64 (layCheck n dim leaf depth T)) ∧ Below w.heap.size w w' := by
  obtain ⟨aT, cT, rfl, hlT, hcT⟩ := Kd.slice_form h
  unfold maxLen at hcT
  obtain ⟨W0, hW0⟩ : ∃ W0, w.alloc (.cells #[.pointer (some ⟨p, 0, none⟩), .int .i64 leaf, .int .i64 depth, .slice aT T.length cT] 30) = W0 := ⟨_, rfl⟩
  have hu0 : Upd [] w W0 := by rw [← hW0]; exact Upd.alloc [] w _
  have hx0 : W0.heap[w.heap.size]? = some (.cells #[.pointer (some ⟨p, 0, none⟩), .int .i64 leaf, .int .i64 depth, .slice aT T.length cT] 30) := by rw [← hW0]; exact Go.heap_alloc_new w _
  have HL : Hid (∀ W, Upd [] W0 W → Calls Try.prog 28 #[.pointer (some ⟨p, 0, none⟩)] W fun e w' => e = .returned (.int .i64 (n : Int)) ∧ ∃ m, w' = W.drewN m) :=
    Lib.hid (fun W hu => len_calls W M p dim flat n (hi.below (hu0.trans hu).below) hd hn)
  have HDM : Hid (∀ W, Upd [] W0 W → Calls Try.prog 36 #[.pointer (some ⟨p, 0, none⟩)] W fun e w' => e = .returned (.int .i64 dim) ∧ W = w') :=
    Lib.hid (fun W hu => dim_calls W M p dim flat (hi.below (hu0.trans hu).below))
  have H0 := Lib.hid (h.below hu0.below)
  have HU0 := Lib.hid hu0
  have HX0 := Lib.hid hx0
  have HS := Lib.hid hs
  obtain ⟨d0, d1, d2, d3⟩ := lay_cells hx0
  obtain ⟨res, hres⟩ : ∃ r, layCheck n dim leaf depth T = r := ⟨_, rfl⟩
  rw [hres]
  have HRES := Lib.hid hres
  obtain ⟨N, hN⟩ : ∃ N : Int, (n : Int) = N := ⟨_, rfl⟩
  rw [hN] at HL
  have HN := Lib.hid hN
  have n0 : 0 ≤ N := by omega
  clear h hs hu0 hx0 hres hi hn hN
  by_cases h1 : n = 0
  · have hr : res = 15 := by rw [← HRES.out]; unfold layCheck; rw [if_pos h1]
    subst hr
    have hN0 : N = 0 := by have := HN.out; omega
    subst hN0
    clear h1
    go_enter Try.func20, Try.ntmps20
    go_wp2_with fail
    refine (HL.out _ (Upd.refl [] _)).mono ?_
    rintro e w1 ⟨rfl, m, rfl⟩
    go_wp2_with fail
    go_ret
    exact ⟨rfl, (HU0.out.trans (Upd.drewN [] _ _)).below⟩
  · have hl0 : (N == 0) = false := by rw [beq_eq_false_iff_ne]; have := HN.out; omega
    by_cases h2 : leaf < 1 ∨ 1024 < leaf ∨ depth < 0 ∨ 64 < depth
    · have hr : res = 1 := by rw [← HRES.out]; unfold layCheck; rw [if_neg h1, if_pos h2]
      subst hr
      rcases (show leaf < 1 ∨ ¬ leaf < 1 ∧ 1024 < leaf ∨ (¬ leaf < 1 ∧ ¬ 1024 < leaf) ∧ depth < 0 ∨ (¬ leaf < 1 ∧ ¬ 1024 < leaf) ∧ ¬ depth < 0 ∧ 64 < depth by omega) with h2 | ⟨g1, h2⟩ | ⟨⟨g1, g2⟩, h2⟩ | ⟨⟨g1, g2⟩, g3, h2⟩
      all_goals
        clear h1
        go_enter Try.func20, Try.ntmps20
        go_wp2_with fail
        refine (HL.out _ (Upd.refl [] _)).mono ?_
        rintro e w1 ⟨rfl, m, rfl⟩
        go_wp2_with fail
        go_ret
        exact ⟨rfl, (HU0.out.trans (Upd.drewN [] _ _)).below⟩
    · have g1 : 1 ≤ leaf := by omega
      have g2 : leaf ≤ 1024 := by omega
      have g3 : 0 ≤ depth := by omega
      have g4 : depth ≤ 64 := by omega
      by_cases h3 : T.length < 1 ∨ 256 < T.length
      · have hr : res = 5 := by rw [← HRES.out]; unfold layCheck; rw [if_neg h1, if_neg h2, if_pos h3]
        subst hr
        rcases (show (T.length : Int) < 1 ∨ ¬ (T.length : Int) < 1 ∧ 256 < (T.length : Int) by omega) with h3 | ⟨g5, h3⟩
        all_goals
          clear h1 h2
          go_enter Try.func20, Try.ntmps20
          go_wp2_with fail
          refine (HL.out _ (Upd.refl [] _)).mono ?_
          rintro e w1 ⟨rfl, m, rfl⟩
          go_wp2_with fail
          go_ret
          exact ⟨rfl, (HU0.out.trans (Upd.drewN [] _ _)).below⟩
      · have HQ0 : Hid ((if T.any (badL n dim depth) then (14 : Int) else 0) = res) := Lib.hid (by have := HRES.out; unfold layCheck at this; rw [if_neg h1, if_neg h2, if_neg h3] at this; exact this)
        rw [HN.out] at HQ0
        have g5 : 1 ≤ (T.length : Int) := by omega
        have g6 : (T.length : Int) ≤ 256 := by omega
        clear h1 h2 h3
        go_enter Try.func20, Try.ntmps20
        go_wp2_with fail
        refine (HL.out _ (Upd.refl [] _)).mono ?_
        rintro e w1 ⟨rfl, m, rfl⟩
        go_wp2_with fail
        clear d0 d1 d2 d3
        go_loopw [48] (fun i wr => ∃ k : Nat, k ≤ T.length ∧ i = .int .i64 k ∧ Hid ((T.take k).any (badL N dim depth) = false) ∧ Hid (Upd [] W0 wr)) (fun i _ => T.length - (intOf i).toNat)
        case atStart => exact ⟨0, Nat.zero_le _, rfl, rfl, Upd.drewN [] _ _⟩
        case round =>
          obtain ⟨k, hk, rfl, hq, hu⟩ := hrel
          have hxr := upd_far hu.out HX0.out (by simp)
          obtain ⟨d0, d1, d2, d3⟩ := lay_cells hxr
          by_cases hlt : k < T.length
          · obtain ⟨x, hx⟩ : ∃ x, T[k]? = some x := ⟨_, List.getElem?_eq_getElem hlt⟩
            obtain ⟨b, o, c, vi, hv, hbb, _, _, _, c0, hxi⟩ := lists_at (H0.out.upd hu.out (by simp) (fun j hj => .inl hj)) hx
            simp at hv
            obtain ⟨rfl, rfl⟩ := hv
            have hsx := HS.out x (List.mem_of_getElem? hx)
            have HCK : Hid (∀ W, Upd [] wr W → Calls Try.prog 42 #[vi, .int .i64 N, .int .i64 dim] W fun e w' => e = .returned (.int .i64 (checkNd x N dim)) ∧ Below W.heap.size W w') :=
              Lib.hid (fun W hW => shape_check_calls vi x _ _ M W (hxi.upd hW (by simp) (fun j hj => .inl hj)) hsx.ids)
            have HDP : Hid (∀ W, Upd [] wr W → Calls Try.prog 43 #[vi] W fun e w' => e = .returned (.int .i64 (mostOf (walkOf x))) ∧ Below W.heap.size W w') :=
              Lib.hid (fun W hW => shape_depth_calls vi x M W (hxi.upd hW (by simp) (fun j hj => .inl hj)) hsx.len)
            have HLR : Hid (∀ W, Upd [] wr W → Calls Try.prog 28 #[.pointer (some ⟨p, 0, none⟩)] W fun e w' => e = .returned (.int .i64 N) ∧ ∃ m, w' = W.drewN m) := Lib.hid (fun W hW => HL.out W (hu.out.trans hW))
            have HDR : Hid (∀ W, Upd [] wr W → Calls Try.prog 36 #[.pointer (some ⟨p, 0, none⟩)] W fun e w' => e = .returned (.int .i64 dim) ∧ W = w') := Lib.hid (fun W hW => HDM.out W (hu.out.trans hW))
            have HBD : Hid (∀ r, badL N dim depth x = r → (r = true → res = 14) ∧ (r = false → (T.take (k + 1)).any (badL N dim depth) = false)) := Lib.hid (fun r hr => ⟨fun h => by
              rw [← HQ0.out, any_at hx (hr.trans h)]; rfl, fun h => any_take hx hq.out (hr.trans h)⟩)
            have CB : Hid (∀ W, Upd [] wr W → (W.cell? ⟨w.heap.size, 0, none⟩ = some (.pointer (some ⟨p, 0, none⟩)) ∧ W.cell? ⟨w.heap.size, 2, none⟩ = some (.int .i64 depth))) := Lib.hid (fun W hW => by
              obtain ⟨k0, k1, k2, k3⟩ := lay_cells (upd_far hW hxr (by simp))
              exact ⟨k0, k2⟩)
            have i0 : (0 : Int) ≤ (k : Int) := by omega
            have i1 : (k : Int) < (T.length : Int) := by omega
            obtain ⟨ai, ci, rfl, _, _⟩ := Kd.slice_form hxi
            obtain ⟨c1, hc1⟩ : ∃ c, checkNd x N dim = c := ⟨_, rfl⟩
            obtain ⟨c2, hc2⟩ : ∃ c, mostOf (walkOf x) = c := ⟨_, rfl⟩
            have hcv := refCheck_vals x N dim
            rw [← check_same, hc1] at hcv
            rw [hc1] at HCK
            rw [hc2] at HDP
            have HB2 : Hid (badL N dim depth x = (c1 != 0 || decide (depth < c2))) := Lib.hid (by unfold badL; rw [hc1, hc2])
            clear hx hxi hsx hxr hc1 hc2 hbb hq
            by_cases hz : c1 = 0
            · have hz1 : (c1 != 0) = false := by simpa using hz
              subst hz
              clear hcv
              by_cases hz2 : depth < c2
              · go_wp2_with fail
                go_region_held3 (fun w' => w'.cell? ⟨w.heap.size, 0, none⟩ = some (.pointer (some ⟨p, 0, none⟩)) ∧ w'.cell? ⟨w.heap.size, 2, none⟩ = some (.int .i64 depth))
                  (first | exact CB.out _ HU6.out | exact CB.out _ HU5.out | exact CB.out _ ((Upd.drewN [] wr 1).trans (Upd.drewN [] _ _)) | exact CB.out _ (Upd.drewN [] wr _) | go_keep)
                  (first
                    | (go_at_call 28
                       refine (HLR.out _ (Upd.drewN [] wr _)).mono ?_
                       rintro e w4 ⟨rfl, m1, rfl⟩)
                    | (go_at_call 36
                       refine (HDR.out _ (by first | exact (Upd.drewN [] wr 1).trans (Upd.drewN [] _ _) | exact Upd.drewN [] wr _)).mono ?_
                       rintro e w4 ⟨rfl, rfl⟩)
                    | (go_at_call 42
                       refine (HCK.out _ (by first | exact (Upd.drewN [] wr 1).trans (Upd.drewN [] _ _) | exact Upd.drewN [] wr _)).mono ?_
                       rintro e w5 ⟨rfl, hb5⟩
                       have HU5 : Hid (Upd [] wr w5) := Lib.hid ((by first | exact (Upd.drewN [] wr 1).trans (Upd.drewN [] _ _) | exact Upd.drewN [] wr _ : Upd [] wr _).trans (Upd.ofBelow hb5 []))
                       clear hb5)
                    | (go_at_call 43
                       refine (HDP.out _ HU5.out).mono ?_
                       rintro e w6 ⟨rfl, hb6⟩
                       have HU6 : Hid (Upd [] wr w6) := Lib.hid (HU5.out.trans (Upd.ofBelow hb6 []))
                       clear hb6))
                have hr := (HBD.out _ rfl).1 (by rw [HB2.out, hz1]; simpa using hz2)
                subst hr
                go_wp2_with fail
                go_ret
                exact ⟨rfl, ((HU0.out.trans hu.out).trans HU6.out).below⟩
              · go_wp2_with fail
                go_region_held3 (fun w' => w'.cell? ⟨w.heap.size, 0, none⟩ = some (.pointer (some ⟨p, 0, none⟩)) ∧ w'.cell? ⟨w.heap.size, 2, none⟩ = some (.int .i64 depth))
                  (first | exact CB.out _ HU6.out | exact CB.out _ HU5.out | exact CB.out _ ((Upd.drewN [] wr 1).trans (Upd.drewN [] _ _)) | exact CB.out _ (Upd.drewN [] wr _) | go_keep)
                  (first
                    | (go_at_call 28
                       refine (HLR.out _ (Upd.drewN [] wr _)).mono ?_
                       rintro e w4 ⟨rfl, m1, rfl⟩)
                    | (go_at_call 36
                       refine (HDR.out _ (by first | exact (Upd.drewN [] wr 1).trans (Upd.drewN [] _ _) | exact Upd.drewN [] wr _)).mono ?_
                       rintro e w4 ⟨rfl, rfl⟩)
                    | (go_at_call 42
                       refine (HCK.out _ (by first | exact (Upd.drewN [] wr 1).trans (Upd.drewN [] _ _) | exact Upd.drewN [] wr _)).mono ?_
                       rintro e w5 ⟨rfl, hb5⟩
                       have HU5 : Hid (Upd [] wr w5) := Lib.hid ((by first | exact (Upd.drewN [] wr 1).trans (Upd.drewN [] _ _) | exact Upd.drewN [] wr _ : Upd [] wr _).trans (Upd.ofBelow hb5 []))
                       clear hb5)
                    | (go_at_call 43
                       refine (HDP.out _ HU5.out).mono ?_
                       rintro e w6 ⟨rfl, hb6⟩
                       have HU6 : Hid (Upd [] wr w6) := Lib.hid (HU5.out.trans (Upd.ofBelow hb6 []))
                       clear hb6))
                have hr := (HBD.out _ rfl).2 (by rw [HB2.out, hz1]; simpa using hz2)
                have HR := Lib.hid hr
                clear hr
                go_wp2_with fail
                go_roundw
                case rel => exact ⟨k + 1, by omega, by go_num, HR, Lib.hid (hu.out.trans HU6.out)⟩
                case measure => simp [intOf]; omega
            · have hz1 : (c1 != 0) = true := by simpa using hz
              have hr := (HBD.out _ rfl).1 (by rw [HB2.out, hz1]; rfl)
              subst hr
              clear hz1
              rcases hcv with h | rfl | rfl
              · exact absurd h hz
              all_goals
               clear hz
               go_wp2_with fail
               -- REGION
               refine wp_region_noPanic ?_
               refine wp_region_held_drew (S := (fun w' => w'.cell? ⟨w.heap.size, 0, none⟩ = some (.pointer (some ⟨p, 0, none⟩)) ∧ w'.cell? ⟨w.heap.size, 2, none⟩ = some (.int .i64 depth))) (by kernel_rfl) ?_ (fun hHeld => ?_)
               · (try dsimp only)
                 exact CB.out _ (Upd.drewN [] wr 1)
               refine wpAnyH_take (i := 0) (oi := ?_) (v := ?_) ?_ (by kernel_rfl) (by kernel_rfl) (by kernel_rfl) (fun _ _ _ h => h) ?_ (by assumption) ?_
               (rotate_left 2; focus (simp only [List.getElem?_toArray, List.getElem?_cons_succ, List.getElem?_cons_zero]; rfl))
               (focus (refine Or.inl ⟨by rfl, ?_⟩; intro w hSw; (try dsimp only at hSw); go_simp; any_goals with_reducible rfl))
               (try simp only [Act.put, List.setIfInBounds_toArray, List.set_cons_zero, List.set_cons_succ])
               refine wpAnyH_take (i := 1) (oi := ?_) (v := ?_) ?_ (by kernel_rfl) (by kernel_rfl) (by kernel_rfl) (fun _ _ _ h => h) ?_ (by assumption) ?_
               (rotate_left 2; focus (simp only [List.getElem?_toArray, List.getElem?_cons_succ, List.getElem?_cons_zero]; rfl))
               (focus (refine Or.inl ⟨by rfl, ?_⟩; intro w hSw; (try dsimp only at hSw); go_simp; any_goals with_reducible rfl))
               (try simp only [Act.put, List.setIfInBounds_toArray, List.set_cons_zero, List.set_cons_succ])
               refine wpAnyH_take (i := 2) (oi := ?_) (v := ?_) ?_ (by kernel_rfl) (by kernel_rfl) (by kernel_rfl) (fun _ _ _ h => h) ?_ (by assumption) ?_
               (rotate_left 2; focus (simp only [List.getElem?_toArray, List.getElem?_cons_succ, List.getElem?_cons_zero]; rfl))
               (focus (refine Or.inl ⟨by rfl, ?_⟩; intro w hSw; (try dsimp only at hSw); go_simp; any_goals with_reducible rfl))
               (try simp only [Act.put, List.setIfInBounds_toArray, List.set_cons_zero, List.set_cons_succ])
               refine wpAnyH_take (i := 4) (oi := ?_) (v := ?_) ?_ (by kernel_rfl) (by kernel_rfl) (by kernel_rfl) (fun _ _ _ h => h) ?_ (by assumption) ?_
               (rotate_left 2; focus (simp only [List.getElem?_toArray, List.getElem?_cons_succ, List.getElem?_cons_zero]; rfl))
               (focus (refine Or.inl ⟨by rfl, ?_⟩; intro w hSw; (try dsimp only at hSw); go_simp; any_goals with_reducible rfl))
               (try simp only [Act.put, List.setIfInBounds_toArray, List.set_cons_zero, List.set_cons_succ])
               refine wpAnyH_take (i := 5) (oi := ?_) (v := ?_) ?_ (by kernel_rfl) (by kernel_rfl) (by kernel_rfl) (fun _ _ _ h => h) ?_ (by assumption) ?_
               (rotate_left 2; focus (simp only [List.getElem?_toArray, List.getElem?_cons_succ, List.getElem?_cons_zero]; rfl))
               (focus (refine Or.inl ⟨by rfl, ?_⟩; intro w hSw; (try dsimp only at hSw); go_simp; any_goals with_reducible rfl))
               (try simp only [Act.put, List.setIfInBounds_toArray, List.set_cons_zero, List.set_cons_succ])
               refine wpAnyH_ready (rs := [3]) (by kernel_rfl) (by simp) (AllReadyH.cons (by simp only [List.getElem?_toArray, List.getElem?_cons_succ, List.getElem?_cons_zero]; rfl) (fun K hK => ?_) AllReadyH.nil)
               go_simp
               go_at_call 28
               refine (HLR.out _ (Upd.drewN [] wr _)).mono ?_
               rintro e w4 ⟨rfl, m1, rfl⟩
               (try go_wp2_with fail)
               refine hK.out _ _ ?_ (fun hNew => ?_)
               · (try dsimp only)
                 exact CB.out _ (by first | exact (Upd.drewN [] wr 1).trans (Upd.drewN [] _ _) | exact Upd.drewN [] wr _)
               clear hK K hHeld
               have hHeld := hNew
               clear hNew
               (try simp only [Act.put, List.setIfInBounds_toArray, List.set_cons_zero, List.set_cons_succ])
               refine wpAnyH_ready (rs := [6]) (by kernel_rfl) (by simp) (AllReadyH.cons (by simp only [List.getElem?_toArray, List.getElem?_cons_succ, List.getElem?_cons_zero]; rfl) (fun K hK => ?_) AllReadyH.nil)
               go_simp
               go_at_call 36
               refine (HDR.out _ (by first | exact (Upd.drewN [] wr 1).trans (Upd.drewN [] _ _) | exact Upd.drewN [] wr _)).mono ?_
               rintro e w4 ⟨rfl, rfl⟩
               (try go_wp2_with fail)
               refine hK.out _ _ ?_ (fun hNew => ?_)
               · (try dsimp only)
                 exact CB.out _ (by first | exact (Upd.drewN [] wr 1).trans (Upd.drewN [] _ _) | exact Upd.drewN [] wr _)
               clear hK K hHeld
               have hHeld := hNew
               clear hNew
               (try simp only [Act.put, List.setIfInBounds_toArray, List.set_cons_zero, List.set_cons_succ])
               refine wpAnyH_ready (rs := [7]) (by kernel_rfl) (by simp) (AllReadyH.cons (by simp only [List.getElem?_toArray, List.getElem?_cons_succ, List.getElem?_cons_zero]; rfl) (fun K hK => ?_) AllReadyH.nil)
               go_simp
               go_at_call 42
               refine (HCK.out _ (by first | exact (Upd.drewN [] wr 1).trans (Upd.drewN [] _ _) | exact Upd.drewN [] wr _)).mono ?_
               rintro e w5 ⟨rfl, hb5⟩
               have HU5 : Hid (Upd [] wr w5) := Lib.hid ((by first | exact (Upd.drewN [] wr 1).trans (Upd.drewN [] _ _) | exact Upd.drewN [] wr _ : Upd [] wr _).trans (Upd.ofBelow hb5 []))
               clear hb5
               (try go_wp2_with fail)
               refine hK.out _ _ ?_ (fun hNew => ?_)
               · (try dsimp only)
                 exact CB.out _ HU5.out
               clear hK K hHeld
               have hHeld := hNew
               clear hNew
               (try simp only [Act.put, List.setIfInBounds_toArray, List.set_cons_zero, List.set_cons_succ])
               refine wpAnyH_take (i := 8) (oi := ?_) (v := ?_) ?_ (by kernel_rfl) (by kernel_rfl) (by kernel_rfl) (fun _ _ _ h => h) ?_ (by assumption) ?_
               (rotate_left 2; focus (simp only [List.getElem?_toArray, List.getElem?_cons_succ, List.getElem?_cons_zero]; rfl))
               (focus (refine Or.inl ⟨by rfl, ?_⟩; intro w hSw; (try dsimp only at hSw); go_simp; any_goals with_reducible rfl))
               (try simp only [Act.put, List.setIfInBounds_toArray, List.set_cons_zero, List.set_cons_succ])
               refine wpAnyH_take (i := 9) (oi := ?_) (v := ?_) ?_ (by kernel_rfl) (by kernel_rfl) (by kernel_rfl) (fun _ _ _ h => h) ?_ (by assumption) ?_
               (rotate_left 2; focus (simp only [List.getElem?_toArray, List.getElem?_cons_succ, List.getElem?_cons_zero]; rfl))
               (focus (refine Or.inl ⟨by rfl, ?_⟩; intro w hSw; (try dsimp only at hSw); go_simp; any_goals with_reducible rfl))
               (try simp only [Act.put, List.setIfInBounds_toArray, List.set_cons_zero, List.set_cons_succ])
               refine wpAnyH_take (i := 10) (oi := ?_) (v := undef) ?_ (by kernel_rfl) (by kernel_rfl) (by kernel_rfl) (fun _ _ _ h => h) ?_ (by assumption) ?_
               (rotate_left 1; focus (simp only [List.getElem?_toArray, List.getElem?_cons_succ, List.getElem?_cons_zero]; rfl))
               (focus (exact Or.inr ⟨by rfl, rfl⟩))
               (try simp only [Act.put, List.setIfInBounds_toArray, List.set_cons_zero, List.set_cons_succ])
               refine wpAnyH_take (i := 11) (oi := ?_) (v := undef) ?_ (by kernel_rfl) (by kernel_rfl) (by kernel_rfl) (fun _ _ _ h => h) ?_ (by assumption) ?_
               (rotate_left 1; focus (simp only [List.getElem?_toArray, List.getElem?_cons_succ, List.getElem?_cons_zero]; rfl))
               (focus (exact Or.inr ⟨by rfl, rfl⟩))
               (try simp only [Act.put, List.setIfInBounds_toArray, List.set_cons_zero, List.set_cons_succ])
               refine wpAnyH_take (i := 12) (oi := ?_) (v := undef) ?_ (by kernel_rfl) (by kernel_rfl) (by kernel_rfl) (fun _ _ _ h => h) ?_ (by assumption) ?_
               (rotate_left 1; focus (simp only [List.getElem?_toArray, List.getElem?_cons_succ, List.getElem?_cons_zero]; rfl))
               (focus (exact Or.inr ⟨by rfl, rfl⟩))
               (try simp only [Act.put, List.setIfInBounds_toArray, List.set_cons_zero, List.set_cons_succ])
               refine wpAnyH_take (i := 13) (oi := ?_) (v := undef) ?_ (by kernel_rfl) (by kernel_rfl) (by kernel_rfl) (fun _ _ _ h => h) ?_ (by assumption) ?_
               (rotate_left 1; focus (simp only [List.getElem?_toArray, List.getElem?_cons_succ, List.getElem?_cons_zero]; rfl))
               (focus (exact Or.inr ⟨by rfl, rfl⟩))
               (try simp only [Act.put, List.setIfInBounds_toArray, List.set_cons_zero, List.set_cons_succ])
               refine wpAnyH_take (i := 14) (oi := ?_) (v := undef) ?_ (by kernel_rfl) (by kernel_rfl) (by kernel_rfl) (fun _ _ _ h => h) ?_ (by assumption) ?_
               (rotate_left 1; focus (simp only [List.getElem?_toArray, List.getElem?_cons_succ, List.getElem?_cons_zero]; rfl))
               (focus (exact Or.inr ⟨by rfl, rfl⟩))
               (try simp only [Act.put, List.setIfInBounds_toArray, List.set_cons_zero, List.set_cons_succ])
               refine wpAnyH_take (i := 15) (oi := ?_) (v := ?_) ?_ (by kernel_rfl) (by kernel_rfl) (by kernel_rfl) (fun _ _ _ h => h) ?_ (by assumption) ?_
               (rotate_left 2; focus (simp only [List.getElem?_toArray, List.getElem?_cons_succ, List.getElem?_cons_zero]; rfl))
               (focus (refine Or.inl ⟨by rfl, ?_⟩; intro w hSw; (try dsimp only at hSw); go_simp; any_goals with_reducible rfl))
               (try simp only [Act.put, List.setIfInBounds_toArray, List.set_cons_zero, List.set_cons_succ])
               refine wpAnyH_done (by kernel_rfl) ?_ _
               refine NoPanic.normal ?_
               -- END REGION
               go_wp2_with fail
               go_ret
               exact ⟨rfl, ((HU0.out.trans hu.out).trans HU5.out).below⟩
          · have e : T.take k = T := List.take_of_length_le (by omega)
            have hr : res = 0 := by
              have := hq.out
              rw [e] at this
              rw [← HQ0.out, this]; rfl
            subst hr
            clear hq e hxr
            go_wp2_with fail
            go_ret
            exact ⟨rfl, (HU0.out.trans hu.out).below⟩

/-- search.Check's answer. -/
def seaCheck (n : Nat) (dim leaf depth : Int) (T : List (List Nd)) (v : List Int) : Int := if layCheck n dim leaf depth T ≠ 0 then layCheck n dim leaf depth T else vecCheck v dim

set_option maxHeartbeats 1000000 in
theorem search_check_calls (p n : Nat) (dim leaf depth : Int) (flat : List Int) (vT vv : Value) (T : List (List Nd)) (v : List Int) (M : List Nat) (w : World) (hi : IsItems w M p dim flat) (hd : 1 ≤ dim) (hn : (flat.length : Int) = n * dim) (h : kNd.slice.slice.At M w [vT] T) (hs : ∀ t ∈ T, TSmall t) (hv : (Kd.int .i32).slice.At M w [vv] v) :
    Calls Try.prog 14 #[.agg #[.pointer (some ⟨p, 0, none⟩), .int .i64 leaf, .int .i64 depth, vT], vv] w fun e w' => e = .returned (.int .i64 (seaCheck n dim leaf depth T v)) ∧ Below w.heap.size w w' := by
  obtain ⟨aT, cT, rfl, hlT, hcT⟩ := Kd.slice_form h
  unfold maxLen at hcT
  obtain ⟨W0, hW0⟩ : ∃ W0, w.alloc (.cells #[.pointer (some ⟨p, 0, none⟩), .int .i64 leaf, .int .i64 depth, .slice aT T.length cT] 30) = W0 := ⟨_, rfl⟩
  have hu0 : Upd [] w W0 := by rw [← hW0]; exact Upd.alloc [] w _
  have hx0 : W0.heap[w.heap.size]? = some (.cells #[.pointer (some ⟨p, 0, none⟩), .int .i64 leaf, .int .i64 depth, .slice aT T.length cT] 30) := by rw [← hW0]; exact Go.heap_alloc_new w _
  have HC := Lib.hid (layout_check_calls p n dim leaf depth flat _ T M W0 (hi.below hu0.below) hd hn (h.below hu0.below) hs)
  obtain ⟨d0, d1, d2, d3⟩ := lay_cells hx0
  have HU0 := Lib.hid hu0
  have HX0 := Lib.hid hx0
  have HDM : Hid (∀ W, Upd [] W0 W → Calls Try.prog 36 #[.pointer (some ⟨p, 0, none⟩)] W fun e w' => e = .returned (.int .i64 dim) ∧ W = w') :=
    Lib.hid (fun W hu => dim_calls W M p dim flat (hi.below (hu0.trans hu).below))
  have HV : Hid (∀ W, Upd [] W0 W → Calls Try.prog 35 #[vv, .int .i64 dim] W fun e w' => e = .returned (.int .i64 (vecCheck v dim)) ∧ W = w') :=
    Lib.hid (fun W hu => vec_check_calls vv v dim M W (hv.below (hu0.trans hu).below))
  obtain ⟨c1, hc1⟩ : ∃ c, layCheck n dim leaf depth T = c := ⟨_, rfl⟩
  have hres : seaCheck n dim leaf depth T v = if c1 ≠ 0 then c1 else vecCheck v dim := by unfold seaCheck; rw [hc1]
  rw [hres]
  rw [hc1] at HC
  obtain ⟨av, cv, rfl, _, _⟩ := Kd.slice_form hv
  clear h hs hu0 hx0 hi hn hres hc1 hv
  by_cases hz : c1 = 0
  · rw [if_neg (by simp [hz])]
    subst hz
    go_enter Try.func14, Try.ntmps14
    go_wp2_with fail
    refine HC.out.mono ?_
    rintro e w1 ⟨rfl, hb1⟩
    clear hW0 d0 d1 d2 d3
    obtain ⟨d0, d1, d2, d3⟩ := lay_cells ((hb1.block _ (block_lt HX0.out)).trans HX0.out)
    have HU1 := Lib.hid (HU0.out.trans (Upd.ofBelow hb1 []))
    have HDM1 := Lib.hid (HDM.out w1 (Upd.ofBelow hb1 []))
    have HV1 := Lib.hid (HV.out w1 (Upd.ofBelow hb1 []))
    clear hb1 HC
    go_wp2_with fail
    refine HDM1.out.mono ?_
    rintro e w2 ⟨rfl, rfl⟩
    go_wp2_with fail
    refine HV1.out.mono ?_
    rintro e w2 ⟨rfl, rfl⟩
    go_wp2_with fail
    go_ret
    exact ⟨rfl, HU1.out.below⟩
  · rw [if_pos hz]
    have hb : (c1 != 0) = true := by simpa using hz
    clear hz
    go_enter Try.func14, Try.ntmps14
    go_wp2_with fail
    refine HC.out.mono ?_
    rintro e w1 ⟨rfl, hb1⟩
    have HU1 := Lib.hid (HU0.out.trans (Upd.ofBelow hb1 []))
    clear hb1 HC
    go_wp2_with fail
    go_ret
    exact ⟨rfl, HU1.out.below⟩

set_option maxHeartbeats 1000000 in
theorem ref21_check_calls (vL vT vv : Value) (F : Fo) (v : List Int) (M : List Nat) (w : World) (h : FoAt M w vL vT F) (hs : ∀ t ∈ F.T, TSmall t) (hv : (Kd.int .i32).slice.At M w [vv] v) :
    Calls Try.prog 13 #[.agg #[.int .i64 F.dim, .int .i64 F.leaf, .int .i64 F.depth, vL, vT], vv] w fun e w' => e = .returned (.int .i64 (seaCheck F.L.length F.dim F.leaf F.depth F.T v)) ∧ Below w.heap.size w w' := by
  obtain ⟨aL, cL, rfl, hlL, hcL⟩ := Kd.slice_form h.L
  obtain ⟨aT, cT, rfl, hlT, hcT⟩ := Kd.slice_form h.T
  unfold maxLen at hcL hcT
  obtain ⟨W0, hW0⟩ : ∃ W0, w.alloc (foObj (.slice aL F.L.length cL) (.slice aT F.T.length cT) F) = W0 := ⟨_, rfl⟩
  have hu0 : Upd [] w W0 := by rw [← hW0]; exact Upd.alloc [] w _
  have hx0 : W0.heap[w.heap.size]? = some (foObj (.slice aL F.L.length cL) (.slice aT F.T.length cT) F) := by rw [← hW0]; exact Go.heap_alloc_new w _
  unfold foObj at hW0
  have HC := Lib.hid (ref16_check_calls _ _ F M W0 (h.below hu0.below) hs)
  obtain ⟨d0, d1, d2, d3, d4⟩ := fo_cells hx0
  have HU0 := Lib.hid hu0
  have HX0 := Lib.hid hx0
  have HV : Hid (∀ W, Upd [] W0 W → Calls Try.prog 21 #[vv, .int .i64 F.dim] W fun e w' => e = .returned (.int .i64 (vecCheck v F.dim)) ∧ W = w') :=
    Lib.hid (fun W hu => ref03_check_calls vv v F.dim M W (hv.below (hu0.trans hu).below))
  obtain ⟨c1, hc1⟩ : ∃ c, foCheck F = c := ⟨_, rfl⟩
  have hres : seaCheck F.L.length F.dim F.leaf F.depth F.T v = if c1 ≠ 0 then c1 else vecCheck v F.dim := by unfold seaCheck; rw [lay_same, hc1]
  rw [hres]
  rw [hc1] at HC
  obtain ⟨av, cv, rfl, _, _⟩ := Kd.slice_form hv
  clear h hs hu0 hx0 hres hc1 hv
  by_cases hz : c1 = 0
  · rw [if_neg (by simp [hz])]
    subst hz
    go_enter Try.func13, Try.ntmps13
    go_wp2_with fail
    refine HC.out.mono ?_
    rintro e w1 ⟨rfl, hb1⟩
    clear hW0 d0 d1 d2 d3 d4
    obtain ⟨d0, d1, d2, d3, d4⟩ := fo_cells ((hb1.block _ (block_lt HX0.out)).trans HX0.out)
    have HU1 := Lib.hid (HU0.out.trans (Upd.ofBelow hb1 []))
    have HV1 := Lib.hid (HV.out w1 (Upd.ofBelow hb1 []))
    clear hb1 HC
    go_wp2_with fail
    refine HV1.out.mono ?_
    rintro e w2 ⟨rfl, rfl⟩
    go_wp2_with fail
    go_ret
    exact ⟨rfl, HU1.out.below⟩
  · rw [if_pos hz]
    have hb : (c1 != 0) = true := by simpa using hz
    clear hz
    go_enter Try.func13, Try.ntmps13
    go_wp2_with fail
    refine HC.out.mono ?_
    rintro e w1 ⟨rfl, hb1⟩
    have HU1 := Lib.hid (HU0.out.trans (Upd.ofBelow hb1 []))
    clear hb1 HC
    go_wp2_with fail
    go_ret
    exact ⟨rfl, HU1.out.below⟩

end Go.Proofs.Ytiplifkbegmeiaa
