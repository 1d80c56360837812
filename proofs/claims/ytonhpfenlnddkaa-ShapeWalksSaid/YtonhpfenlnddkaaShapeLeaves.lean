/-
The law ShapeLeaves.
-/
import Derived.Test.YtonhpfenlnddkaaPureWalk
import Derived.Test.YtonhpfenlnddkaaEnds
import Derived.Test.YtonhpfenlnddkaaOpenNd
namespace Go.Proofs.Ytonhpfenlnddkaa
set_option linter.unusedVariables false
set_option linter.unusedSimpArgs false
open Go.RowKit

attribute [local go_sem] Oper.semAt_some

/-- How many ids some lists have. -/
def lensOf (xs : List (List Int)) : Int := xs.flatten.length
theorem lensOf_snoc (pre : List (List Int)) (x : List Int) : lensOf (pre ++ [x]) = lensOf pre + x.length := by simp [lensOf]
theorem lensOf_nil : lensOf [] = 0 := rfl
theorem lensOf_le {xs pre rest : List (List Int)} {x : List Int} (h : xs = pre ++ x :: rest) : 0 ≤ lensOf pre ∧ lensOf pre + x.length ≤ lensOf xs := by
  subst h
  unfold lensOf
  simp only [List.flatten_append, List.flatten_cons, List.length_append]
  omega

set_option maxHeartbeats 4000000 in
set_option maxRecDepth 100000 in
theorem shapeLeaves_calls (v : Value) (l : List Nd) (n dim : Int) (w : World) (h : kNd.slice.At [] w [v] l) (hs : ∀ x ∈ l, x.small) :
    Calls Try.prog 7 #[v, .int .i64 n, .int .i64 dim] w fun e w' => e = .returned (.bool true) ∧ Below w.heap.size w w' := by
  obtain ⟨ao, cap, rfl, hl, hcap⟩ := Kd.slice_form h
  unfold maxLen at hcap
  obtain ⟨W0, hW0⟩ : ∃ W0, w.alloc (.cells #[.bool false] 4) = W0 := ⟨_, rfl⟩
  have hrb0 : RB 4 w W0 := by rw [← hW0]; exact RB.start _ w
  have RB0 := Lib.hid hrb0
  have HA := Lib.hid (awake14_calls W0)
  have H0 := Lib.hid (h.below hrb0.below)
  have hz0 := hrb0.lt
  have HS := Lib.hid hs
  obtain ⟨fw, hfw⟩ : ∃ r, few l = r := ⟨_, rfl⟩
  have HFW := Lib.hid hfw
  clear h hs hfw hrb0
  refine calls_of_wp_marks Try.func7 rfl ?_
  simp only [Try.ntmps7, List.size_toArray, List.length_cons, List.length_nil, Nat.reduceAdd, Nat.reduceSub, Array.replicate_succ, Array.replicate_zero, List.push_toArray, List.append_toArray, List.nil_append, List.cons_append]
  go_wp2_with fail
  refine HA.out.mono ?_
  rintro e w1 ⟨rfl, hb1⟩
  have hz1 := hb1.size
  have RB1 := Lib.hid (RB0.out.call hb1)
  have H1 := Lib.hid (H0.out.below hb1)
  have HF := few_calls _ l [] w1 H1.out HS.out
  rw [HFW.out] at HF
  have HF' := Lib.hid HF
  clear hb1 HF
  go_wp2_with fail
  refine HF'.out.mono ?_
  rintro e w2 ⟨rfl, m, hw2⟩
  have RB2 : Hid (RB 4 w w2) := Lib.hid (by rw [hw2]; exact RB1.out.drew _)
  have H2 : Hid (kNd.slice.At [] w2 [.slice ao l.length cap] l) := Lib.hid (by rw [hw2]; exact H1.out.below (bdN _ _ _))
  have hz2 := RB2.out.lt
  clear hw2
  have hc2 := RB2.out.c
  have hf2 := RB2.out.f
  cases fw with
  | false =>
    go_wp2_with fail
    exact RB2.out.fin rfl Try.underlying4 rfl [] (by simp) (by simp)
  | true =>
    obtain ⟨f1, f2, f3⟩ := few_go l 0 0 HFW.out
    have hlen : l.length ≤ 401 := by rcases f1 with rfl | f1 <;> simp_all
    have hfl : (leavesOf l).flatten.length ≤ 5000 := by simp only [ite_self] at f2; omega
    have hids : ∀ x ∈ l, x.ids.length ≤ 1099511627776 := fun x hx => by have := f3 x hx; omega
    have HC1 := Lib.hid (shape_check_calls _ l n dim [] w2 H2.out hids)
    have HIDS := Lib.hid hids
    clear f1 f2 f3 hids
    generalize hrc : checkNd l n dim = rc at *
    have HRC := Lib.hid hrc
    clear hrc
    by_cases hn : 5000 < n
    · go_wp2_with fail
      exact RB2.out.fin rfl Try.underlying4 rfl [] (by simp) (by simp)
    · go_wp2_with fail
      refine HC1.out.mono ?_
      rintro e w3 ⟨rfl, hb3⟩
      have RB3 := Lib.hid (RB2.out.call hb3)
      have H3 := Lib.hid (H2.out.below hb3)
      have hc3 := RB3.out.c
      have hf3 := RB3.out.f
      clear hb3 HC1
      by_cases hrc0 : rc = 0
      · subst hrc0
        obtain ⟨x, hx, hn0, hL, hlf, hsum, hleaf1, hsplit⟩ := tree_facts HRC.out
        have hq0 : (lensOf (leavesOf l) : Int) = n := hsum
        have hq1 : lensOf (leavesOf l) ≤ 5000 := by unfold lensOf; omega
        have HCN := Lib.hid (shape_count_calls _ l [] w3 H3.out HIDS.out)
        clear hc3 hf3 hc2 hf2
        go_wp2_with fail
        refine HCN.out.mono ?_
        rintro e w4 ⟨rfl, hb4⟩
        have RB4 := Lib.hid (RB3.out.call hb4)
        have H4 := Lib.hid (H3.out.below hb4)
        clear hb4 HCN
        obtain ⟨b, o, c, vi, vn, hv, hbs, _, _, _, hnd, c0, c1, c2, c3, c4, c5⟩ := nds_at H4.out hx
        simp at hv
        obtain ⟨rfl, rfl⟩ := hv
        simp only [Nat.zero_mul, Nat.add_zero] at c0 c1 c2 c3 c4 c5
        have hpos : 0 < l.length := (List.getElem?_eq_some_iff.1 hx).1
        have hlq : (leavesOf l).length ≤ 401 := by omega
        have hneq : ((l.length : Int) != 2 * ((leavesOf l).length : Int) - 1) = false := by simp; omega
        have hone : ((l.length : Int) == 1) = x.leaf := by rw [← hlf]; rfl
        have hsz4 := RB4.out.lt
        obtain ⟨W5, hW5⟩ : ∃ W5, w4.alloc (.cells #[.int .i64 0] 3) = W5 := ⟨_, rfl⟩
        have hu5 : Upd [] w4 W5 := by rw [← hW5]; exact Upd.alloc [] w4 _
        have hr5 : W5.heap[w4.heap.size]? = some (.cells #[.int .i64 0] 3) := by rw [← hW5]; exact Go.heap_alloc_new w4 _
        have RB5 := Lib.hid (RB4.out.upd hu5 (by simp))
        have H5 := Lib.hid (H4.out.upd hu5 (by simp) (M' := [w4.heap.size]) (by simp))
        have HR5 := Lib.hid hr5
        have hrl5 := block_lt hr5
        have HL := Lib.hid (shape_leaves_calls _ l [w4.heap.size] W5 H5.out (by simpa using hrl5) HIDS.out)
        rw [← hW5] at HL
        have HW5 := Lib.hid hW5
        have HX := Lib.hid hx
        have HL' := Lib.hid hL
        have HQ0 := Lib.hid hq0
        have HLF1 := Lib.hid hleaf1
        have HSP := Lib.hid hsplit
        have HSUM := Lib.hid hsum
        clear hx hL hlf hsum hleaf1 hsplit hnd hu5 hr5 hq0 hW5
        go_wp2_with fail
        refine HL.out.mono ?_
        rw [HW5.out]
        rintro e w6 ⟨bx, rfl, hb6, hit⟩
        have hz6 := hb6.size
        have RB6 := Lib.hid (RB5.out.call hb6)
        have H6 := Lib.hid (H5.out.below hb6)
        have HR6 := Lib.hid ((hb6.block _ hrl5).trans HR5.out)
        have HIT := Lib.hid hit
        clear hb6 hit HL hneq hone c0 c1 c2 c3 c4 c5
        go_wp2_with fail
        refine wp_range (xs := leavesOf l) (val := valInts) [w4.heap.size] rfl (enters_it Try.func68 rfl rfl) (fun W hu hsz => ?_)
          (fun pre M W => M = [w4.heap.size] ∧ W.heap[w4.heap.size]? = some (.cells #[.int .i64 (lensOf pre)] 3) ∧ Upd [w4.heap.size] w6 W)
          (fun c pre M W => False) ?_ ?_ ?_ ?_ ?_ ?_ ?_ ?_ ?_
        · exact HIT.out W _ _ (hu.mono (by simp)) (by omega) (fun k hk => .inl hk)
        · rintro pre M W W' S hS ⟨rfl, a3, a5⟩ hu
          exact ⟨rfl, upd_far hu a3 (fun h => (hS _ h).2 (by simp)), a5.trans' hu (fun k hk => .inr (hS k hk).1)⟩
        · rintro c pre M W W' S hS h _
          exact h.elim
        · rintro M W W' x args ⟨v, rfl, hv⟩ hu
          exact ⟨v, rfl, hv.upd hu (by simp) (fun k hk => .inl hk)⟩
        · rintro W M x args ⟨v, rfl, hv⟩
          rfl
        · exact ⟨rfl, HR6.out, Upd.refl _ _⟩
        · simp
          omega
        · rintro l0 pre y rest M W0' W args hxs ⟨rfl, a3, a5⟩ ⟨v, rfl, hv⟩ _ hl1 hl2 hl3 hM
          obtain ⟨hle1, hle2⟩ := lensOf_le hxs
          have hsn := lensOf_snoc pre y
          obtain ⟨ay, cy, rfl, hcy1, hcy2⟩ := slice_form' hv
          have hc : W.cell? ⟨w4.heap.size, 0, none⟩ = some (.int .i64 (lensOf pre)) := by rw [cell_of_block a3]; rfl
          have hf : W.frozen? ⟨w4.heap.size, 0, none⟩ = false := frozen_of_block a3
          have A3 := Lib.hid a3
          have A5 := Lib.hid a5
          have HSN := Lib.hid hsn
          clear hxs a3 a5 hl3 hM hv hsn
          gi_wp2
          refine ⟨trivial, ?_⟩
          gi_wp2
          rw [HSN.out]
          exact ⟨Upd.setCell (by simp) _, _, (fun k hk => ⟨by simp at hk; subst hk; exact block_lt A3.out, .inl (by simpa using hk)⟩) , rfl, by simpa using heap_setCell_same W w4.heap.size 0 _ _ (.int .i64 _) A3.out, A5.out.trans (Upd.setCell (by simp) _)⟩
        · rintro M W7 ⟨rfl, a3, a5⟩ hM hK
          have hz7 := a5.size
          have RB7 := Lib.hid (RB6.out.upd a5 (by simpa using hsz4))
          have H7 := Lib.hid (H6.out.upd a5 (by simp) (M' := []) (by simp))
          have hc : W7.cell? ⟨w4.heap.size, 0, none⟩ = some (.int .i64 (lensOf (leavesOf l))) := by rw [cell_of_block a3]; rfl
          have hnn : (lensOf (leavesOf l) != n) = false := by rw [HQ0.out]; simp
          simp only [Exit.inBlock, Exit.then]
          go_at_K
          have HK := Lib.hid hK
          have HK0 := HK
          clear hK a3 a5 hM
          obtain ⟨b, o, c, vi, vn, hv, hbs, _, _, _, hnd, c0, c1, c2, c3, c4, c5⟩ := nds_at H7.out HX.out
          simp at hv
          obtain ⟨⟨rfl, rfl⟩, rfl⟩ := hv
          simp only [Nat.zero_mul, Nat.add_zero] at c0 c1 c2 c3 c4 c5
          have hc7 := RB7.out.c
          have hf7 := RB7.out.f
          clear hnd
          cases hleaf : x.leaf with
          | true =>
            rw [hleaf] at c0
            have hw0 := HLF1.out hleaf
            have HD := Lib.hid (shape_depth_calls _ l [] W7 H7.out (by omega))
            rw [hw0] at HD
            clear hw0 hleaf
            go_wp2_with fail
            refine HD.out.mono ?_
            rintro e w8 ⟨rfl, hb8⟩
            have RB8 := Lib.hid (RB7.out.call hb8)
            have hc8 := RB8.out.c
            have hf8 := RB8.out.f
            have HK8 := Lib.hid ((hb8.block _ (block_lt HK.out)).trans HK.out)
            have hm0 : mostOf [(0, 0)] = 0 := rfl
            clear hb8 HD
            go_wp2_with fail
            exact RB8.out.fin rfl Try.underlying4 rfl [(_, _)] (by simp; exact ⟨by omega, HK8.out⟩) (by simp)
          | false =>
            rw [hleaf] at c0
            obtain ⟨hx1, hx2, hx3, hdep⟩ := HSP.out hleaf
            rw [hx1] at c4
            obtain ⟨W8, hW8⟩ : ∃ W8, (W7.alloc (.cells #[.int .i64 x.right] 3)).alloc (.cells #[.int .i64 0] 3) = W8 := ⟨_, rfl⟩
            have hu8 : Upd [] W7 W8 := by rw [← hW8]; exact (Upd.alloc [] W7 _).trans (Upd.alloc [] _ _)
            have hm8 : W8.heap[W7.heap.size]? = some (.cells #[.int .i64 x.right] 3) := by rw [← hW8]; exact alloc2_fst W7 _ _
            have hd8 : W8.heap[W7.heap.size + 1]? = some (.cells #[.int .i64 0] 3) := by rw [← hW8]; exact alloc2_snd W7 _ _
            have RB8 := Lib.hid (RB7.out.upd hu8 (by simp))
            have H8 := Lib.hid (H7.out.upd hu8 (by simp) (M' := [W7.heap.size + 1]) (by simp))
            have hz8 : W8.heap.size = W7.heap.size + 2 := by rw [← hW8]; simp
            have HM8 := Lib.hid hm8
            have HD8 := Lib.hid hd8
            have HK8 := Lib.hid (upd_far hu8 HK.out (by simp))
            have HDEP := Lib.hid hdep
            have HWK := Lib.hid (shape_walk_calls _ l [W7.heap.size + 1] W8 H8.out (by simp; omega) (by omega))
            rw [← hW8] at HWK
            have HW8 := Lib.hid hW8
            clear hu8 hm8 hd8 hdep hW8 hx1 hleaf
            go_wp2_with fail
            refine HWK.out.mono ?_
            rw [HW8.out]
            rintro e w9 ⟨bw, rfl, hb9, hitw⟩
            have hz9 := hb9.size
            have RB9 := Lib.hid (RB8.out.call hb9)
            have H9 := Lib.hid (H8.out.below hb9)
            have HM9 := Lib.hid ((hb9.block _ (by omega)).trans HM8.out)
            have HD9 := Lib.hid ((hb9.block _ (by omega)).trans HD8.out)
            have HK9 := Lib.hid ((hb9.block _ (block_lt HK8.out)).trans HK8.out)
            have hk9 := block_lt HK9.out
            have hr79 := RB9.out.lt
            have hr77 := RB7.out.lt
            have HITW := Lib.hid hitw
            clear hb9 hitw HWK c0 c1 c2 c3 c4 c5 hc7 hf7 hc hnn
            go_wp2_with fail
            refine wp_range (xs := walkOf l) (val := valPair) [W7.heap.size + 1] rfl (enters_it Try.func67 rfl rfl) (fun W hu hsz => ?_)
              (fun pre M W => M = [W7.heap.size + 1] ∧ W.heap[W7.heap.size + 1]? = some (.cells #[.int .i64 (mostOf pre)] 3) ∧ Upd [W7.heap.size + 1] w9 W)
              (fun c pre M W => False) ?_ ?_ ?_ ?_ ?_ ?_ ?_ ?_ ?_
            · exact HITW.out W _ _ (hu.mono (by simp)) (by omega) (fun k hk => .inl hk)
            · rintro pre M W W' S hS ⟨rfl, a3, a5⟩ hu
              exact ⟨rfl, upd_far hu a3 (fun h => (hS _ h).2 (by simp)), a5.trans' hu (fun k hk => .inr (hS k hk).1)⟩
            · rintro c pre M W W' S hS h _
              exact h.elim
            · rintro M W W' x args hv hu
              exact hv
            · rintro W M x args hv
              rw [hv]
              rfl
            · exact ⟨rfl, HD9.out, Upd.refl _ _⟩
            · simp
              omega
            · rintro l0 pre p rest M W0' W args hxs ⟨rfl, a3, a5⟩ hv _ hl1 hl2 hl3 hM
              have hv : args = #[.int .i64 p.1, .int .i64 p.2] := hv
              subst hv
              have hpm : p ∈ walkOf l := by rw [hxs]; simp
              obtain ⟨d1, d2, d3⟩ := HDEP.out p hpm
              have hc : W.cell? ⟨W7.heap.size + 1, 0, none⟩ = some (.int .i64 (mostOf pre)) := by rw [cell_of_block a3]; rfl
              have hf : W.frozen? ⟨W7.heap.size + 1, 0, none⟩ = false := frozen_of_block a3
              have hcm : W.cell? ⟨W7.heap.size, 0, none⟩ = some (.int .i64 x.right) := by rw [cell_of_block (upd_far a5 HM9.out (by simp))]; rfl
              have hmx := mostOf_snoc pre p
              have A3 := Lib.hid a3
              have A5 := Lib.hid a5
              have HMX := Lib.hid hmx
              obtain ⟨p1, p2⟩ := p
              simp only at *
              clear hxs a3 a5 hl3 hM hmx hpm HX
              have hfin : ∀ m, m = mostOf (pre ++ [(p1, p2)]) → Upd [W7.heap.size + 1] W (W.setCell ⟨W7.heap.size + 1, 0, none⟩ (.int .i64 m)) ∧
                  ∃ x_1, (∀ k, k ∈ x_1 → k < W.heap.size ∧ (k = W7.heap.size + 1 ∨ W.heap.size ≤ k)) ∧ x_1 = [W7.heap.size + 1] ∧ (W.setCell ⟨W7.heap.size + 1, 0, none⟩ (.int .i64 m)).heap[W7.heap.size + 1]? = some (.cells #[.int .i64 (mostOf (pre ++ [(p1, p2)]))] 3) ∧
                  Upd [W7.heap.size + 1] w9 (W.setCell ⟨W7.heap.size + 1, 0, none⟩ (.int .i64 m)) := fun m hm => by
                subst hm
                exact ⟨Upd.setCell (by simp) _, _, (fun k hk => ⟨by simp at hk; subst hk; exact block_lt A3.out, .inl (by simpa using hk)⟩) , rfl, by simpa using heap_setCell_same W (W7.heap.size + 1) 0 _ _ (.int .i64 _) A3.out, A5.out.trans (Upd.setCell (by simp) _)⟩
              have HFIN := Lib.hid hfin
              clear hfin
              by_cases e0 : p2 = 0
              · have e1 := d1.1 e0
                subst e0 e1
                have e2 : ((0 : Int) == x.right) = false := by simp; omega
                clear d1 d2 d3
                gi_wp2
                refine ⟨trivial, ?_⟩
                gi_wp2
                all_goals exact HFIN.out _ (by rw [HMX.out]; omega)
              · have e1 : ¬ p1 = 0 := fun e => e0 (d1.2 e)
                have f0 : (p2 == 0) = false := by simpa using e0
                have f1 : (p1 == 0) = false := by simpa using e1
                by_cases e2 : p1 = 1
                · have e3 := d2 e2
                  subst e2 e3
                  clear d1 d2 d3 e0 e1
                  gi_wp2
                  refine ⟨trivial, ?_⟩
                  gi_wp2
                  all_goals exact HFIN.out _ (by rw [HMX.out]; omega)
                · have f2 : (p1 == 1) = false := by simpa using e2
                  by_cases e4 : p1 = x.right
                  · have e5 := d3 e4
                    have f3 : (p1 == x.right) = true := by simpa using e4
                    subst e5
                    clear d1 d2 d3 e0 e1 e2 e4
                    gi_wp2
                    refine ⟨trivial, ?_⟩
                    gi_wp2
                    all_goals exact HFIN.out _ (by rw [HMX.out]; omega)
                  · have f3 : (p1 == x.right) = false := by simpa using e4
                    clear d1 d2 d3 e0 e1 e2 e4
                    gi_wp2
                    refine ⟨trivial, ?_⟩
                    gi_wp2
                    all_goals exact HFIN.out _ (by rw [HMX.out]; omega)
            · rintro M W ⟨rfl, a3, a5⟩ hM hK
              have RBW := Lib.hid (RB9.out.upd a5 (by simp; omega))
              have HW' := Lib.hid (H9.out.upd a5 (by simp) (M' := []) (by simp))
              have HKW := Lib.hid (upd_far a5 HK9.out (by simp; omega))
              have hc : W.cell? ⟨W7.heap.size + 1, 0, none⟩ = some (.int .i64 (mostOf (walkOf l))) := by rw [cell_of_block a3]; rfl
              have hcr := RBW.out.c
              have hfr := RBW.out.f
              simp only [Exit.inBlock, Exit.then]
              go_at_K
              have HK := Lib.hid hK
              have A3 := Lib.hid a3
              have HDALL : Hid (∀ W', Upd [] W W' → Calls Try.prog 26 #[.slice (some ⟨b, o, none⟩) l.length cap] W' fun e w' => e = .returned (.int .i64 (mostOf (walkOf l))) ∧ Below W'.heap.size W' w') :=
                Lib.hid (fun W' hu => shape_depth_calls _ l [] W' (HW'.out.upd hu (by simp) (by simp)) (by omega))
              have hrw := RBW.out.lt
              have hkw := block_lt HKW.out
              clear hK a3 a5 hM
              go_wp2_with fail
              go_region_held3 (fun w' => w'.cell? ⟨W7.heap.size + 1, 0, none⟩ = some (.int .i64 (mostOf (walkOf l))))
                (first | exact hc8 | exact hc | exact ((Upd.setCell (S := [w.heap.size]) (p := ⟨w.heap.size, 0, none⟩) (by simp) _).cell (a := ⟨W7.heap.size + 1, 0, none⟩) hlt8 (by simp; omega)).trans hc8 | go_keep)
                (first
                  | (go_at_call 26
                     refine (HDALL.out _ (Upd.drewN [] W _)).mono ?_
                     rintro e w8 ⟨rfl, hb8⟩
                     have RBX := Lib.hid ((RBW.out.drew _).call hb8)
                     have HKX := Lib.hid ((hb8.block _ hkw).trans HKW.out)
                     have HK2X := Lib.hid ((hb8.block _ (block_lt HK.out)).trans HK.out)
                     have hc8 : w8.cell? ⟨W7.heap.size + 1, 0, none⟩ = some (.int .i64 (mostOf (walkOf l))) := by
                       rw [hb8.cell (p := ⟨W7.heap.size + 1, 0, none⟩) (block_lt A3.out)]; exact hc
                     have hlt8 := cell_lt hc8
                     have hcr8 := RBX.out.c
                     have hfr8 := RBX.out.f
                     clear hb8))
              go_wp2_with fail
              have hk6 := block_lt HR6.out
              have hr66 := RB6.out.lt
              have hz79 : w6.heap.size < W7.heap.size := block_lt HK0.out
              exact RBX.out.fin rfl Try.underlying4 rfl [(_, _), (_, _)] (by simp; exact ⟨⟨by omega, HK2X.out⟩, by omega, HKX.out⟩) (by simp; omega)
            · rintro c pre M W hpre h
              exact h.elim
        · rintro c pre M W hpre h
          exact h.elim
      · have hrcb : (rc != 0) = true := by simpa using hrc0
        clear hrc0
        go_wp2_with fail
        exact RB3.out.fin rfl Try.underlying4 rfl [] (by simp) (by simp)

theorem ShapeLeaves_walk (v : Value) (l : List Nd) (n dim : Int) (w : World) (h : kNd.slice.At [] w [v] l) (hs : NdsSmall l) (hn : (Lit.int .i64 n).wf = true) (hd : (Lit.int .i64 dim).wf = true) :
    Calls Try.prog 7 #[v, .int .i64 n, .int .i64 dim] w fun e w' => e = .returned (.bool true) ∧ Below w.heap.size w w' :=
  shapeLeaves_calls v l n dim w h hs.2

end Go.Proofs.Ytonhpfenlnddkaa
