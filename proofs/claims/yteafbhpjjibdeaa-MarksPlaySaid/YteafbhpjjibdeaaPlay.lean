/-
The law MarksPlay.
-/
import Derived.Test.YteafbhpjjibdeaaPlayP
import Derived.Deep.RegionHeld3
import Derived.Sort.QuietTacIn
namespace Go.Proofs.Yteafbhpjjibdeaa
set_option linter.unusedVariables false
set_option linter.unusedSimpArgs false
open Go.RowKit

attribute [local go_sem] Oper.semAt_some

set_option maxHeartbeats 8000000 in
set_option maxRecDepth 100000 in
theorem MarksPlay_walk (n : Int) (v : Value) (l : List Int) (w : World) (hnw : (Lit.int .i64 n).wf = true) (h : (Kd.int .i64).slice.At [] w [v] l) :
    Calls Try.prog 5 #[.int .i64 n, v] w fun e w' => e = .returned (.bool true) ∧ Below w.heap.size w w' := by
  obtain ⟨ao, cap, rfl, hl, hcap⟩ := Kd.slice_form h
  unfold maxLen at hcap
  have HA := Lib.hid (awake09_calls w)
  have H := Lib.hid h
  clear h hnw
  refine calls_of_wp_marks Try.func5 rfl ?_
  simp only [Try.ntmps5, List.size_toArray, List.length_cons, List.length_nil, Nat.reduceAdd, Nat.reduceSub, Array.replicate_succ, Array.replicate_zero, List.push_toArray, List.append_toArray, List.nil_append, List.cons_append]
  go_wp2_with fail
  refine HA.out.mono ?_
  rintro e w1 ⟨rfl, hb1⟩
  have HB1 := Lib.hid hb1
  have H1 := Lib.hid (H.out.below hb1)
  clear hb1 HA
  by_cases hn : 5000 < n
  · go_wp2_with fail
    exact fin_tmp HB1.out rfl rfl [] (by simp) (by simp)
  by_cases hx : 200 < l.length
  · go_wp2_with fail
    exact fin_tmp HB1.out rfl rfl [] (by simp) (by simp)
  have HN := Lib.hid (marks_new_calls n (by omega) w1)
  go_wp2_with fail
  refine HN.out.mono ?_
  rintro e w2 ⟨p, g, rfl, hb2, hs2, hp2, hg2⟩
  have hz1 := HB1.out.size
  have hz2 := hb2.size
  have hpl := block_lt hs2.hp
  have hgl : g < w2.heap.size := by obtain ⟨_, _, hg, _⟩ := hs2.hg; exact block_lt hg
  have hpg := hs2.ne
  obtain ⟨W3, hW3⟩ : ∃ W3, w2.alloc (.cells #[.int .i64 n, .slice none 0 0] 38) = W3 := ⟨_, rfl⟩
  have hu3 : Upd [] w2 W3 := by rw [← hW3]; exact Upd.alloc [] w2 _
  have hr3 : W3.heap[w2.heap.size]? = some (.cells #[.int .i64 n, .slice none 0 0] 38) := by rw [← hW3]; exact Go.heap_alloc_new w2 _
  have HIS3 := Lib.hid (hs2.upd hu3 (by simp) (by simp))
  have HIR3 : Hid (IsRef W3 [w2.heap.size, p, g] w2.heap.size n []) := Lib.hid ⟨_, hr3, Kd.slice_nil (Kd.int .i64) _ _ none 0 (by simp [maxLen])⟩
  have H3 := Lib.hid (H1.out.upd ((Upd.ofBelow hb2 []).trans hu3) (by simp) (M' := [w2.heap.size, p, g]) (by simp; omega))
  have HB3 := Lib.hid ((HB1.out.trans (hb2.mono hz1)).trans (hu3.below.mono (by omega)))
  have hz3 := hu3.size
  have hq3 := block_lt hr3
  clear hb2 hs2 hu3 hr3 HN
  go_wp2_with fail
  clear hW3
  go_loopw [7] (fun i wr => ∃ k : Nat, k ≤ l.length ∧ i = .int .i64 k ∧ Hid (IsSet wr p g n.toNat (playOf n.toNat (l.take k))) ∧ Hid (IsRef wr [w2.heap.size, p, g] w2.heap.size n (playOf n.toNat (l.take k))) ∧
    Hid ((Kd.int .i64).slice.At [w2.heap.size, p, g] wr [.slice ao l.length cap] l) ∧ Hid (Below w.heap.size w wr) ∧ W3.heap.size ≤ wr.heap.size) (fun i _ => l.length - (intOf i).toNat)
  case atStart => exact ⟨0, Nat.zero_le _, rfl, HIS3.out, HIR3.out, H3.out, HB3.out, Nat.le_refl _⟩
  case round =>
    obtain ⟨k, hk, rfl, hs, hr, hd, hb, hsz⟩ := hrel
    by_cases hlt : k < l.length
    · obtain ⟨x, hxk⟩ : ∃ x, l[k]? = some x := ⟨_, List.getElem?_eq_getElem hlt⟩
      obtain ⟨b, o, c, hv, hbs, hbN, _, _, c0, hwf⟩ := ints_at hd.out hxk
      simp at hv
      obtain ⟨rfl, rfl⟩ := hv
      have hpl' := playOf_len n.toNat l k
      have hsn := playOf_snoc n.toNat hxk
      have HSN := Lib.hid hsn
      obtain ⟨S, hS⟩ : ∃ S, playOf n.toNat (l.take k) = S := ⟨_, rfl⟩
      rw [hS] at hs hr hpl' HSN
      obtain ⟨S', hS'⟩ : ∃ S', playStep n.toNat S x = S' := ⟨_, rfl⟩
      have hS2 := hS'
      unfold playStep at hS2
      rw [hS'] at HSN
      obtain ⟨r1, hr1⟩ : ∃ r1, decide (x ∈ S) = r1 := ⟨_, rfl⟩
      obtain ⟨r2, hr2⟩ : ∃ r2, addsTo n.toNat S x = r2 := ⟨_, rfl⟩
      obtain ⟨r3, hr3⟩ : ∃ r3, decide (x ∈ S') = r3 := ⟨_, rfl⟩
      have HHAS1 : Hid (∀ W, Upd [] wr W → Calls Try.prog 19 #[.pointer (some ⟨p, 0, none⟩), .int .i64 x] W fun e w' => e = .returned (.bool r1) ∧ W = w') := Lib.hid (fun W hu => by
        have := marks_has_calls p g n.toNat S x W (hs.out.upd hu (by simp) (by simp)); rwa [hr1] at this)
      have HRHAS1 : Hid (∀ W, Upd [] wr W → Calls Try.prog 20 #[.pointer (some ⟨w2.heap.size, 0, none⟩), .int .i64 x] W fun e w' => e = .returned (.bool r1) ∧ W = w') := Lib.hid (fun W hu => by
        have := ref_set_has_calls w2.heap.size n S x _ W (hr.out.upd hu (by simp) (by simp)); rwa [hr1] at this)
      have HADD : Hid (∀ W, Upd [] wr W → Calls Try.prog 21 #[.pointer (some ⟨p, 0, none⟩), .int .i64 x] W fun e w' => e = .returned (.bool r2) ∧ Upd [p, g] wr w' ∧ IsSet w' p g n.toNat S') := Lib.hid (fun W hu => by
        have := marks_add_calls p g n.toNat S x W (hs.out.upd hu (by simp) (by simp)); rw [hS2, hr2] at this
        exact this.mono (fun e w' h => ⟨h.1, (hu.mono (by simp)).trans (h.2.1.mono (by simp)), h.2.2⟩))
      have HRADD : Hid (∀ W, Upd [p, g] wr W → Calls Try.prog 22 #[.pointer (some ⟨w2.heap.size, 0, none⟩), .int .i64 x] W fun e w' => e = .returned (.bool r2) ∧ Upd [w2.heap.size] W w' ∧ IsRef w' [w2.heap.size, p, g] w2.heap.size n S') := Lib.hid (fun W hu => by
        have := ref_set_add_calls w2.heap.size n S x _ W (hr.out.upd hu (by simp) (by simp; omega)) (by simp; have := hu.size; omega) (by simp) (by omega) hwf; rwa [hS2, hr2] at this)
      have HHAS2 : Hid (∀ W, IsSet W p g n.toNat S' → Calls Try.prog 19 #[.pointer (some ⟨p, 0, none⟩), .int .i64 x] W fun e w' => e = .returned (.bool r3) ∧ W = w') := Lib.hid (fun W hu => by
        have := marks_has_calls p g n.toNat S' x W hu; rwa [hr3] at this)
      have HRHAS2 : Hid (∀ W, IsRef W [w2.heap.size, p, g] w2.heap.size n S' → Calls Try.prog 20 #[.pointer (some ⟨w2.heap.size, 0, none⟩), .int .i64 x] W fun e w' => e = .returned (.bool r3) ∧ W = w') := Lib.hid (fun W hu => by
        have := ref_set_has_calls w2.heap.size n S' x _ W hu; rwa [hr3] at this)
      have HCELL : Hid (∀ W, Upd [w2.heap.size, p, g] wr W → W.cell? ⟨b, o + k, none⟩ = some (.int .i64 x)) := Lib.hid (fun W hu => (hu.cell (a := ⟨b, o + k, none⟩) hbs hbN).trans c0)
      have HW := Lib.hid hwf
      have hi1 : (k : Int) < (l.length : Int) := by omega
      have hi0 : (0 : Int) ≤ (k : Int) := by omega
      have hne : ((S'.length : Int) != (S'.length : Int)) = false := by simp
      clear hS2 hr1 hr2 hr3 hS hS' hxk hwf hsn
      go_wp2_with fail
      have hn1 : (r1 != r1) = false := by simp
      have hn2 : (r2 != r2) = false := by simp
      have hn3 : (r3 != r3) = false := by simp
      refine wp_region_noPanic ?_
      refine wp_region_held_drew (S := fun w' => w'.cell? ⟨b, o + k, none⟩ = some (.int .i64 x)) (by kernel_rfl) ?_ (fun hHeld => ?_)
      · (try dsimp only)
        exact HCELL.out _ (Upd.drewN _ wr _)
      refine wpAnyH_take (i := 0) (oi := ?_) (v := ?_) ?_ (by kernel_rfl) (by kernel_rfl) (by kernel_rfl) (fun _ _ _ h => h) ?_ (by assumption) ?_
      (rotate_left 2; focus (simp only [List.getElem?_toArray, List.getElem?_cons_succ, List.getElem?_cons_zero]; rfl))
      (focus (refine Or.inl ⟨by rfl, ?_⟩; intro w hSw; (try dsimp only at hSw); go_simp; any_goals with_reducible rfl))
      (try simp only [Act.put, List.setIfInBounds_toArray, List.set_cons_zero, List.set_cons_succ])
      refine wpAnyH_take (i := 1) (oi := ?_) (v := ?_) ?_ (by kernel_rfl) (by kernel_rfl) (by kernel_rfl) (fun _ _ _ h => h) ?_ (by assumption) ?_
      (rotate_left 2; focus (simp only [List.getElem?_toArray, List.getElem?_cons_succ, List.getElem?_cons_zero]; rfl))
      (focus (refine Or.inl ⟨by rfl, ?_⟩; intro w hSw; (try dsimp only at hSw); go_simp; any_goals with_reducible rfl))
      (try simp only [Act.put, List.setIfInBounds_toArray, List.set_cons_zero, List.set_cons_succ])
      refine wpAnyH_take (i := 2) (oi := ?_) (v := ?_) ?_ (by kernel_rfl) (by kernel_rfl) (by kernel_rfl) (fun _ _ _ h => h) ?_ (by assumption) ?_
      (rotate_left 2; focus (simp only [List.getElem?_toArray, List.getElem?_cons_succ, List.getElem?_cons_zero]; rfl))
      (focus (refine Or.inl ⟨by rfl, ?_⟩; intro w hSw; (try dsimp only at hSw); go_simp; any_goals with_reducible rfl))
      (try simp only [Act.put, List.setIfInBounds_toArray, List.set_cons_zero, List.set_cons_succ])
      refine wpAnyH_take (i := 3) (oi := ?_) (v := ?_) ?_ (by kernel_rfl) (by kernel_rfl) (by kernel_rfl) (fun _ _ _ h => h) ?_ (by assumption) ?_
      (rotate_left 2; focus (simp only [List.getElem?_toArray, List.getElem?_cons_succ, List.getElem?_cons_zero]; rfl))
      (focus (refine Or.inl ⟨by rfl, ?_⟩; intro w hSw; (try dsimp only at hSw); go_simp; any_goals with_reducible rfl))
      (try simp only [Act.put, List.setIfInBounds_toArray, List.set_cons_zero, List.set_cons_succ])
      refine wpAnyH_take (i := 4) (oi := ?_) (v := ?_) ?_ (by kernel_rfl) (by kernel_rfl) (by kernel_rfl) (fun _ _ _ h => h) ?_ (by assumption) ?_
      (rotate_left 2; focus (simp only [List.getElem?_toArray, List.getElem?_cons_succ, List.getElem?_cons_zero]; rfl))
      (focus (refine Or.inl ⟨by rfl, ?_⟩; intro w hSw; (try dsimp only at hSw); go_simp; any_goals with_reducible rfl))
      (try simp only [Act.put, List.setIfInBounds_toArray, List.set_cons_zero, List.set_cons_succ])
      refine wpAnyH_take (i := 6) (oi := ?_) (v := ?_) ?_ (by kernel_rfl) (by kernel_rfl) (by kernel_rfl) (fun _ _ _ h => h) ?_ (by assumption) ?_
      (rotate_left 2; focus (simp only [List.getElem?_toArray, List.getElem?_cons_succ, List.getElem?_cons_zero]; rfl))
      (focus (refine Or.inl ⟨by rfl, ?_⟩; intro w hSw; (try dsimp only at hSw); go_simp; any_goals with_reducible rfl))
      (try simp only [Act.put, List.setIfInBounds_toArray, List.set_cons_zero, List.set_cons_succ])
      refine wpAnyH_take (i := 7) (oi := ?_) (v := ?_) ?_ (by kernel_rfl) (by kernel_rfl) (by kernel_rfl) (fun _ _ _ h => h) ?_ (by assumption) ?_
      (rotate_left 2; focus (simp only [List.getElem?_toArray, List.getElem?_cons_succ, List.getElem?_cons_zero]; rfl))
      (focus (refine Or.inl ⟨by rfl, ?_⟩; intro w hSw; (try dsimp only at hSw); go_simp; any_goals with_reducible rfl))
      (try simp only [Act.put, List.setIfInBounds_toArray, List.set_cons_zero, List.set_cons_succ])
      refine wpAnyH_take (i := 8) (oi := ?_) (v := ?_) ?_ (by kernel_rfl) (by kernel_rfl) (by kernel_rfl) (fun _ _ _ h => h) ?_ (by assumption) ?_
      (rotate_left 2; focus (simp only [List.getElem?_toArray, List.getElem?_cons_succ, List.getElem?_cons_zero]; rfl))
      (focus (refine Or.inl ⟨by rfl, ?_⟩; intro w hSw; (try dsimp only at hSw); go_simp; any_goals with_reducible rfl))
      (try simp only [Act.put, List.setIfInBounds_toArray, List.set_cons_zero, List.set_cons_succ])
      refine wpAnyH_take (i := 9) (oi := ?_) (v := ?_) ?_ (by kernel_rfl) (by kernel_rfl) (by kernel_rfl) (fun _ _ _ h => h) ?_ (by assumption) ?_
      (rotate_left 2; focus (simp only [List.getElem?_toArray, List.getElem?_cons_succ, List.getElem?_cons_zero]; rfl))
      (focus (refine Or.inl ⟨by rfl, ?_⟩; intro w hSw; (try dsimp only at hSw); go_simp; any_goals with_reducible rfl))
      (try simp only [Act.put, List.setIfInBounds_toArray, List.set_cons_zero, List.set_cons_succ])
      refine wpAnyH_take (i := 10) (oi := ?_) (v := ?_) ?_ (by kernel_rfl) (by kernel_rfl) (by kernel_rfl) (fun _ _ _ h => h) ?_ (by assumption) ?_
      (rotate_left 2; focus (simp only [List.getElem?_toArray, List.getElem?_cons_succ, List.getElem?_cons_zero]; rfl))
      (focus (refine Or.inl ⟨by rfl, ?_⟩; intro w hSw; (try dsimp only at hSw); go_simp; any_goals with_reducible rfl))
      (try simp only [Act.put, List.setIfInBounds_toArray, List.set_cons_zero, List.set_cons_succ])
      refine wpAnyH_ready (rs := [5]) (by kernel_rfl) (by simp) (AllReadyH.cons (by simp only [List.getElem?_toArray, List.getElem?_cons_succ, List.getElem?_cons_zero]; rfl) (fun K hK => ?_) AllReadyH.nil)
      go_simp
      go_at_call 19
      refine (HHAS1.out _ (Upd.drewN [] wr _)).mono ?_
      rintro e wX ⟨rfl, rfl⟩
      (try go_wp2_with fail)
      refine hK.out _ _ ?_ (fun hNew => ?_)
      · (try dsimp only)
        exact HCELL.out _ (Upd.drewN _ wr _)
      clear hK K hHeld
      have hHeld := hNew
      clear hNew
      (try simp only [Act.put, List.setIfInBounds_toArray, List.set_cons_zero, List.set_cons_succ])
      refine wpAnyH_ready (rs := [11]) (by kernel_rfl) (by simp) (AllReadyH.cons (by simp only [List.getElem?_toArray, List.getElem?_cons_succ, List.getElem?_cons_zero]; rfl) (fun K hK => ?_) AllReadyH.nil)
      go_simp
      go_at_call 20
      refine (HRHAS1.out _ (Upd.drewN [] wr _)).mono ?_
      rintro e wX ⟨rfl, rfl⟩
      (try go_wp2_with fail)
      refine hK.out _ _ ?_ (fun hNew => ?_)
      · (try dsimp only)
        exact HCELL.out _ (Upd.drewN _ wr _)
      clear hK K hHeld
      have hHeld := hNew
      clear hNew
      (try simp only [Act.put, List.setIfInBounds_toArray, List.set_cons_zero, List.set_cons_succ])
      refine wpAnyH_take (i := 12) (oi := ?_) (v := ?_) ?_ (by kernel_rfl) (by kernel_rfl) (by kernel_rfl) (fun _ _ _ h => h) ?_ (by assumption) ?_
      (rotate_left 2; focus (simp only [List.getElem?_toArray, List.getElem?_cons_succ, List.getElem?_cons_zero]; rfl))
      (focus (refine Or.inl ⟨by rfl, ?_⟩; intro w hSw; (try dsimp only at hSw); go_simp; any_goals with_reducible rfl))
      (try simp only [Act.put, List.setIfInBounds_toArray, List.set_cons_zero, List.set_cons_succ])
      refine wpAnyH_take (i := 13) (oi := ?_) (v := ?_) ?_ (by kernel_rfl) (by kernel_rfl) (by kernel_rfl) (fun _ _ _ h => h) ?_ (by assumption) ?_
      (rotate_left 2; focus (simp only [List.getElem?_toArray, List.getElem?_cons_succ, List.getElem?_cons_zero]; rfl))
      (focus (refine Or.inl ⟨by rfl, ?_⟩; intro w hSw; (try dsimp only at hSw); go_simp; any_goals with_reducible rfl))
      (try simp only [Act.put, List.setIfInBounds_toArray, List.set_cons_zero, List.set_cons_succ])
      refine wpAnyH_take (i := 14) (oi := ?_) (v := ?_) ?_ (by kernel_rfl) (by kernel_rfl) (by kernel_rfl) (fun _ _ _ h => h) ?_ (by assumption) ?_
      (rotate_left 2; focus (simp only [List.getElem?_toArray, List.getElem?_cons_succ, List.getElem?_cons_zero]; rfl))
      (focus (refine Or.inl ⟨by rfl, ?_⟩; intro w hSw; (try dsimp only at hSw); go_simp; any_goals with_reducible rfl))
      (try simp only [Act.put, List.setIfInBounds_toArray, List.set_cons_zero, List.set_cons_succ])
      refine wpAnyH_take (i := 15) (oi := ?_) (v := ?_) ?_ (by kernel_rfl) (by kernel_rfl) (by kernel_rfl) (fun _ _ _ h => h) ?_ (by assumption) ?_
      (rotate_left 2; focus (simp only [List.getElem?_toArray, List.getElem?_cons_succ, List.getElem?_cons_zero]; rfl))
      (focus (refine Or.inl ⟨by rfl, ?_⟩; intro w hSw; (try dsimp only at hSw); go_simp; any_goals with_reducible rfl))
      (try simp only [Act.put, List.setIfInBounds_toArray, List.set_cons_zero, List.set_cons_succ])
      refine wpAnyH_take (i := 16) (oi := ?_) (v := ?_) ?_ (by kernel_rfl) (by kernel_rfl) (by kernel_rfl) (fun _ _ _ h => h) ?_ (by assumption) ?_
      (rotate_left 2; focus (simp only [List.getElem?_toArray, List.getElem?_cons_succ, List.getElem?_cons_zero]; rfl))
      (focus (refine Or.inl ⟨by rfl, ?_⟩; intro w hSw; (try dsimp only at hSw); go_simp; any_goals with_reducible rfl))
      (try simp only [Act.put, List.setIfInBounds_toArray, List.set_cons_zero, List.set_cons_succ])
      refine wpAnyH_take (i := 17) (oi := ?_) (v := ?_) ?_ (by kernel_rfl) (by kernel_rfl) (by kernel_rfl) (fun _ _ _ h => h) ?_ (by assumption) ?_
      (rotate_left 2; focus (simp only [List.getElem?_toArray, List.getElem?_cons_succ, List.getElem?_cons_zero]; rfl))
      (focus (refine Or.inl ⟨by rfl, ?_⟩; intro w hSw; (try dsimp only at hSw); go_simp; any_goals with_reducible rfl))
      (try simp only [Act.put, List.setIfInBounds_toArray, List.set_cons_zero, List.set_cons_succ])
      refine wpAnyH_take (i := 18) (oi := ?_) (v := ?_) ?_ (by kernel_rfl) (by kernel_rfl) (by kernel_rfl) (fun _ _ _ h => h) ?_ (by assumption) ?_
      (rotate_left 2; focus (simp only [List.getElem?_toArray, List.getElem?_cons_succ, List.getElem?_cons_zero]; rfl))
      (focus (refine Or.inl ⟨by rfl, ?_⟩; intro w hSw; (try dsimp only at hSw); go_simp; any_goals with_reducible rfl))
      (try simp only [Act.put, List.setIfInBounds_toArray, List.set_cons_zero, List.set_cons_succ])
      refine wpAnyH_take (i := 20) (oi := ?_) (v := ?_) ?_ (by kernel_rfl) (by kernel_rfl) (by kernel_rfl) (fun _ _ _ h => h) ?_ (by assumption) ?_
      (rotate_left 2; focus (simp only [List.getElem?_toArray, List.getElem?_cons_succ, List.getElem?_cons_zero]; rfl))
      (focus (refine Or.inl ⟨by rfl, ?_⟩; intro w hSw; (try dsimp only at hSw); go_simp; any_goals with_reducible rfl))
      (try simp only [Act.put, List.setIfInBounds_toArray, List.set_cons_zero, List.set_cons_succ])
      refine wpAnyH_take (i := 21) (oi := ?_) (v := ?_) ?_ (by kernel_rfl) (by kernel_rfl) (by kernel_rfl) (fun _ _ _ h => h) ?_ (by assumption) ?_
      (rotate_left 2; focus (simp only [List.getElem?_toArray, List.getElem?_cons_succ, List.getElem?_cons_zero]; rfl))
      (focus (refine Or.inl ⟨by rfl, ?_⟩; intro w hSw; (try dsimp only at hSw); go_simp; any_goals with_reducible rfl))
      (try simp only [Act.put, List.setIfInBounds_toArray, List.set_cons_zero, List.set_cons_succ])
      refine wpAnyH_take (i := 22) (oi := ?_) (v := ?_) ?_ (by kernel_rfl) (by kernel_rfl) (by kernel_rfl) (fun _ _ _ h => h) ?_ (by assumption) ?_
      (rotate_left 2; focus (simp only [List.getElem?_toArray, List.getElem?_cons_succ, List.getElem?_cons_zero]; rfl))
      (focus (refine Or.inl ⟨by rfl, ?_⟩; intro w hSw; (try dsimp only at hSw); go_simp; any_goals with_reducible rfl))
      (try simp only [Act.put, List.setIfInBounds_toArray, List.set_cons_zero, List.set_cons_succ])
      refine wpAnyH_take (i := 23) (oi := ?_) (v := ?_) ?_ (by kernel_rfl) (by kernel_rfl) (by kernel_rfl) (fun _ _ _ h => h) ?_ (by assumption) ?_
      (rotate_left 2; focus (simp only [List.getElem?_toArray, List.getElem?_cons_succ, List.getElem?_cons_zero]; rfl))
      (focus (refine Or.inl ⟨by rfl, ?_⟩; intro w hSw; (try dsimp only at hSw); go_simp; any_goals with_reducible rfl))
      (try simp only [Act.put, List.setIfInBounds_toArray, List.set_cons_zero, List.set_cons_succ])
      refine wpAnyH_take (i := 24) (oi := ?_) (v := ?_) ?_ (by kernel_rfl) (by kernel_rfl) (by kernel_rfl) (fun _ _ _ h => h) ?_ (by assumption) ?_
      (rotate_left 2; focus (simp only [List.getElem?_toArray, List.getElem?_cons_succ, List.getElem?_cons_zero]; rfl))
      (focus (refine Or.inl ⟨by rfl, ?_⟩; intro w hSw; (try dsimp only at hSw); go_simp; any_goals with_reducible rfl))
      (try simp only [Act.put, List.setIfInBounds_toArray, List.set_cons_zero, List.set_cons_succ])
      refine wpAnyH_ready (rs := [19]) (by kernel_rfl) (by simp) (AllReadyH.cons (by simp only [List.getElem?_toArray, List.getElem?_cons_succ, List.getElem?_cons_zero]; rfl) (fun K hK => ?_) AllReadyH.nil)
      go_simp
      go_at_call 21
      refine (HADD.out _ (Upd.drewN [] wr _)).mono ?_
      rintro e wA ⟨rfl, huA, hsA⟩
      have HUA := Lib.hid huA
      have HSA := Lib.hid hsA
      have cA := HCELL.out _ (huA.mono (fun k hk _ => List.mem_cons_of_mem _ hk))
      clear huA hsA
      (try go_wp2_with fail)
      refine hK.out _ _ ?_ (fun hNew => ?_)
      · (try dsimp only)
        exact cA
      clear hK K hHeld
      have hHeld := hNew
      clear hNew
      (try simp only [Act.put, List.setIfInBounds_toArray, List.set_cons_zero, List.set_cons_succ])
      refine wpAnyH_ready (rs := [25]) (by kernel_rfl) (by simp) (AllReadyH.cons (by simp only [List.getElem?_toArray, List.getElem?_cons_succ, List.getElem?_cons_zero]; rfl) (fun K hK => ?_) AllReadyH.nil)
      go_simp
      go_at_call 22
      refine (HRADD.out _ HUA.out).mono ?_
      rintro e wB ⟨rfl, huB, hrB⟩
      have HUB : Hid (Upd [w2.heap.size, p, g] wr wB) := Lib.hid ((HUA.out.mono (fun k hk _ => List.mem_cons_of_mem _ hk)).trans (huB.mono (by simp)))
      have HSB := Lib.hid (HSA.out.upd huB (by simp; omega) (by simp; omega))
      have HRB := Lib.hid hrB
      have cB := HCELL.out _ HUB.out
      obtain ⟨vB, e66, hatB⟩ := hrB.out
      obtain ⟨a6, c6, rfl, _, _⟩ := slice_form' hatB
      have d1 : wB.cell? ⟨w2.heap.size, 1, none⟩ = some (.slice a6 S'.length c6) := by rw [cell_of_block e66]; rfl
      clear huB hrB e66 hatB
      (try go_wp2_with fail)
      refine hK.out _ _ ?_ (fun hNew => ?_)
      · (try dsimp only)
        exact cB
      clear hK K hHeld
      have hHeld := hNew
      clear hNew
      (try simp only [Act.put, List.setIfInBounds_toArray, List.set_cons_zero, List.set_cons_succ])
      refine wpAnyH_take (i := 26) (oi := ?_) (v := ?_) ?_ (by kernel_rfl) (by kernel_rfl) (by kernel_rfl) (fun _ _ _ h => h) ?_ (by assumption) ?_
      (rotate_left 2; focus (simp only [List.getElem?_toArray, List.getElem?_cons_succ, List.getElem?_cons_zero]; rfl))
      (focus (refine Or.inl ⟨by rfl, ?_⟩; intro w hSw; (try dsimp only at hSw); go_simp; any_goals with_reducible rfl))
      (try simp only [Act.put, List.setIfInBounds_toArray, List.set_cons_zero, List.set_cons_succ])
      refine wpAnyH_take (i := 27) (oi := ?_) (v := ?_) ?_ (by kernel_rfl) (by kernel_rfl) (by kernel_rfl) (fun _ _ _ h => h) ?_ (by assumption) ?_
      (rotate_left 2; focus (simp only [List.getElem?_toArray, List.getElem?_cons_succ, List.getElem?_cons_zero]; rfl))
      (focus (refine Or.inl ⟨by rfl, ?_⟩; intro w hSw; (try dsimp only at hSw); go_simp; any_goals with_reducible rfl))
      (try simp only [Act.put, List.setIfInBounds_toArray, List.set_cons_zero, List.set_cons_succ])
      refine wpAnyH_take (i := 28) (oi := ?_) (v := ?_) ?_ (by kernel_rfl) (by kernel_rfl) (by kernel_rfl) (fun _ _ _ h => h) ?_ (by assumption) ?_
      (rotate_left 2; focus (simp only [List.getElem?_toArray, List.getElem?_cons_succ, List.getElem?_cons_zero]; rfl))
      (focus (refine Or.inl ⟨by rfl, ?_⟩; intro w hSw; (try dsimp only at hSw); go_simp; any_goals with_reducible rfl))
      (try simp only [Act.put, List.setIfInBounds_toArray, List.set_cons_zero, List.set_cons_succ])
      refine wpAnyH_take (i := 29) (oi := ?_) (v := ?_) ?_ (by kernel_rfl) (by kernel_rfl) (by kernel_rfl) (fun _ _ _ h => h) ?_ (by assumption) ?_
      (rotate_left 2; focus (simp only [List.getElem?_toArray, List.getElem?_cons_succ, List.getElem?_cons_zero]; rfl))
      (focus (refine Or.inl ⟨by rfl, ?_⟩; intro w hSw; (try dsimp only at hSw); go_simp; any_goals with_reducible rfl))
      (try simp only [Act.put, List.setIfInBounds_toArray, List.set_cons_zero, List.set_cons_succ])
      refine wpAnyH_take (i := 31) (oi := ?_) (v := ?_) ?_ (by kernel_rfl) (by kernel_rfl) (by kernel_rfl) (fun _ _ _ h => h) ?_ (by assumption) ?_
      (rotate_left 2; focus (simp only [List.getElem?_toArray, List.getElem?_cons_succ, List.getElem?_cons_zero]; rfl))
      (focus (refine Or.inl ⟨by rfl, ?_⟩; intro w hSw; (try dsimp only at hSw); go_simp; any_goals with_reducible rfl))
      (try simp only [Act.put, List.setIfInBounds_toArray, List.set_cons_zero, List.set_cons_succ])
      refine wpAnyH_take (i := 32) (oi := ?_) (v := ?_) ?_ (by kernel_rfl) (by kernel_rfl) (by kernel_rfl) (fun _ _ _ h => h) ?_ (by assumption) ?_
      (rotate_left 2; focus (simp only [List.getElem?_toArray, List.getElem?_cons_succ, List.getElem?_cons_zero]; rfl))
      (focus (refine Or.inl ⟨by rfl, ?_⟩; intro w hSw; (try dsimp only at hSw); go_simp; any_goals with_reducible rfl))
      (try simp only [Act.put, List.setIfInBounds_toArray, List.set_cons_zero, List.set_cons_succ])
      refine wpAnyH_take (i := 33) (oi := ?_) (v := ?_) ?_ (by kernel_rfl) (by kernel_rfl) (by kernel_rfl) (fun _ _ _ h => h) ?_ (by assumption) ?_
      (rotate_left 2; focus (simp only [List.getElem?_toArray, List.getElem?_cons_succ, List.getElem?_cons_zero]; rfl))
      (focus (refine Or.inl ⟨by rfl, ?_⟩; intro w hSw; (try dsimp only at hSw); go_simp; any_goals with_reducible rfl))
      (try simp only [Act.put, List.setIfInBounds_toArray, List.set_cons_zero, List.set_cons_succ])
      refine wpAnyH_ready (rs := [30, 34]) (by kernel_rfl) (by simp) (AllReadyH.cons (by simp only [List.getElem?_toArray, List.getElem?_cons_succ, List.getElem?_cons_zero]; rfl) (fun K hK => ?_) (AllReadyH.cons (by simp only [List.getElem?_toArray, List.getElem?_cons_succ, List.getElem?_cons_zero]; rfl) (fun K hK => ?_) AllReadyH.nil))
      ·
        go_simp
        go_at_call 23
        refine (marks_len_calls p g n.toNat S' _ HSB.out).mono ?_
        rintro e wX ⟨rfl, rfl⟩
        (try go_wp2_with fail)
        refine hK.out _ _ ?_ (fun hNew => ?_)
        · (try dsimp only)
          exact cB
        clear hK K hHeld
        have hHeld := hNew
        clear hNew
        (try simp only [Act.put, List.setIfInBounds_toArray, List.set_cons_zero, List.set_cons_succ])
        refine wpAnyH_ready (rs := [34]) (by kernel_rfl) (by simp) (AllReadyH.cons (by simp only [List.getElem?_toArray, List.getElem?_cons_succ, List.getElem?_cons_zero]; rfl) (fun K hK => ?_) AllReadyH.nil)
        go_simp
        refine hK.out _ _ ?_ (fun hNew => ?_)
        · (try dsimp only)
          exact cB
        clear hK K hHeld
        have hHeld := hNew
        clear hNew
        (try simp only [Act.put, List.setIfInBounds_toArray, List.set_cons_zero, List.set_cons_succ])
        refine wpAnyH_take (i := 35) (oi := ?_) (v := ?_) ?_ (by kernel_rfl) (by kernel_rfl) (by kernel_rfl) (fun _ _ _ h => h) ?_ (by assumption) ?_
        (rotate_left 2; focus (simp only [List.getElem?_toArray, List.getElem?_cons_succ, List.getElem?_cons_zero]; rfl))
        (focus (refine Or.inl ⟨by rfl, ?_⟩; intro w hSw; (try dsimp only at hSw); go_simp; any_goals with_reducible rfl))
        (try simp only [Act.put, List.setIfInBounds_toArray, List.set_cons_zero, List.set_cons_succ])
        refine wpAnyH_take (i := 36) (oi := ?_) (v := ?_) ?_ (by kernel_rfl) (by kernel_rfl) (by kernel_rfl) (fun _ _ _ h => h) ?_ (by assumption) ?_
        (rotate_left 2; focus (simp only [List.getElem?_toArray, List.getElem?_cons_succ, List.getElem?_cons_zero]; rfl))
        (focus (refine Or.inl ⟨by rfl, ?_⟩; intro w hSw; (try dsimp only at hSw); go_simp; any_goals with_reducible rfl))
        (try simp only [Act.put, List.setIfInBounds_toArray, List.set_cons_zero, List.set_cons_succ])
        refine wpAnyH_take (i := 37) (oi := ?_) (v := ?_) ?_ (by kernel_rfl) (by kernel_rfl) (by kernel_rfl) (fun _ _ _ h => h) ?_ (by assumption) ?_
        (rotate_left 2; focus (simp only [List.getElem?_toArray, List.getElem?_cons_succ, List.getElem?_cons_zero]; rfl))
        (focus (refine Or.inl ⟨by rfl, ?_⟩; intro w hSw; (try dsimp only at hSw); go_simp; any_goals with_reducible rfl))
        (try simp only [Act.put, List.setIfInBounds_toArray, List.set_cons_zero, List.set_cons_succ])
        refine wpAnyH_take (i := 38) (oi := ?_) (v := ?_) ?_ (by kernel_rfl) (by kernel_rfl) (by kernel_rfl) (fun _ _ _ h => h) ?_ (by assumption) ?_
        (rotate_left 2; focus (simp only [List.getElem?_toArray, List.getElem?_cons_succ, List.getElem?_cons_zero]; rfl))
        (focus (refine Or.inl ⟨by rfl, ?_⟩; intro w hSw; (try dsimp only at hSw); go_simp; any_goals with_reducible rfl))
        (try simp only [Act.put, List.setIfInBounds_toArray, List.set_cons_zero, List.set_cons_succ])
        refine wpAnyH_take (i := 39) (oi := ?_) (v := ?_) ?_ (by kernel_rfl) (by kernel_rfl) (by kernel_rfl) (fun _ _ _ h => h) ?_ (by assumption) ?_
        (rotate_left 2; focus (simp only [List.getElem?_toArray, List.getElem?_cons_succ, List.getElem?_cons_zero]; rfl))
        (focus (refine Or.inl ⟨by rfl, ?_⟩; intro w hSw; (try dsimp only at hSw); go_simp; any_goals with_reducible rfl))
        (try simp only [Act.put, List.setIfInBounds_toArray, List.set_cons_zero, List.set_cons_succ])
        refine wpAnyH_take (i := 40) (oi := ?_) (v := ?_) ?_ (by kernel_rfl) (by kernel_rfl) (by kernel_rfl) (fun _ _ _ h => h) ?_ (by assumption) ?_
        (rotate_left 2; focus (simp only [List.getElem?_toArray, List.getElem?_cons_succ, List.getElem?_cons_zero]; rfl))
        (focus (refine Or.inl ⟨by rfl, ?_⟩; intro w hSw; (try dsimp only at hSw); go_simp; any_goals with_reducible rfl))
        (try simp only [Act.put, List.setIfInBounds_toArray, List.set_cons_zero, List.set_cons_succ])
        refine wpAnyH_take (i := 41) (oi := ?_) (v := ?_) ?_ (by kernel_rfl) (by kernel_rfl) (by kernel_rfl) (fun _ _ _ h => h) ?_ (by assumption) ?_
        (rotate_left 2; focus (simp only [List.getElem?_toArray, List.getElem?_cons_succ, List.getElem?_cons_zero]; rfl))
        (focus (refine Or.inl ⟨by rfl, ?_⟩; intro w hSw; (try dsimp only at hSw); go_simp; any_goals with_reducible rfl))
        (try simp only [Act.put, List.setIfInBounds_toArray, List.set_cons_zero, List.set_cons_succ])
        refine wpAnyH_take (i := 42) (oi := ?_) (v := ?_) ?_ (by kernel_rfl) (by kernel_rfl) (by kernel_rfl) (fun _ _ _ h => h) ?_ (by assumption) ?_
        (rotate_left 2; focus (simp only [List.getElem?_toArray, List.getElem?_cons_succ, List.getElem?_cons_zero]; rfl))
        (focus (refine Or.inl ⟨by rfl, ?_⟩; intro w hSw; (try dsimp only at hSw); go_simp; any_goals with_reducible rfl))
        (try simp only [Act.put, List.setIfInBounds_toArray, List.set_cons_zero, List.set_cons_succ])
        refine wpAnyH_take (i := 43) (oi := ?_) (v := ?_) ?_ (by kernel_rfl) (by kernel_rfl) (by kernel_rfl) (fun _ _ _ h => h) ?_ (by assumption) ?_
        (rotate_left 2; focus (simp only [List.getElem?_toArray, List.getElem?_cons_succ, List.getElem?_cons_zero]; rfl))
        (focus (refine Or.inl ⟨by rfl, ?_⟩; intro w hSw; (try dsimp only at hSw); go_simp; any_goals with_reducible rfl))
        (try simp only [Act.put, List.setIfInBounds_toArray, List.set_cons_zero, List.set_cons_succ])
        refine wpAnyH_take (i := 45) (oi := ?_) (v := ?_) ?_ (by kernel_rfl) (by kernel_rfl) (by kernel_rfl) (fun _ _ _ h => h) ?_ (by assumption) ?_
        (rotate_left 2; focus (simp only [List.getElem?_toArray, List.getElem?_cons_succ, List.getElem?_cons_zero]; rfl))
        (focus (refine Or.inl ⟨by rfl, ?_⟩; intro w hSw; (try dsimp only at hSw); go_simp; any_goals with_reducible rfl))
        (try simp only [Act.put, List.setIfInBounds_toArray, List.set_cons_zero, List.set_cons_succ])
        refine wpAnyH_take (i := 46) (oi := ?_) (v := ?_) ?_ (by kernel_rfl) (by kernel_rfl) (by kernel_rfl) (fun _ _ _ h => h) ?_ (by assumption) ?_
        (rotate_left 2; focus (simp only [List.getElem?_toArray, List.getElem?_cons_succ, List.getElem?_cons_zero]; rfl))
        (focus (refine Or.inl ⟨by rfl, ?_⟩; intro w hSw; (try dsimp only at hSw); go_simp; any_goals with_reducible rfl))
        (try simp only [Act.put, List.setIfInBounds_toArray, List.set_cons_zero, List.set_cons_succ])
        refine wpAnyH_take (i := 47) (oi := ?_) (v := ?_) ?_ (by kernel_rfl) (by kernel_rfl) (by kernel_rfl) (fun _ _ _ h => h) ?_ (by assumption) ?_
        (rotate_left 2; focus (simp only [List.getElem?_toArray, List.getElem?_cons_succ, List.getElem?_cons_zero]; rfl))
        (focus (refine Or.inl ⟨by rfl, ?_⟩; intro w hSw; (try dsimp only at hSw); go_simp; any_goals with_reducible rfl))
        (try simp only [Act.put, List.setIfInBounds_toArray, List.set_cons_zero, List.set_cons_succ])
        refine wpAnyH_take (i := 48) (oi := ?_) (v := ?_) ?_ (by kernel_rfl) (by kernel_rfl) (by kernel_rfl) (fun _ _ _ h => h) ?_ (by assumption) ?_
        (rotate_left 2; focus (simp only [List.getElem?_toArray, List.getElem?_cons_succ, List.getElem?_cons_zero]; rfl))
        (focus (refine Or.inl ⟨by rfl, ?_⟩; intro w hSw; (try dsimp only at hSw); go_simp; any_goals with_reducible rfl))
        (try simp only [Act.put, List.setIfInBounds_toArray, List.set_cons_zero, List.set_cons_succ])
        refine wpAnyH_take (i := 49) (oi := ?_) (v := ?_) ?_ (by kernel_rfl) (by kernel_rfl) (by kernel_rfl) (fun _ _ _ h => h) ?_ (by assumption) ?_
        (rotate_left 2; focus (simp only [List.getElem?_toArray, List.getElem?_cons_succ, List.getElem?_cons_zero]; rfl))
        (focus (refine Or.inl ⟨by rfl, ?_⟩; intro w hSw; (try dsimp only at hSw); go_simp; any_goals with_reducible rfl))
        (try simp only [Act.put, List.setIfInBounds_toArray, List.set_cons_zero, List.set_cons_succ])
        refine wpAnyH_ready (rs := [44]) (by kernel_rfl) (by simp) (AllReadyH.cons (by simp only [List.getElem?_toArray, List.getElem?_cons_succ, List.getElem?_cons_zero]; rfl) (fun K hK => ?_) AllReadyH.nil)
        go_simp
        go_at_call 19
        refine (HHAS2.out _ HSB.out).mono ?_
        rintro e wX ⟨rfl, rfl⟩
        (try go_wp2_with fail)
        refine hK.out _ _ ?_ (fun hNew => ?_)
        · (try dsimp only)
          exact cB
        clear hK K hHeld
        have hHeld := hNew
        clear hNew
        (try simp only [Act.put, List.setIfInBounds_toArray, List.set_cons_zero, List.set_cons_succ])
        refine wpAnyH_ready (rs := [50]) (by kernel_rfl) (by simp) (AllReadyH.cons (by simp only [List.getElem?_toArray, List.getElem?_cons_succ, List.getElem?_cons_zero]; rfl) (fun K hK => ?_) AllReadyH.nil)
        go_simp
        go_at_call 20
        refine (HRHAS2.out _ HRB.out).mono ?_
        rintro e wX ⟨rfl, rfl⟩
        (try go_wp2_with fail)
        refine hK.out _ _ ?_ (fun hNew => ?_)
        · (try dsimp only)
          exact cB
        clear hK K hHeld
        have hHeld := hNew
        clear hNew
        (try simp only [Act.put, List.setIfInBounds_toArray, List.set_cons_zero, List.set_cons_succ])
        refine wpAnyH_take (i := 51) (oi := ?_) (v := ?_) ?_ (by kernel_rfl) (by kernel_rfl) (by kernel_rfl) (fun _ _ _ h => h) ?_ (by assumption) ?_
        (rotate_left 2; focus (simp only [List.getElem?_toArray, List.getElem?_cons_succ, List.getElem?_cons_zero]; rfl))
        (focus (refine Or.inl ⟨by rfl, ?_⟩; intro w hSw; (try dsimp only at hSw); go_simp; any_goals with_reducible rfl))
        (try simp only [Act.put, List.setIfInBounds_toArray, List.set_cons_zero, List.set_cons_succ])
        refine wpAnyH_take (i := 52) (oi := ?_) (v := ?_) ?_ (by kernel_rfl) (by kernel_rfl) (by kernel_rfl) (fun _ _ _ h => h) ?_ (by assumption) ?_
        (rotate_left 2; focus (simp only [List.getElem?_toArray, List.getElem?_cons_succ, List.getElem?_cons_zero]; rfl))
        (focus (refine Or.inl ⟨by rfl, ?_⟩; intro w hSw; (try dsimp only at hSw); go_simp; any_goals with_reducible rfl))
        (try simp only [Act.put, List.setIfInBounds_toArray, List.set_cons_zero, List.set_cons_succ])
        refine wpAnyH_done (by kernel_rfl) ?_ _
        refine NoPanic.normal ?_
        go_wp2_with fail
        go_roundw
        case rel => exact ⟨k + 1, by omega, by go_num, by rw [HSN.out]; exact HSB.out, by rw [HSN.out]; exact HRB.out, hd.out.upd HUB.out (fun k hk => hk) (fun k hk => .inl hk), hb.out.trans (HUB.out.belowB hb.out.size (by simp; omega)), by have := HUB.out.size; omega⟩
        case measure => simp [intOf]; omega
      ·
        go_simp
        refine hK.out _ _ ?_ (fun hNew => ?_)
        · (try dsimp only)
          exact cB
        clear hK K hHeld
        have hHeld := hNew
        clear hNew
        (try simp only [Act.put, List.setIfInBounds_toArray, List.set_cons_zero, List.set_cons_succ])
        refine wpAnyH_take (i := 35) (oi := ?_) (v := ?_) ?_ (by kernel_rfl) (by kernel_rfl) (by kernel_rfl) (fun _ _ _ h => h) ?_ (by assumption) ?_
        (rotate_left 2; focus (simp only [List.getElem?_toArray, List.getElem?_cons_succ, List.getElem?_cons_zero]; rfl))
        (focus (refine Or.inl ⟨by rfl, ?_⟩; intro w hSw; (try dsimp only at hSw); go_simp; any_goals with_reducible rfl))
        (try simp only [Act.put, List.setIfInBounds_toArray, List.set_cons_zero, List.set_cons_succ])
        refine wpAnyH_ready (rs := [30]) (by kernel_rfl) (by simp) (AllReadyH.cons (by simp only [List.getElem?_toArray, List.getElem?_cons_succ, List.getElem?_cons_zero]; rfl) (fun K hK => ?_) AllReadyH.nil)
        go_simp
        go_at_call 23
        refine (marks_len_calls p g n.toNat S' _ HSB.out).mono ?_
        rintro e wX ⟨rfl, rfl⟩
        (try go_wp2_with fail)
        refine hK.out _ _ ?_ (fun hNew => ?_)
        · (try dsimp only)
          exact cB
        clear hK K hHeld
        have hHeld := hNew
        clear hNew
        (try simp only [Act.put, List.setIfInBounds_toArray, List.set_cons_zero, List.set_cons_succ])
        refine wpAnyH_take (i := 36) (oi := ?_) (v := ?_) ?_ (by kernel_rfl) (by kernel_rfl) (by kernel_rfl) (fun _ _ _ h => h) ?_ (by assumption) ?_
        (rotate_left 2; focus (simp only [List.getElem?_toArray, List.getElem?_cons_succ, List.getElem?_cons_zero]; rfl))
        (focus (refine Or.inl ⟨by rfl, ?_⟩; intro w hSw; (try dsimp only at hSw); go_simp; any_goals with_reducible rfl))
        (try simp only [Act.put, List.setIfInBounds_toArray, List.set_cons_zero, List.set_cons_succ])
        refine wpAnyH_take (i := 37) (oi := ?_) (v := ?_) ?_ (by kernel_rfl) (by kernel_rfl) (by kernel_rfl) (fun _ _ _ h => h) ?_ (by assumption) ?_
        (rotate_left 2; focus (simp only [List.getElem?_toArray, List.getElem?_cons_succ, List.getElem?_cons_zero]; rfl))
        (focus (refine Or.inl ⟨by rfl, ?_⟩; intro w hSw; (try dsimp only at hSw); go_simp; any_goals with_reducible rfl))
        (try simp only [Act.put, List.setIfInBounds_toArray, List.set_cons_zero, List.set_cons_succ])
        refine wpAnyH_take (i := 38) (oi := ?_) (v := ?_) ?_ (by kernel_rfl) (by kernel_rfl) (by kernel_rfl) (fun _ _ _ h => h) ?_ (by assumption) ?_
        (rotate_left 2; focus (simp only [List.getElem?_toArray, List.getElem?_cons_succ, List.getElem?_cons_zero]; rfl))
        (focus (refine Or.inl ⟨by rfl, ?_⟩; intro w hSw; (try dsimp only at hSw); go_simp; any_goals with_reducible rfl))
        (try simp only [Act.put, List.setIfInBounds_toArray, List.set_cons_zero, List.set_cons_succ])
        refine wpAnyH_take (i := 39) (oi := ?_) (v := ?_) ?_ (by kernel_rfl) (by kernel_rfl) (by kernel_rfl) (fun _ _ _ h => h) ?_ (by assumption) ?_
        (rotate_left 2; focus (simp only [List.getElem?_toArray, List.getElem?_cons_succ, List.getElem?_cons_zero]; rfl))
        (focus (refine Or.inl ⟨by rfl, ?_⟩; intro w hSw; (try dsimp only at hSw); go_simp; any_goals with_reducible rfl))
        (try simp only [Act.put, List.setIfInBounds_toArray, List.set_cons_zero, List.set_cons_succ])
        refine wpAnyH_take (i := 40) (oi := ?_) (v := ?_) ?_ (by kernel_rfl) (by kernel_rfl) (by kernel_rfl) (fun _ _ _ h => h) ?_ (by assumption) ?_
        (rotate_left 2; focus (simp only [List.getElem?_toArray, List.getElem?_cons_succ, List.getElem?_cons_zero]; rfl))
        (focus (refine Or.inl ⟨by rfl, ?_⟩; intro w hSw; (try dsimp only at hSw); go_simp; any_goals with_reducible rfl))
        (try simp only [Act.put, List.setIfInBounds_toArray, List.set_cons_zero, List.set_cons_succ])
        refine wpAnyH_take (i := 41) (oi := ?_) (v := ?_) ?_ (by kernel_rfl) (by kernel_rfl) (by kernel_rfl) (fun _ _ _ h => h) ?_ (by assumption) ?_
        (rotate_left 2; focus (simp only [List.getElem?_toArray, List.getElem?_cons_succ, List.getElem?_cons_zero]; rfl))
        (focus (refine Or.inl ⟨by rfl, ?_⟩; intro w hSw; (try dsimp only at hSw); go_simp; any_goals with_reducible rfl))
        (try simp only [Act.put, List.setIfInBounds_toArray, List.set_cons_zero, List.set_cons_succ])
        refine wpAnyH_take (i := 42) (oi := ?_) (v := ?_) ?_ (by kernel_rfl) (by kernel_rfl) (by kernel_rfl) (fun _ _ _ h => h) ?_ (by assumption) ?_
        (rotate_left 2; focus (simp only [List.getElem?_toArray, List.getElem?_cons_succ, List.getElem?_cons_zero]; rfl))
        (focus (refine Or.inl ⟨by rfl, ?_⟩; intro w hSw; (try dsimp only at hSw); go_simp; any_goals with_reducible rfl))
        (try simp only [Act.put, List.setIfInBounds_toArray, List.set_cons_zero, List.set_cons_succ])
        refine wpAnyH_take (i := 43) (oi := ?_) (v := ?_) ?_ (by kernel_rfl) (by kernel_rfl) (by kernel_rfl) (fun _ _ _ h => h) ?_ (by assumption) ?_
        (rotate_left 2; focus (simp only [List.getElem?_toArray, List.getElem?_cons_succ, List.getElem?_cons_zero]; rfl))
        (focus (refine Or.inl ⟨by rfl, ?_⟩; intro w hSw; (try dsimp only at hSw); go_simp; any_goals with_reducible rfl))
        (try simp only [Act.put, List.setIfInBounds_toArray, List.set_cons_zero, List.set_cons_succ])
        refine wpAnyH_take (i := 45) (oi := ?_) (v := ?_) ?_ (by kernel_rfl) (by kernel_rfl) (by kernel_rfl) (fun _ _ _ h => h) ?_ (by assumption) ?_
        (rotate_left 2; focus (simp only [List.getElem?_toArray, List.getElem?_cons_succ, List.getElem?_cons_zero]; rfl))
        (focus (refine Or.inl ⟨by rfl, ?_⟩; intro w hSw; (try dsimp only at hSw); go_simp; any_goals with_reducible rfl))
        (try simp only [Act.put, List.setIfInBounds_toArray, List.set_cons_zero, List.set_cons_succ])
        refine wpAnyH_take (i := 46) (oi := ?_) (v := ?_) ?_ (by kernel_rfl) (by kernel_rfl) (by kernel_rfl) (fun _ _ _ h => h) ?_ (by assumption) ?_
        (rotate_left 2; focus (simp only [List.getElem?_toArray, List.getElem?_cons_succ, List.getElem?_cons_zero]; rfl))
        (focus (refine Or.inl ⟨by rfl, ?_⟩; intro w hSw; (try dsimp only at hSw); go_simp; any_goals with_reducible rfl))
        (try simp only [Act.put, List.setIfInBounds_toArray, List.set_cons_zero, List.set_cons_succ])
        refine wpAnyH_take (i := 47) (oi := ?_) (v := ?_) ?_ (by kernel_rfl) (by kernel_rfl) (by kernel_rfl) (fun _ _ _ h => h) ?_ (by assumption) ?_
        (rotate_left 2; focus (simp only [List.getElem?_toArray, List.getElem?_cons_succ, List.getElem?_cons_zero]; rfl))
        (focus (refine Or.inl ⟨by rfl, ?_⟩; intro w hSw; (try dsimp only at hSw); go_simp; any_goals with_reducible rfl))
        (try simp only [Act.put, List.setIfInBounds_toArray, List.set_cons_zero, List.set_cons_succ])
        refine wpAnyH_take (i := 48) (oi := ?_) (v := ?_) ?_ (by kernel_rfl) (by kernel_rfl) (by kernel_rfl) (fun _ _ _ h => h) ?_ (by assumption) ?_
        (rotate_left 2; focus (simp only [List.getElem?_toArray, List.getElem?_cons_succ, List.getElem?_cons_zero]; rfl))
        (focus (refine Or.inl ⟨by rfl, ?_⟩; intro w hSw; (try dsimp only at hSw); go_simp; any_goals with_reducible rfl))
        (try simp only [Act.put, List.setIfInBounds_toArray, List.set_cons_zero, List.set_cons_succ])
        refine wpAnyH_take (i := 49) (oi := ?_) (v := ?_) ?_ (by kernel_rfl) (by kernel_rfl) (by kernel_rfl) (fun _ _ _ h => h) ?_ (by assumption) ?_
        (rotate_left 2; focus (simp only [List.getElem?_toArray, List.getElem?_cons_succ, List.getElem?_cons_zero]; rfl))
        (focus (refine Or.inl ⟨by rfl, ?_⟩; intro w hSw; (try dsimp only at hSw); go_simp; any_goals with_reducible rfl))
        (try simp only [Act.put, List.setIfInBounds_toArray, List.set_cons_zero, List.set_cons_succ])
        refine wpAnyH_ready (rs := [44]) (by kernel_rfl) (by simp) (AllReadyH.cons (by simp only [List.getElem?_toArray, List.getElem?_cons_succ, List.getElem?_cons_zero]; rfl) (fun K hK => ?_) AllReadyH.nil)
        go_simp
        go_at_call 19
        refine (HHAS2.out _ HSB.out).mono ?_
        rintro e wX ⟨rfl, rfl⟩
        (try go_wp2_with fail)
        refine hK.out _ _ ?_ (fun hNew => ?_)
        · (try dsimp only)
          exact cB
        clear hK K hHeld
        have hHeld := hNew
        clear hNew
        (try simp only [Act.put, List.setIfInBounds_toArray, List.set_cons_zero, List.set_cons_succ])
        refine wpAnyH_ready (rs := [50]) (by kernel_rfl) (by simp) (AllReadyH.cons (by simp only [List.getElem?_toArray, List.getElem?_cons_succ, List.getElem?_cons_zero]; rfl) (fun K hK => ?_) AllReadyH.nil)
        go_simp
        go_at_call 20
        refine (HRHAS2.out _ HRB.out).mono ?_
        rintro e wX ⟨rfl, rfl⟩
        (try go_wp2_with fail)
        refine hK.out _ _ ?_ (fun hNew => ?_)
        · (try dsimp only)
          exact cB
        clear hK K hHeld
        have hHeld := hNew
        clear hNew
        (try simp only [Act.put, List.setIfInBounds_toArray, List.set_cons_zero, List.set_cons_succ])
        refine wpAnyH_take (i := 51) (oi := ?_) (v := ?_) ?_ (by kernel_rfl) (by kernel_rfl) (by kernel_rfl) (fun _ _ _ h => h) ?_ (by assumption) ?_
        (rotate_left 2; focus (simp only [List.getElem?_toArray, List.getElem?_cons_succ, List.getElem?_cons_zero]; rfl))
        (focus (refine Or.inl ⟨by rfl, ?_⟩; intro w hSw; (try dsimp only at hSw); go_simp; any_goals with_reducible rfl))
        (try simp only [Act.put, List.setIfInBounds_toArray, List.set_cons_zero, List.set_cons_succ])
        refine wpAnyH_take (i := 52) (oi := ?_) (v := ?_) ?_ (by kernel_rfl) (by kernel_rfl) (by kernel_rfl) (fun _ _ _ h => h) ?_ (by assumption) ?_
        (rotate_left 2; focus (simp only [List.getElem?_toArray, List.getElem?_cons_succ, List.getElem?_cons_zero]; rfl))
        (focus (refine Or.inl ⟨by rfl, ?_⟩; intro w hSw; (try dsimp only at hSw); go_simp; any_goals with_reducible rfl))
        (try simp only [Act.put, List.setIfInBounds_toArray, List.set_cons_zero, List.set_cons_succ])
        refine wpAnyH_done (by kernel_rfl) ?_ _
        refine NoPanic.normal ?_
        go_wp2_with fail
        go_roundw
        case rel => exact ⟨k + 1, by omega, by go_num, by rw [HSN.out]; exact HSB.out, by rw [HSN.out]; exact HRB.out, hd.out.upd HUB.out (fun k hk => hk) (fun k hk => .inl hk), hb.out.trans (HUB.out.belowB hb.out.size (by simp; omega)), by have := HUB.out.size; omega⟩
        case measure => simp [intOf]; omega
    · have hkl : k = l.length := by omega
      subst hkl
      rw [List.take_length] at hs hr
      obtain ⟨S, hS⟩ : ∃ S, playOf n.toNat l = S := ⟨_, rfl⟩
      rw [hS] at hs hr
      clear hS
      obtain ⟨vq, hqe, hqat⟩ := hr.out
      obtain ⟨aq, cq, rfl, hcq1, hcq2⟩ := slice_form' hqat
      unfold maxLen at hcq2
      have hSl : S.length ≤ n.toNat := nodup_len _ S hs.out.nd hs.out.le
      have hSU := setUpTo_uniq n.toNat S hs.out.le
      have hUl := uniq_len S
      have hz4 := hb.out.size
      obtain ⟨W5, hW5⟩ : ∃ W5, wr.alloc (.cells #[.slice none 0 0] 22) = W5 := ⟨_, rfl⟩
      have hu5 : Upd [] wr W5 := by rw [← hW5]; exact Upd.alloc [] wr _
      have hr5 : W5.heap[wr.heap.size]? = some (.cells #[.slice none 0 0] 22) := by rw [← hW5]; exact Go.heap_alloc_new wr _
      have HS5 := Lib.hid (hs.out.upd hu5 (by simp) (by simp))
      have HQ5 := Lib.hid (upd_far hu5 hqe (by simp))
      have HAT5 := Lib.hid (hqat.upd hu5 (by simp) (M' := [wr.heap.size]) (by simp))
      have HB5 := Lib.hid (hb.out.trans (hu5.below.mono hz4))
      have HR5 := Lib.hid hr5
      have hrl5 := block_lt hr5
      have HL := marks_all_calls p g n.toNat S [wr.heap.size] W5 HS5.out (by simp; omega) (by simp; omega) (by simpa using hrl5)
      rw [← hW5] at HL
      have HL' := Lib.hid HL
      have HW5 := Lib.hid hW5
      clear hs hr hqe hqat hu5 hr5 hW5 HL hd
      go_wp2_with fail
      refine HL'.out.mono ?_
      rw [HW5.out]
      rintro e w6 ⟨bx, rfl, hb6, hit⟩
      have hz6 := hb6.size
      have HQ6 := Lib.hid ((hb6.block _ (block_lt HQ5.out)).trans HQ5.out)
      have HAT6 := Lib.hid (HAT5.out.below hb6)
      have HB6 := Lib.hid (HB5.out.trans (hb6.mono HB5.out.size))
      have HR6 := Lib.hid ((hb6.block _ hrl5).trans HR5.out)
      have HIT := Lib.hid hit
      clear hb6 hit HL'
      go_wp2_with fail
      refine wp_range (xs := setUpTo n.toNat S) (val := valInt) [wr.heap.size] rfl (enters_it Try.func46 rfl rfl) (fun W hu hsz => ?_)
        (fun pre M W => ∃ v', M = wr.heap.size :: ob v' ∧ W.heap[wr.heap.size]? = some (.cells #[v'] 22) ∧ Row (Kd.int .i64) [] 3 w6.heap.size W v' pre ∧ Upd [wr.heap.size] w6 W)
        (fun c pre M W => False) ?_ ?_ ?_ ?_ ?_ ?_ ?_ ?_ ?_
      · exact HIT.out W _ _ (hu.mono (by simp)) (by omega) (fun k hk => .inl hk)
      · rintro pre M W W' S0 hS0 ⟨v', rfl, a3, a4, a5⟩ hu
        exact ⟨v', rfl, upd_far hu a3 (fun h => (hS0 _ h).2 (by simp)), (a4.int_any (M' := S0)).upd hu (fun k hk => hk) (fun k hk h => (hS0 k h).2 (by simp [hk])) (by simp), a5.trans' hu (fun k hk => .inr (hS0 k hk).1)⟩
      · rintro c pre M W W' S0 hS0 h _
        exact h.elim
      · rintro M W W' x args hv hu
        exact hv
      · rintro W M x args hv
        rw [hv]
        rfl
      · exact ⟨_, rfl, HR6.out, Row.nil _ _ _ _ _, Upd.refl _ _⟩
      · simp
        omega
      · rintro l0 pre y rest M W0' W args hxs ⟨v', rfl, a3, a4, a5⟩ hv _ hl1 hl2 hl3 hM
        have hv : args = #[.int .i64 y] := hv
        subst hv
        have hym := (setUpTo_mem n.toNat S y).1 (by rw [hxs]; simp)
        have hyw : (Lit.int .i64 y).wf = true := i64_wf (by omega) (by omega)
        have hpre : pre.length < S.length := by
          have : (setUpTo n.toNat S).length ≤ S.length := by rw [hSU]; exact hUl
          rw [hxs] at this; simp at this; omega
        obtain ⟨i0, hi, hy0, hy1, hy2⟩ := info_parts A.infoInt
        obtain ⟨av, cv, rfl, hcv1, hcv2⟩ := row_form a4
        have hzW := a5.size
        have hob := a4.ob_lt
        obtain ⟨W1, hW1⟩ : ∃ W1, W.alloc (.cells #[.int .i64 y] 3) = W1 := ⟨_, rfl⟩
        have hu1 : Upd [] W W1 := by rw [← hW1]; exact Upd.alloc [] W _
        have hone : W1.heap[W.heap.size]? = some (.cells #[.int .i64 y] 3) := by rw [← hW1]; exact Go.heap_alloc_new W _
        have hz1' : W1.heap.size = W.heap.size + 1 := by rw [← hW1]; simp
        obtain ⟨v2, W2, hrun, hr2, hu2, hob2⟩ := (a4.upd hu1 (by simp) (by simp) (M' := []) (by simp)).appendAt (P := Try.prog) (t := 22) (ty := 22) (u := .slice (some ⟨W.heap.size, 0, none⟩) 1 1) (l2 := [y]) Try.underlying22 hi hy0 hy1 hy2 rfl (by decide)
          (one_at hone (fun hm => by
            rw [List.append_nil] at hm
            have := (hob _ hm).2
            omega) hyw)
          (by simp [maxLen]; omega) (by simp; omega) (by omega)
        obtain ⟨a2, c2, rfl, _, _⟩ := row_form hr2
        have hl3' : (pre ++ [y]).length = pre.length + 1 := by simp
        rw [hl3'] at hrun hr2 hob2
        have hzo : wr.heap.size ∉ ob (.slice av pre.length cv) := fun h => by have := (hob _ h).1; omega
        have e2 : W2.heap[wr.heap.size]? = some (.cells #[.slice av pre.length cv] 22) := upd_far hu2 (upd_far hu1 a3 (by simp)) hzo
        have hc : W.cell? ⟨wr.heap.size, 0, none⟩ = some (.slice av pre.length cv) := by rw [cell_of_block a3]; rfl
        have hc2 : W2.cell? ⟨wr.heap.size, 0, none⟩ = some (.slice av pre.length cv) := by rw [cell_of_block e2]; rfl
        have hf2 : W2.frozen? ⟨wr.heap.size, 0, none⟩ = false := frozen_of_block e2
        have h3 := heap_setCell_same W2 wr.heap.size 0 _ _ (.slice a2 (pre.length + 1) c2) e2
        have hu3 : Upd [wr.heap.size] W2 (W2.setCell ⟨wr.heap.size, 0, none⟩ (.slice a2 (pre.length + 1) c2)) := Upd.setCell (by simp) _
        have hob3 := hr2.ob_lt
        have hu12 : Upd (ob (.slice av pre.length cv)) W W2 := (hu1.mono (by simp)).trans hu2
        have hfin : Upd (wr.heap.size :: ob (.slice av pre.length cv)) W (W2.setCell ⟨wr.heap.size, 0, none⟩ (.slice a2 (pre.length + 1) c2)) ∧ ∃ M', (∀ k, k ∈ M' → k < (W2.setCell ⟨wr.heap.size, 0, none⟩ (.slice a2 (pre.length + 1) c2)).heap.size ∧ (k ∈ wr.heap.size :: ob (.slice av pre.length cv) ∨ W.heap.size ≤ k)) ∧
            ∃ v', M' = wr.heap.size :: ob v' ∧ (W2.setCell ⟨wr.heap.size, 0, none⟩ (.slice a2 (pre.length + 1) c2)).heap[wr.heap.size]? = some (.cells #[v'] 22) ∧ Row (Kd.int .i64) [] 3 w6.heap.size (W2.setCell ⟨wr.heap.size, 0, none⟩ (.slice a2 (pre.length + 1) c2)) v' (pre ++ [y]) ∧ Upd [wr.heap.size] w6 (W2.setCell ⟨wr.heap.size, 0, none⟩ (.slice a2 (pre.length + 1) c2)) := by
          refine ⟨(hu12.mono (fun k hk _ => List.mem_cons_of_mem _ hk)).trans (hu3.mono (by simp)), _, ?_, .slice a2 (pre.length + 1) c2, rfl, by simpa using h3, ?_, ?_⟩
          · intro k hk
            have hsz2 := hu12.size
            rcases List.mem_cons.1 hk with rfl | hk
            · exact ⟨by have := block_lt h3; exact this, .inl (by simp)⟩
            · have h1 := hob3 k hk
              refine ⟨by have := hu3.size; omega, ?_⟩
              rcases hob2 with h | h
              · rw [h] at hk; exact .inl (List.mem_cons_of_mem _ hk)
              · rw [h] at hk; simp at hk; exact .inr (by omega)
          · exact (hr2.int_any (M' := [wr.heap.size])).upd hu3 (fun k hk => hk) (fun k hk h => by have := (hob3 k hk).1; simp at h; omega) (by simp)
          · exact (a5.trans' hu12 (fun k hk => .inr (hob k hk).1)).trans hu3
        have HFIN := Lib.hid hfin
        have HRUN := Lib.hid hrun
        clear hxs a3 a4 a5 hl3 hM hym hyw hob hu1 hone hrun hr2 hu2 hob2 hl3' hzo e2 h3 hu3 hob3 hu12 hfin hi hy0 hy1 hy2 hz1'
        gi_wp2
        refine ⟨trivial, ?_⟩
        gi_wp2_with (gi_at_builtin; refine append_stepIn rfl _ _ _ rfl rfl rfl HRUN.out ?_)
        obtain ⟨f1, M', f2, f3⟩ := HFIN.out
        exact ⟨f1, M', fun k hk => by have := f2 k hk; simpa using this, f3⟩
      · rintro M W7 ⟨v', rfl, a3, a4, a5⟩ hM hK
        simp only [Exit.inBlock, Exit.then]
        go_at_K
        rw [hSU] at a4
        obtain ⟨av, cv, rfl, hcv1, hcv2⟩ := row_form a4
        unfold maxLen at hcv2
        have hob := a4.ob_lt
        have hz7 := a5.size
        have HB7 := Lib.hid (HB6.out.trans (a5.belowB HB6.out.size (by simp; omega)))
        have HAT7 := Lib.hid (HAT6.out.upd a5 (fun k hk => hk) (M' := []) (by simp))
        have hc := upd_far a5 HQ6.out (by simp; omega)
        have c0 : W7.cell? ⟨wr.heap.size, 0, none⟩ = some (.slice av (uniq S).length cv) := by rw [cell_of_block a3]; rfl
        have c1 : W7.cell? ⟨w2.heap.size, 1, none⟩ = some (.slice aq S.length cq) := by rw [cell_of_block hc]; rfl
        have HK7 := Lib.hid hK
        have HROW := Lib.hid a4
        have HU : Hid (∀ W, Upd [] W7 W → Calls Try.prog 14 #[.slice aq S.length cq] W fun e w' => ∃ v', e = .returned v' ∧ Below W.heap.size W w' ∧ (Kd.int .i64).slice.At [] w' [v'] (uniq S)) := Lib.hid (fun W hu => by
          refine (ref_unique_calls _ S [] W (HAT7.out.upd hu (by simp) (by simp)) (by omega)).mono ?_
          rintro e w' ⟨v', rfl, h1, h2⟩
          exact ⟨v', rfl, h1, h2.read (by simp)⟩)
        have HSM : Hid (∀ v W, (Kd.int .i64).slice.At [] W [.slice av (uniq S).length cv] (uniq S) → (Kd.int .i64).slice.At [] W [v] (uniq S) → Calls Try.prog 13 #[.slice av (uniq S).length cv, v] W fun e w' => e = .returned (.bool true) ∧ Below W.heap.size W w') := Lib.hid (fun v W h1 h2 => by
          have := ref09_same_calls _ _ (uniq S) (uniq S) [] W h1 h2
          rw [beq_self_eq_true] at this
          refine this.mono ?_
          rintro e w' ⟨rfl, nn, rfl⟩
          exact ⟨rfl, bdN _ _ _⟩)
        have hl0 := cell_lt c0
        have hl1 := cell_lt c1
        clear a3 a4 a5 hM hK hob hc
        go_wp2_with fail
        go_region_held3 (fun w' => w'.cell? ⟨wr.heap.size, 0, none⟩ = some (.slice av (uniq S).length cv) ∧ w'.cell? ⟨w2.heap.size, 1, none⟩ = some (.slice aq S.length cq))
          (first | exact ⟨m0, m1⟩ | exact ⟨k0, k1⟩ | exact ⟨c0, c1⟩ | go_keep)
          (first
            | (go_at_call 14
               refine (HU.out _ (Upd.drewN [] W7 _)).mono ?_
               rintro e w8 ⟨v8, rfl, hb8, hat8⟩
               have HB8 : Hid (Below w.heap.size w w8) := Lib.hid (HB7.out.trans ((bdN _ W7 _).trans (hb8.mono HB7.out.size)))
               have HK8 : Hid (w8.heap[w6.heap.size]? = some (.deferred (some []))) := Lib.hid ((hb8.block _ (block_lt HK7.out)).trans HK7.out)
               have k0 : w8.cell? ⟨wr.heap.size, 0, none⟩ = some (.slice av (uniq S).length cv) := (hb8.cell (p := ⟨wr.heap.size, 0, none⟩) hl0).trans c0
               have k1 : w8.cell? ⟨w2.heap.size, 1, none⟩ = some (.slice aq S.length cq) := (hb8.cell (p := ⟨w2.heap.size, 1, none⟩) hl1).trans c1
               have HAT8 := Lib.hid hat8
               have HROW8 := Lib.hid (((HROW.out.read (by simp)).upd (Upd.drewN [] W7 _) (by simp) (M' := []) (by simp)).below hb8)
               clear hb8 hat8)
            | (go_at_call 13
               refine (HSM.out _ _ HROW8.out HAT8.out).mono ?_
               rintro e w9 ⟨rfl, hb9⟩
               have HB9 := Lib.hid (HB8.out.trans (hb9.mono HB8.out.size))
               have HK9 := Lib.hid ((hb9.block _ (block_lt HK8.out)).trans HK8.out)
               have m0 := (hb9.cell (p := ⟨wr.heap.size, 0, none⟩) (cell_lt k0)).trans k0
               have m1 := (hb9.cell (p := ⟨w2.heap.size, 1, none⟩) (cell_lt k1)).trans k1
               clear hb9))
        go_wp2_with fail
        exact fin_tmp HB9.out rfl rfl [(_, _)] (by simp; exact ⟨by have := HB6.out.size; omega, HK9.out⟩) (by simp)
      · rintro c pre M W hpre h
        exact h.elim

end Go.Proofs.Yteafbhpjjibdeaa
