/-
topk's selector: whose turn is first, New, Len, Offer.
-/
import Derived.Test.YtglghgjbnoldaaaSelP
namespace Go.Proofs.Ytglghgjbnoldaaa.E3
set_option linter.unusedVariables false
set_option linter.unusedSimpArgs false
open Go.RowKit Go.Proofs.Ytglghgjbnoldaaa

abbrev NEAR : Value := .func (.func 29) #[] #[]

set_option maxHeartbeats 1000000 in
theorem ahead_calls (sp : Nat) (c1 c2 c3 : Value) (a b : Tk) (w : World) (hs : w.heap[sp]? = some (.cells #[.func (.func 29) #[] #[], c1, c2, c3] 105)) :
    Calls Try.prog 67 #[.pointer (some ⟨sp, 0, none⟩), .agg #[.int .i64 a.id, .int .i64 a.far, .int .i64 a.at_], .agg #[.int .i64 b.id, .int .i64 b.far, .int .i64 b.at_]] w fun e w' => e = .returned (.bool (ahd a b)) ∧ Below w.heap.size w w' := by
  obtain ⟨W0, hW0⟩ : ∃ W0, (w.alloc (.cells #[.int .i64 a.id, .int .i64 a.far, .int .i64 a.at_] 108)).alloc (.cells #[.int .i64 b.id, .int .i64 b.far, .int .i64 b.at_] 108) = W0 := ⟨_, rfl⟩
  have hb0 : Below w.heap.size w W0 := by rw [← hW0]; exact ((Below.refl w.heap.size w).alloc (Nat.le_refl _) _).alloc (by simp) _
  have hx0 : W0.heap[w.heap.size]? = some (.cells #[.int .i64 a.id, .int .i64 a.far, .int .i64 a.at_] 108) := by rw [← hW0]; exact alloc2_fst w _ _
  have hy0 : W0.heap[w.heap.size + 1]? = some (.cells #[.int .i64 b.id, .int .i64 b.far, .int .i64 b.at_] 108) := by rw [← hW0]; exact alloc2_snd w _ _
  have hs0 := (hb0.block sp (block_lt hs)).trans hs
  have HB0 := Lib.hid hb0
  have FC : Hid (∀ W, Upd [] W0 W → W.cell? ⟨sp, 0, none⟩ = some (.func (.func 29) #[] #[]) ∧ W.cell? ⟨w.heap.size, 0, none⟩ = some (.int .i64 a.id) ∧ W.cell? ⟨w.heap.size, 1, none⟩ = some (.int .i64 a.far) ∧ W.cell? ⟨w.heap.size, 2, none⟩ = some (.int .i64 a.at_) ∧
      W.cell? ⟨w.heap.size + 1, 0, none⟩ = some (.int .i64 b.id) ∧ W.cell? ⟨w.heap.size + 1, 1, none⟩ = some (.int .i64 b.far) ∧ W.cell? ⟨w.heap.size + 1, 2, none⟩ = some (.int .i64 b.at_)) := Lib.hid (fun W hu => by
    have h1 := upd_far hu hs0 (by simp)
    have h2 := upd_far hu hx0 (by simp)
    have h3 := upd_far hu hy0 (by simp)
    refine ⟨?_, ?_, ?_, ?_, ?_, ?_, ?_⟩ <;> first | (rw [cell_of_block h1]; rfl) | (rw [cell_of_block h2]; rfl) | (rw [cell_of_block h3]; rfl))
  obtain ⟨s0, a0, a1, a2, b0, b1, b2⟩ := FC.out W0 (Upd.refl _ _)
  have HN1 := Lib.hid (fun W => order_nearer_calls (rs a) (rs b) W)
  have HN2 := Lib.hid (fun W => order_nearer_calls (rs b) (rs a) W)
  have hr : ahd a b = (nearer (rs a) (rs b) || (!nearer (rs b) (rs a) && decide (a.at_ < b.at_))) := rfl
  obtain ⟨q1, hq1⟩ : ∃ r, nearer (rs a) (rs b) = r := ⟨_, rfl⟩
  obtain ⟨q2, hq2⟩ : ∃ r, nearer (rs b) (rs a) = r := ⟨_, rfl⟩
  rw [hq1] at HN1
  rw [hq2] at HN2
  rw [hr, hq1, hq2]
  simp only [rs] at HN1 HN2
  have hlt := block_lt hy0
  have hls := block_lt hs0
  clear hb0 hx0 hy0 hs0 hs hq1 hq2 hr
  go_enter Try.func67, Try.ntmps67
  go_wp2_with fail
  go_region_held3 (fun w' => w'.cell? ⟨sp, 0, none⟩ = some (.func (.func 29) #[] #[]) ∧ w'.cell? ⟨w.heap.size, 0, none⟩ = some (.int .i64 a.id) ∧ w'.cell? ⟨w.heap.size, 1, none⟩ = some (.int .i64 a.far) ∧ w'.cell? ⟨w.heap.size + 1, 0, none⟩ = some (.int .i64 b.id) ∧ w'.cell? ⟨w.heap.size + 1, 1, none⟩ = some (.int .i64 b.far))
    (first | exact ⟨n0, n1, n2, n4, n5⟩ | exact ⟨s0, a0, a1, b0, b1⟩ | go_keep)
    (first
      | (go_at_call 29
         refine (HN1.out _).mono ?_
         rintro e w2 ⟨rfl, hb2⟩
         have hu2 : Upd [] W0 w2 := (Upd.drewN [] W0 1).trans (Upd.ofBelow hb2 [])
         obtain ⟨n0, n1, n2, n3, n4, n5, n6⟩ := FC.out w2 hu2
         have HU2 := Lib.hid hu2
         clear hb2 hu2))
  clear s0 a0 a1 a2 b0 b1 b2 HN1
  cases q1 with
  | true =>
    go_wp2_with fail
    go_ret
    exact ⟨by simp, HB0.out.trans (HU2.out.below.mono HB0.out.size)⟩
  | false =>
    go_wp2_with fail
    go_region_held3 (fun w' => w'.cell? ⟨sp, 0, none⟩ = some (.func (.func 29) #[] #[]) ∧ w'.cell? ⟨w.heap.size, 0, none⟩ = some (.int .i64 a.id) ∧ w'.cell? ⟨w.heap.size, 1, none⟩ = some (.int .i64 a.far) ∧ w'.cell? ⟨w.heap.size + 1, 0, none⟩ = some (.int .i64 b.id) ∧ w'.cell? ⟨w.heap.size + 1, 1, none⟩ = some (.int .i64 b.far))
      (first | exact ⟨m0, m1, m2, m4, m5⟩ | exact ⟨n0, n1, n2, n4, n5⟩ | go_keep)
      (first
        | (go_at_call 29
           refine (HN2.out _).mono ?_
           rintro e w3 ⟨rfl, hb3⟩
           have hu3 : Upd [] W0 w3 := HU2.out.trans ((Upd.drewN [] w2 1).trans (Upd.ofBelow hb3 []))
           obtain ⟨m0, m1, m2, m3, m4, m5, m6⟩ := FC.out w3 hu3
           have HU3 := Lib.hid hu3
           clear hb3 hu3))
    clear n0 n1 n2 n3 n4 n5 n6 HN2
    cases q2 with
    | true =>
      go_wp2_with fail
      go_ret
      exact ⟨by simp, HB0.out.trans (HU3.out.below.mono HB0.out.size)⟩
    | false =>
      go_wp2_with fail
      go_ret
      exact ⟨by simp, HB0.out.trans (HU3.out.below.mono HB0.out.size)⟩

/-- The heap's order, as the heap asks it. -/
theorem first_top (sp sb : Nat) (c1 c2 c3 : Value) (t : TypeId) (M : List Nat) (w : World) (hs : w.heap[sp]? = some (.cells #[.func (.func 29) #[] #[], c1, c2, c3] 105)) (hb : w.heap[sb]? = some (.cells #[.pointer (some ⟨sp, 0, none⟩)] t))
    (hM : sp ∉ M ∧ sb ∉ M) : FirstOk 66 #[.pointer (some ⟨sb, 0, none⟩)] top M w := by
  intro W a b hu ha hb1
  have hs := upd_far hu hs hM.1
  have hb := upd_far hu hb hM.2
  have hHb := upd_far (S := []) ((Upd.alloc [] W (.cells #[.int .i64 a.id, .int .i64 a.far, .int .i64 a.at_] 108)).trans (Upd.alloc [] _ (.cells #[.int .i64 b.id, .int .i64 b.far, .int .i64 b.at_] 108))) hb (by simp)
  have hHs := upd_far (S := []) ((Upd.alloc [] W (.cells #[.int .i64 a.id, .int .i64 a.far, .int .i64 a.at_] 108)).trans (Upd.alloc [] _ (.cells #[.int .i64 b.id, .int .i64 b.far, .int .i64 b.at_] 108))) hs (by simp)
  obtain ⟨W0, hW0⟩ : ∃ W0, (W.alloc (.cells #[.int .i64 a.id, .int .i64 a.far, .int .i64 a.at_] 108)).alloc (.cells #[.int .i64 b.id, .int .i64 b.far, .int .i64 b.at_] 108) = W0 := ⟨_, rfl⟩
  rw [hW0] at hHb hHs
  have hb0 : Below W.heap.size W W0 := by rw [← hW0]; exact ((Below.refl W.heap.size W).alloc (Nat.le_refl _) _).alloc (by simp) _
  have hx0 : W0.heap[W.heap.size]? = some (.cells #[.int .i64 a.id, .int .i64 a.far, .int .i64 a.at_] 108) := by rw [← hW0]; exact alloc2_fst W _ _
  have hy0 : W0.heap[W.heap.size + 1]? = some (.cells #[.int .i64 b.id, .int .i64 b.far, .int .i64 b.at_] 108) := by rw [← hW0]; exact alloc2_snd W _ _
  have HB0 := Lib.hid hb0
  have a0 : W0.cell? ⟨W.heap.size, 0, none⟩ = some (.int .i64 a.id) := by rw [cell_of_block hx0]; rfl
  have a1 : W0.cell? ⟨W.heap.size, 1, none⟩ = some (.int .i64 a.far) := by rw [cell_of_block hx0]; rfl
  have a2 : W0.cell? ⟨W.heap.size, 2, none⟩ = some (.int .i64 a.at_) := by rw [cell_of_block hx0]; rfl
  have b0 : W0.cell? ⟨W.heap.size + 1, 0, none⟩ = some (.int .i64 b.id) := by rw [cell_of_block hy0]; rfl
  have b1 : W0.cell? ⟨W.heap.size + 1, 1, none⟩ = some (.int .i64 b.far) := by rw [cell_of_block hy0]; rfl
  have b2 : W0.cell? ⟨W.heap.size + 1, 2, none⟩ = some (.int .i64 b.at_) := by rw [cell_of_block hy0]; rfl
  have s0 : W0.cell? ⟨sb, 0, none⟩ = some (.pointer (some ⟨sp, 0, none⟩)) := by rw [cell_of_block hHb]; rfl
  have HC := Lib.hid (ahead_calls sp c1 c2 c3 b a W0 hHs)
  clear hb0 hx0 hy0 ha hb1 hHb hHs hb hs
  unfold tkV
  simp only [List.append_toArray, List.cons_append, List.nil_append]
  go_enter Try.func66, Try.ntmps66
  go_wp2_with fail
  refine HC.out.mono ?_
  rintro e w1 ⟨rfl, hb1⟩
  have HB1 := Lib.hid (HB0.out.trans (hb1.mono HB0.out.size))
  clear hb1 HC
  go_wp2_with fail
  go_ret
  exact ⟨rfl, HB1.out⟩

theorem IsHeap.base {w : World} {B B' h : Nat} {fv v : Value} {l : List Tk} (H : IsHeap w B h fv v l) (hB : B' ≤ B) : IsHeap w B' h fv v l := ⟨H.hd, H.row.base hB, H.ne, Nat.le_trans hB H.le⟩

/-- A selector: what it holds beside its heap. -/
structure IsSel (w : World) (B sp sb h : Nat) (most : Int) (n : Nat) (v : Value) (l : List Tk) : Prop where
  hs : w.heap[sp]? = some (.cells #[.func (.func 29) #[] #[], .int .i64 most, .pointer (some ⟨h, 0, none⟩), .int .i64 (n : Int)] 105)
  hb : w.heap[sb]? = some (.cells #[.pointer (some ⟨sp, 0, none⟩)] 78)
  hh : IsHeap w B h (.func (.func 66) #[] #[.pointer (some ⟨sb, 0, none⟩)]) v l
  good : Good top tk0 l
  n1 : sp ≠ sb
  n2 : sp ≠ h
  n3 : sb ≠ h
  n4 : sp ∉ ob v
  n5 : sb ∉ ob v
  Bs : B ≤ sp
  Bb : B ≤ sb
  Bw : B ≤ w.heap.size

theorem IsSel.first {w : World} {B sp sb h : Nat} {most : Int} {n : Nat} {v : Value} {l : List Tk} (S : IsSel w B sp sb h most n v l) : FirstOk 66 #[.pointer (some ⟨sb, 0, none⟩)] top (h :: ob v) w :=
  first_top sp sb _ _ _ _ _ w S.hs S.hb ⟨by simp [S.n2, S.n4], by simp [S.n3, S.n5]⟩
theorem IsSel.upd {w w' : World} {B sp sb h : Nat} {most : Int} {n : Nat} {v : Value} {l : List Tk} (S : IsSel w B sp sb h most n v l) {T : List Nat} (hu : Upd T w w') (h1 : sp ∉ T) (h2 : sb ∉ T) (h3 : h ∉ T) (h4 : ∀ k, k ∈ ob v → k ∉ T) : IsSel w' B sp sb h most n v l :=
  ⟨upd_far hu S.hs h1, upd_far hu S.hb h2, S.hh.upd hu h3 h4, S.good, S.n1, S.n2, S.n3, S.n4, S.n5, S.Bs, S.Bb, Nat.le_trans S.Bw hu.size⟩

set_option maxHeartbeats 1000000 in
theorem sel_new_calls (most : Int) (w : World) :
    Calls Try.prog 43 #[.func (.func 29) #[] #[], .int .i64 most] w fun e w' => ∃ sp sb h, e = .returned (.pointer (some ⟨sp, 0, none⟩)) ∧ IsSel w' w.heap.size sp sb h most 0 (.slice none 0 0) [] ∧ Below w.heap.size w w' := by
  obtain ⟨W1, hW1⟩ : ∃ W1, w.alloc (.cells #[.func (.func 29) #[] #[], .int .i64 most, .pointer none, .int .i64 0] 105) = W1 := ⟨_, rfl⟩
  obtain ⟨W2, hW2⟩ : ∃ W2, W1.alloc (.cells #[.pointer (some ⟨w.heap.size, 0, none⟩)] 78) = W2 := ⟨_, rfl⟩
  have u1 : Upd [] w W1 := by rw [← hW1]; exact Upd.alloc [] w _
  have u2 : Upd [] W1 W2 := by rw [← hW2]; exact Upd.alloc [] W1 _
  have hs1 : W1.heap[w.heap.size]? = some (.cells #[.func (.func 29) #[] #[], .int .i64 most, .pointer none, .int .i64 0] 105) := by rw [← hW1]; exact Go.heap_alloc_new w _
  have HS := Lib.hid (upd_far u2 hs1 (by simp))
  have HB : Hid (W2.heap[W1.heap.size]? = some (.cells #[.pointer (some ⟨w.heap.size, 0, none⟩)] 78)) := Lib.hid (by rw [← hW2]; exact Go.heap_alloc_new W1 _)
  have hz1 : W1.heap.size = w.heap.size + 1 := by rw [← hW1]; simp
  have HZ1 := Lib.hid hz1
  have HNE : Hid (w.heap.size ≠ W1.heap.size) := Lib.hid (by omega)
  have HU := Lib.hid (u1.trans u2)
  have b0 : W2.cell? ⟨W1.heap.size, 0, none⟩ = some (.pointer (some ⟨w.heap.size, 0, none⟩)) := by rw [cell_of_block HB.out]; rfl
  have HN := Lib.hid (fun W => heap_new_calls (sb := W1.heap.size) W)
  have hls := block_lt HS.out
  have hlb := block_lt HB.out
  clear hs1 u1 u2 hz1
  go_enter Try.func43, Try.ntmps43
  go_wp2_with fail
  go_region_held3 (fun w' => w'.cell? ⟨W1.heap.size, 0, none⟩ = some (.pointer (some ⟨w.heap.size, 0, none⟩)))
    (first | exact (World.cell?_setCell_far _ _ _ _ HNE.out).trans n0 | exact n0 | exact b0 | go_keep)
    (first
      | (go_at_call 65
         refine (HN.out _).mono ?_
         rintro e w3 ⟨h, rfl, hheap, hb3⟩
         have hu3 : Upd [] W2 w3 := (Upd.drewN [] W2 1).trans (Upd.ofBelow hb3 [])
         have hs3 := upd_far hu3 HS.out (by simp)
         have hbb3 := upd_far hu3 HB.out (by simp)
         have n0 : w3.cell? ⟨W1.heap.size, 0, none⟩ = some (.pointer (some ⟨w.heap.size, 0, none⟩)) := by rw [cell_of_block hbb3]; rfl
         have k0 : w3.cell? ⟨w.heap.size, 2, none⟩ = some (.pointer none) := by rw [cell_of_block hs3]; rfl
         have f0 : w3.frozen? ⟨w.heap.size, 2, none⟩ = false := frozen_of_block hs3
         have HS3 := Lib.hid hs3
         have HB3 := Lib.hid hbb3
         have HU3 := Lib.hid hu3
         have HH3 := Lib.hid hheap
         clear hu3 hs3 hbb3 hheap hb3))
  have hle := HH3.out.le
  have hle2 : W2.heap.size ≤ h := hle
  have HLE := Lib.hid hle2
  clear hle hle2 k0 f0 n0 b0
  go_wp2_with fail
  have S4 : ∀ W4, W4 = w3.setCell ⟨w.heap.size, 2, none⟩ (.pointer (some ⟨h, 0, none⟩)) → IsSel W4 w.heap.size w.heap.size W1.heap.size h most 0 (.slice none 0 0) [] ∧ Below w.heap.size w W4 := by
    rintro W4 rfl
    have hs4 := heap_setCell_same w3 w.heap.size 2 _ _ (.pointer (some ⟨h, 0, none⟩)) HS3.out
    have hu4 : Upd [w.heap.size] w3 (w3.setCell ⟨w.heap.size, 2, none⟩ (.pointer (some ⟨h, 0, none⟩))) := Upd.setCell (by simp) _
    have hle := HLE.out
    have hz1 := HZ1.out
    refine ⟨⟨?_, upd_far hu4 HB3.out (by simp; omega), (HH3.out.base (by have := HU.out.size; simpa using this)).upd hu4 (by simp; omega) (by simp [ob, Value.ownBlock]), fun i h0 hi => by simp at hi, by omega, by omega, by omega, by simp [ob, Value.ownBlock], by simp [ob, Value.ownBlock], Nat.le_refl _, by omega, ?_⟩, ?_⟩
    · simpa using hs4
    · have := HU.out.size; have := HU3.out.size; have := hu4.size; omega
    · exact (HU.out.trans HU3.out).below.trans (hu4.belowB (Nat.le_trans HU.out.size HU3.out.size) (by simp))
  have S4 := Lib.hid S4
  go_ret
  exact ⟨_, _, _, rfl, (S4.out _ (by simp)).1, (S4.out _ (by simp)).2⟩

theorem sel_len_calls (B sp sb h : Nat) (most : Int) (n : Nat) (v : Value) (l : List Tk) (w : World) (S : IsSel w B sp sb h most n v l) :
    Calls Try.prog 68 #[.pointer (some ⟨sp, 0, none⟩)] w fun e w' => e = .returned (.int .i64 (l.length : Int)) ∧ w = w' := by
  have c2 : w.cell? ⟨sp, 2, none⟩ = some (.pointer (some ⟨h, 0, none⟩)) := by rw [cell_of_block S.hs]; rfl
  obtain ⟨ao, cap, rfl, hl, hc⟩ := row_form S.hh.row
  unfold maxLen at hc
  have c1 : w.cell? ⟨h, 1, none⟩ = some (.slice ao l.length cap) := by rw [cell_of_block S.hh.hd]; rfl
  clear S
  have HL : Hid (Calls Try.prog 83 #[.pointer (some ⟨h, 0, none⟩)] w fun e w' => e = .returned (.int .i64 (l.length : Int)) ∧ w = w') := Lib.hid (by
    clear c2
    go_enter Try.func83, Try.ntmps83
    go_wp2_with fail
    go_ret
    exact ⟨rfl, rfl⟩)
  clear c1
  go_enter Try.func68, Try.ntmps68
  go_wp2_with fail
  refine HL.out.mono ?_
  rintro e w1 ⟨rfl, rfl⟩
  go_wp2_with fail
  go_ret
  exact ⟨rfl, rfl⟩

theorem IsSel.pushed {w w' : World} {B sp sb h : Nat} {most : Int} {n : Nat} {v v' : Value} {l l' : List Tk} (S : IsSel w B sp sb h most n v l) (hh : IsHeap w' B h (.func (.func 66) #[] #[.pointer (some ⟨sb, 0, none⟩)]) v' l') (hg : Good top tk0 l')
    (hu : Upd (h :: ob v) w w') (ho : ∀ k, k ∈ ob v' → k ∈ ob v ∨ w.heap.size ≤ k) : IsSel w' B sp sb h most n v' l' := by
  have h1 := block_lt S.hs
  have h2 := block_lt S.hb
  refine ⟨upd_far hu S.hs (by simp [S.n2, S.n4]), upd_far hu S.hb (by simp [S.n3, S.n5]), hh, hg, S.n1, S.n2, S.n3, fun hm => ?_, fun hm => ?_, S.Bs, S.Bb, Nat.le_trans S.Bw hu.size⟩
  · rcases ho _ hm with h | h
    · exact S.n4 h
    · omega
  · rcases ho _ hm with h | h
    · exact S.n5 h
    · omega

theorem Kept.le {most : Int} {xs : List Rs} {l : List Tk} (h : Kept most xs l) : l.length ≤ xs.length := by
  obtain ⟨rest, h1, _⟩ := h.ex
  have := h1.length_eq
  rw [enum_len, List.length_append] at this
  omega

set_option maxHeartbeats 4000000 in
set_option maxRecDepth 100000 in
theorem offer_calls (B sp sb h : Nat) (most : Int) (v : Value) (l : List Tk) (x : Rs) (xs : List Rs) (w : World) (S : IsSel w B sp sb h most xs.length v l) (hk : Kept most xs l) (hok : rsE.ok x) (hn : xs.length ≤ 1048576) (hm : (Lit.int .i64 most).wf = true) :
    Calls Try.prog 44 #[.pointer (some ⟨sp, 0, none⟩), .agg #[.int .i64 x.id, .int .i64 x.far]] w fun e w' => (∃ b, e = .returned (.bool b)) ∧
      ∃ v' l', IsSel w' B sp sb h most (xs.length + 1) v' l' ∧ Kept most (xs ++ [x]) l' ∧ Upd (sp :: h :: ob v) w w' ∧ (∀ k, k ∈ ob v' → k ∈ ob v ∨ w.heap.size ≤ k) := by
  obtain ⟨W0, hW0⟩ : ∃ W0, w.alloc (.cells #[.int .i64 x.id, .int .i64 x.far] 42) = W0 := ⟨_, rfl⟩
  have u0 : Upd [] w W0 := by rw [← hW0]; exact Upd.alloc [] w _
  have hx0 : W0.heap[w.heap.size]? = some (.cells #[.int .i64 x.id, .int .i64 x.far] 42) := by rw [← hW0]; exact Go.heap_alloc_new w _
  have S0 := S.upd u0 (by simp) (by simp) (by simp) (by simp)
  have a0 : W0.cell? ⟨w.heap.size, 0, none⟩ = some (.int .i64 x.id) := by rw [cell_of_block hx0]; rfl
  have a1 : W0.cell? ⟨w.heap.size, 1, none⟩ = some (.int .i64 x.far) := by rw [cell_of_block hx0]; rfl
  have s3 : W0.cell? ⟨sp, 3, none⟩ = some (.int .i64 (xs.length : Int)) := by rw [cell_of_block S0.hs]; rfl
  have HS0 := Lib.hid S0
  have HK := Lib.hid hk
  have HU0 := Lib.hid u0
  have HX0 := Lib.hid hx0
  have HOK := Lib.hid hok
  have hlx := block_lt hx0
  have hls := block_lt S0.hs
  have hlen := hk.le
  obtain ⟨n, hnn⟩ : ∃ n, xs.length = n := ⟨_, rfl⟩
  have HNN := Lib.hid hnn
  rw [hnn] at s3 hn hlen HS0 ⊢
  clear u0 hx0 S0 S hk hok hnn
  go_enter Try.func44, Try.ntmps44
  go_wp2_with fail
  go_region
  generalize hW1 : World.drew _ = W1
  have u1 : Upd [] W0 W1 := by rw [← hW1]; exact (Upd.alloc [] W0 _).trans (Upd.drew [] _)
  have he1 : W1.heap[W0.heap.size]? = some (.cells #[.int .i64 x.id, .int .i64 x.far, .int .i64 (n : Int)] 108) := by rw [← hW1]; exact Go.heap_alloc_new W0 _
  have S1 := HS0.out.upd u1 (by simp) (by simp) (by simp) (by simp)
  have s3' : W1.cell? ⟨sp, 3, none⟩ = some (.int .i64 (n : Int)) := by rw [cell_of_block S1.hs]; rfl
  have f3' : W1.frozen? ⟨sp, 3, none⟩ = false := frozen_of_block S1.hs
  obtain ⟨W2, hW2⟩ : ∃ W2, W1.setCell ⟨sp, 3, none⟩ (.int .i64 ((n : Int) + 1)) = W2 := ⟨_, rfl⟩
  have u2 : Upd [sp] W1 W2 := by rw [← hW2]; exact Upd.setCell (by simp) _
  have hspe : sp ≠ W0.heap.size := Nat.ne_of_lt hls
  have he2 := upd_far u2 he1 (by simp; exact fun e => hspe e.symm)
  have S2 : IsSel W2 B sp sb h most (n + 1) v l := by
    refine ⟨?_, upd_far u2 S1.hb (by simp; exact fun e => S1.n1 e.symm), S1.hh.upd u2 (by simp; exact fun e => S1.n2 e.symm) (fun k hk => by simp; exact fun e => S1.n4 (e ▸ hk)), S1.good, S1.n1, S1.n2, S1.n3, S1.n4, S1.n5, S1.Bs, S1.Bb, Nat.le_trans S1.Bw u2.size⟩
    rw [← hW2]
    have := heap_setCell_same W1 sp 3 _ _ (.int .i64 ((n : Int) + 1)) S1.hs
    simpa using this
  have HS2 := Lib.hid S2
  have HE2 := Lib.hid he2
  have HU2 : Hid (Upd (sp :: h :: ob v) w W2) := Lib.hid (((HU0.out.mono (by simp)).trans (u1.mono (by simp))).trans (u2.mono (by simp)))
  have HL := Lib.hid (fun m => sel_len_calls B sp sb h most (n + 1) v l (W2.drewN m) (S2.upd (Upd.drewN [] W2 m) (by simp) (by simp) (by simp) (by simp)))
  have FC : Hid (∀ W, Upd [] W2 W → W.cell? ⟨sp, 2, none⟩ = some (.pointer (some ⟨h, 0, none⟩)) ∧ W.cell? ⟨W0.heap.size, 0, none⟩ = some (.int .i64 x.id) ∧ W.cell? ⟨W0.heap.size, 1, none⟩ = some (.int .i64 x.far) ∧ W.cell? ⟨W0.heap.size, 2, none⟩ = some (.int .i64 (n : Int))) := Lib.hid (fun W hu => by
    have h1 := upd_far hu S2.hs (by simp)
    have h2 := upd_far hu he2 (by simp)
    refine ⟨?_, ?_, ?_, ?_⟩ <;> first | (rw [cell_of_block h1]; rfl) | (rw [cell_of_block h2]; rfl))
  have c1 : W2.cell? ⟨sp, 1, none⟩ = some (.int .i64 most) := by rw [cell_of_block S2.hs]; rfl
  have c2 : W2.cell? ⟨sp, 2, none⟩ = some (.pointer (some ⟨h, 0, none⟩)) := by rw [cell_of_block S2.hs]; rfl
  have e0 : W2.cell? ⟨W0.heap.size, 0, none⟩ = some (.int .i64 x.id) := by rw [cell_of_block he2]; rfl
  have e1 : W2.cell? ⟨W0.heap.size, 1, none⟩ = some (.int .i64 x.far) := by rw [cell_of_block he2]; rfl
  have e2 : W2.cell? ⟨W0.heap.size, 2, none⟩ = some (.int .i64 (n : Int)) := by rw [cell_of_block he2]; rfl
  have hn1 : (n : Int) ≤ 1048576 := by omega
  clear u1 he1 S1 u2 he2 S2 hspe hW1 a0 a1 s3
  go_wp2_with fail
  go_quiet ((go_at_call 68; exact Calls.quiet_of_same ((HL.out _).mono (fun _ _ ⟨a, b⟩ => ⟨a, b.symm⟩))))
  clear c1 c2 e0 e1 e2
  generalize hW3 : W2.drewN nq = W3
  have u3 : Upd [] W2 W3 := by rw [← hW3]; exact Upd.drewN [] W2 nq
  have HS3 := Lib.hid (HS2.out.upd u3 (by simp) (by simp) (by simp) (by simp))
  have HU3 := Lib.hid (HU2.out.trans (u3.mono (by simp)))
  have HE3 := Lib.hid (upd_far u3 HE2.out (by simp))
  obtain ⟨c2, e0, e1, e2⟩ := FC.out W3 u3
  have FC3 : Hid (∀ W, Upd [] W3 W → W.cell? ⟨sp, 2, none⟩ = some (.pointer (some ⟨h, 0, none⟩)) ∧ W.cell? ⟨W0.heap.size, 0, none⟩ = some (.int .i64 x.id) ∧ W.cell? ⟨W0.heap.size, 1, none⟩ = some (.int .i64 x.far) ∧ W.cell? ⟨W0.heap.size, 2, none⟩ = some (.int .i64 (n : Int))) := Lib.hid (fun W hu => FC.out W (u3.trans hu))
  clear hW3 u3 HS2 HU2 HE2 FC HL
  have hte : tkE.ok ⟨x.id, x.far, (n : Int)⟩ := ⟨HOK.out.1, HOK.out.2, by
    show (Lit.int .i64 (n : Int)).wf = true
    have e1 : IntKind.i64.min = -9223372036854775808 := by decide
    have e2 : IntKind.i64.max = 9223372036854775807 := by decide
    show (decide (IntKind.i64.min ≤ (n : Int)) && decide ((n : Int) ≤ IntKind.i64.max)) = true
    rw [e1, e2]
    have h1 : (-9223372036854775808 : Int) ≤ (n : Int) := by omega
    have h2 : (n : Int) ≤ (9223372036854775807 : Int) := by omega
    simp [h1, h2]⟩
  have HTE := Lib.hid hte
  have hl30 : l.length ≤ 1048576 := by omega
  have hns : sp ∉ h :: ob v := by simp [HS3.out.n2, HS3.out.n4]
  have hne : W0.heap.size ∉ h :: ob v := fun hm => by
    rcases List.mem_cons.1 hm with e | e
    · have := block_lt HS0.out.hh.hd; omega
    · have := (HS0.out.hh.row.ob_lt _ e).2; omega
  have HNS := Lib.hid hns
  have HNE := Lib.hid hne
  clear hns hne
  clear hte
  by_cases hlt : (l.length : Int) < most
  · have HP : Hid (∀ W, Upd [] W3 W → Calls Try.prog 69 #[.pointer (some ⟨h, 0, none⟩), .agg #[.int .i64 x.id, .int .i64 x.far, .int .i64 (n : Int)]] W fun e w' => e = .returned (.tuple #[]) ∧
      ∃ v' l', IsHeap w' B h (.func (.func 66) #[] #[.pointer (some ⟨sb, 0, none⟩)]) v' l' ∧ l'.Perm (l ++ [⟨x.id, x.far, (n : Int)⟩]) ∧ Good top tk0 l' ∧ Upd (h :: ob v) W w' ∧ (∀ k, k ∈ ob v' → k ∈ ob v ∨ W.heap.size ≤ k)) := Lib.hid (fun W hu => by
        have S := HS3.out.upd hu (by simp) (by simp) (by simp) (by simp)
        exact push_calls 0 B h v l ⟨x.id, x.far, (n : Int)⟩ top top_asym top_negt W S.hh HTE.out (by omega) S.first S.good S.Bw)
    go_wp2_with fail
    go_region_held3 (fun w' => w'.cell? ⟨sp, 2, none⟩ = some (.pointer (some ⟨h, 0, none⟩)) ∧ w'.cell? ⟨W0.heap.size, 0, none⟩ = some (.int .i64 x.id) ∧ w'.cell? ⟨W0.heap.size, 1, none⟩ = some (.int .i64 x.far) ∧ w'.cell? ⟨W0.heap.size, 2, none⟩ = some (.int .i64 (n : Int)))
      (first | exact ⟨m0, m1, m2, m3⟩ | exact ⟨c2, e0, e1, e2⟩ | go_keep)
      (first
        | (go_at_call 69
           refine (HP.out _ (Upd.drewN [] W3 _)).mono ?_
           rintro e w5 ⟨rfl, v', l', hheap, hperm, hgood, hu5, ho5⟩
           have hs5 := upd_far ((Upd.drewN (h :: ob v) W3 1).trans hu5) HS3.out.hs HNS.out
           have he5 := upd_far ((Upd.drewN (h :: ob v) W3 1).trans hu5) HE3.out HNE.out
           have m0 : w5.cell? ⟨sp, 2, none⟩ = some (.pointer (some ⟨h, 0, none⟩)) := by rw [cell_of_block hs5]; rfl
           have m1 : w5.cell? ⟨W0.heap.size, 0, none⟩ = some (.int .i64 x.id) := by rw [cell_of_block he5]; rfl
           have m2 : w5.cell? ⟨W0.heap.size, 1, none⟩ = some (.int .i64 x.far) := by rw [cell_of_block he5]; rfl
           have m3 : w5.cell? ⟨W0.heap.size, 2, none⟩ = some (.int .i64 (n : Int)) := by rw [cell_of_block he5]; rfl
           have HH5 := Lib.hid hheap
           have HP5 := Lib.hid hperm
           have HG5 := Lib.hid hgood
           have HU5 := Lib.hid ((Upd.drewN (h :: ob v) W3 1).trans hu5)
           have HO5 := Lib.hid (fun k hk => (show k ∈ ob v ∨ W3.heap.size ≤ k from ho5 k hk))
           clear hheap hperm hgood hu5 ho5 hs5 he5))
    clear m0 m1 m2 m3
    go_wp2_with fail
    go_ret
    refine ⟨⟨_, rfl⟩, v', l', HS3.out.pushed HH5.out HG5.out HU5.out HO5.out, HK.out.push hlt (by rw [HNN.out]; exact HP5.out), HU3.out.trans (HU5.out.mono (fun k hk _ => List.mem_cons_of_mem _ hk)), fun k hk => ?_⟩
    rcases HO5.out k hk with h | h
    · exact .inl h
    · exact .inr (Nat.le_trans HU3.out.size h)
  · have hge : most ≤ (l.length : Int) := by omega
    clear e0 e1 e2
    by_cases hl0 : l = []
    · have HPK : Hid (Calls Try.prog 70 #[.pointer (some ⟨h, 0, none⟩)] W3 fun e w' => e = .returned (.tuple #[.agg #[.int .i64 0, .int .i64 0, .int .i64 0], .bool false]) ∧ Below W3.heap.size W3 w') := Lib.hid (by
        have := HS3.out.hh
        rw [hl0] at this
        exact peek_none B _ v h W3 this)
      have HST := Lib.hid (HK.out.stay (x := x) hge (.inl hl0))
      clear hl0
      go_wp2_with fail
      refine HPK.out.mono ?_
      rintro e w4 ⟨rfl, hb4⟩
      have HU4 := Lib.hid (Upd.ofBelow hb4 [])
      clear hb4 HPK
      go_wp2_with fail
      go_ret
      refine ⟨⟨_, rfl⟩, v, l, HS3.out.upd (HU4.out.trans (Upd.alloc [] w4 _)) (by simp) (by simp) (by simp) (by simp), HST.out, HU3.out.trans ((HU4.out.trans (Upd.alloc [] w4 _)).mono (by simp)), fun k hk => .inl hk⟩
    · obtain ⟨t0, ht0⟩ : ∃ t, l[0]? = some t := ⟨_, List.getElem?_eq_getElem (List.length_pos_iff.2 hl0)⟩
      have HPK := Lib.hid (peek_some B h _ v l t0 W3 HS3.out.hh ht0)
      have htop : ∀ y ∈ l, top y t0 = false := fun y hy => by
        obtain ⟨i, hi, rfl⟩ := List.getElem_of_mem hy
        have := HS3.out.good.top top tk0 top_negt top_irr i hi
        simpa [List.getD_eq_getElem?_getD, ht0, List.getElem?_eq_getElem hi] using this
      have HTOP := Lib.hid htop
      have HT0 := Lib.hid (List.mem_of_getElem? ht0)
      obtain ⟨m, hm1⟩ : ∃ m, l.length = m + 1 := ⟨l.length - 1, by have := List.length_pos_iff.2 hl0; omega⟩
      have HM1 := Lib.hid hm1
      obtain ⟨q, hq⟩ : ∃ q, ahd ⟨x.id, x.far, (n : Int)⟩ t0 = q := ⟨_, rfl⟩
      have HQ := Lib.hid hq
      clear hl0 ht0 htop hm1 hq
      go_wp2_with fail
      refine HPK.out.mono ?_
      rintro e w4 ⟨rfl, hb4⟩
      obtain ⟨W5, hW5⟩ : ∃ W5, w4.alloc (.cells #[.int .i64 t0.id, .int .i64 t0.far, .int .i64 t0.at_] 108) = W5 := ⟨_, rfl⟩
      have u5 : Upd [] W3 W5 := by rw [← hW5]; exact (Upd.ofBelow hb4 []).trans (Upd.alloc [] w4 _)
      have ht5 : W5.heap[w4.heap.size]? = some (.cells #[.int .i64 t0.id, .int .i64 t0.far, .int .i64 t0.at_] 108) := by rw [← hW5]; exact Go.heap_alloc_new w4 _
      have HU5 := Lib.hid u5
      have HC5 := Lib.hid (ahead_calls sp _ _ _ ⟨x.id, x.far, (n : Int)⟩ t0 W5 (upd_far u5 HS3.out.hs (by simp)))
      rw [HQ.out] at HC5
      obtain ⟨c2', e0, e1, e2⟩ := FC3.out W5 u5
      have g0 : W5.cell? ⟨w4.heap.size, 0, none⟩ = some (.int .i64 t0.id) := by rw [cell_of_block ht5]; rfl
      have g1 : W5.cell? ⟨w4.heap.size, 1, none⟩ = some (.int .i64 t0.far) := by rw [cell_of_block ht5]; rfl
      have g2 : W5.cell? ⟨w4.heap.size, 2, none⟩ = some (.int .i64 t0.at_) := by rw [cell_of_block ht5]; rfl
      clear hb4 HPK u5 ht5 c2
      go_wp2_with fail
      refine HC5.out.mono ?_
      rintro e w6 ⟨rfl, hb6⟩
      have u6 : Upd [] W3 w6 := HU5.out.trans (Upd.ofBelow hb6 [])
      have HU6 := Lib.hid u6
      clear hb6 HC5 HU5 hW5 e0 e1 e2 g0 g1 g2 c2'
      have HS6 := Lib.hid (HS3.out.upd u6 (by simp) (by simp) (by simp) (by simp))
      obtain ⟨c2, e0, e1, e2⟩ := FC3.out w6 u6
      have HE6 := Lib.hid (upd_far u6 HE3.out (by simp))
      clear u6
      cases q with
      | false =>
        have HST := Lib.hid (HK.out.stay (x := x) hge (.inr ⟨t0, HT0.out, HTOP.out, by rw [HNN.out]; exact HQ.out⟩))
        go_wp2_with fail
        go_ret
        exact ⟨⟨_, rfl⟩, v, l, HS6.out, HST.out, HU3.out.trans (HU6.out.mono (by simp)), fun k hk => .inl hk⟩
      | true =>
        have HPOP := Lib.hid (pop_some B h v l m HM1.out top top_asym top_negt top_irr w6 HS6.out.hh (by omega) HS6.out.first HS6.out.good)
        clear e0 e1 e2
        go_wp2_with fail
        refine HPOP.out.mono ?_
        rintro e w7 ⟨t1, rfl, hok1, v1, l1, hh7, hperm7, hgood7, hmin7, hu7, hob7⟩
        have HS7 := Lib.hid (HS6.out.pushed hh7 hgood7 hu7 (fun k hk => .inl (hob7 ▸ hk)))
        have HE7 := Lib.hid (upd_far hu7 HE6.out HNE.out)
        have HU7 := Lib.hid hu7
        have HP7 := Lib.hid hperm7
        have HM7 := Lib.hid hmin7
        have HO7 := Lib.hid hob7
        have hl1 : l1.length ≤ 1048576 := by have := hperm7.length_eq; simp only [List.length_cons] at this; omega
        have hs7 := upd_far hu7 HS6.out.hs HNS.out
        have c7 : w7.cell? ⟨sp, 2, none⟩ = some (.pointer (some ⟨h, 0, none⟩)) := by rw [cell_of_block hs7]; rfl
        have e0 : w7.cell? ⟨W0.heap.size, 0, none⟩ = some (.int .i64 x.id) := by rw [cell_of_block HE7.out]; rfl
        have e1 : w7.cell? ⟨W0.heap.size, 1, none⟩ = some (.int .i64 x.far) := by rw [cell_of_block HE7.out]; rfl
        have e2 : w7.cell? ⟨W0.heap.size, 2, none⟩ = some (.int .i64 (n : Int)) := by rw [cell_of_block HE7.out]; rfl
        have HP : Hid (∀ W, Upd [] w7 W → Calls Try.prog 69 #[.pointer (some ⟨h, 0, none⟩), .agg #[.int .i64 x.id, .int .i64 x.far, .int .i64 (n : Int)]] W fun e w' => e = .returned (.tuple #[]) ∧
          ∃ v' l', IsHeap w' B h (.func (.func 66) #[] #[.pointer (some ⟨sb, 0, none⟩)]) v' l' ∧ l'.Perm (l1 ++ [⟨x.id, x.far, (n : Int)⟩]) ∧ Good top tk0 l' ∧ Upd (h :: ob v1) W w' ∧ (∀ k, k ∈ ob v' → k ∈ ob v1 ∨ W.heap.size ≤ k)) := Lib.hid (fun W hu => by
            have S := HS7.out.upd hu (by simp) (by simp) (by simp) (by simp)
            exact push_calls 0 B h v1 l1 ⟨x.id, x.far, (n : Int)⟩ top top_asym top_negt W S.hh HTE.out (by omega) S.first S.good S.Bw)
        clear hh7 hperm7 hgood7 hmin7 hu7 hob7 hs7 c2 HPOP hok1
        go_wp2_with fail
        go_region_held3 (fun w' => w'.cell? ⟨sp, 2, none⟩ = some (.pointer (some ⟨h, 0, none⟩)) ∧ w'.cell? ⟨W0.heap.size, 0, none⟩ = some (.int .i64 x.id) ∧ w'.cell? ⟨W0.heap.size, 1, none⟩ = some (.int .i64 x.far) ∧ w'.cell? ⟨W0.heap.size, 2, none⟩ = some (.int .i64 (n : Int)))
          (first | exact ⟨m0, m1, m2, m3⟩ | exact ⟨c7, e0, e1, e2⟩ | go_keep)
          (first
            | (go_at_call 69
               refine (HP.out _ (Upd.drewN [] w7 _)).mono ?_
               rintro e w8 ⟨rfl, v', l', hheap, hperm, hgood, hu8, ho8⟩
               have hs8 := upd_far ((Upd.drewN (h :: ob v1) w7 1).trans hu8) HS7.out.hs (by rw [HO7.out]; exact HNS.out)
               have he8 := upd_far ((Upd.drewN (h :: ob v1) w7 1).trans hu8) HE7.out (by rw [HO7.out]; exact HNE.out)
               have m0 : w8.cell? ⟨sp, 2, none⟩ = some (.pointer (some ⟨h, 0, none⟩)) := by rw [cell_of_block hs8]; rfl
               have m1 : w8.cell? ⟨W0.heap.size, 0, none⟩ = some (.int .i64 x.id) := by rw [cell_of_block he8]; rfl
               have m2 : w8.cell? ⟨W0.heap.size, 1, none⟩ = some (.int .i64 x.far) := by rw [cell_of_block he8]; rfl
               have m3 : w8.cell? ⟨W0.heap.size, 2, none⟩ = some (.int .i64 (n : Int)) := by rw [cell_of_block he8]; rfl
               have HH8 := Lib.hid hheap
               have HP8 := Lib.hid hperm
               have HG8 := Lib.hid hgood
               have HU8 := Lib.hid ((Upd.drewN (h :: ob v1) w7 1).trans hu8)
               have HO8 := Lib.hid (fun k hk => (show k ∈ ob v1 ∨ w7.heap.size ≤ k from ho8 k hk))
               clear hheap hperm hgood hu8 ho8 hs8 he8))
        clear m0 m1 m2 m3
        go_wp2_with fail
        go_ret
        have hall : Upd (sp :: h :: ob v) w w7 := (HU3.out.trans (HU6.out.mono (by simp))).trans (HU7.out.mono (fun k hk _ => List.mem_cons_of_mem _ hk))
        have hu8 := HU8.out
        rw [HO7.out] at hu8
        refine ⟨⟨_, rfl⟩, v', l', HS7.out.pushed HH8.out HG8.out HU8.out HO8.out, HK.out.swap hge HT0.out (by rw [HNN.out]; exact HQ.out) HP7.out HM7.out (by rw [HNN.out]; exact HP8.out), hall.trans (hu8.mono (fun k hk _ => List.mem_cons_of_mem _ hk)), fun k hk => ?_⟩
        rcases HO8.out k hk with h | h
        · rw [HO7.out] at h; exact .inl h
        · exact .inr (Nat.le_trans hall.size h)

end Go.Proofs.Ytglghgjbnoldaaa.E3
