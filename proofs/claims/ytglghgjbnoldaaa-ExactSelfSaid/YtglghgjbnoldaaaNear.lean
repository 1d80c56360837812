/-
Results, and how far: order.Nearer, the document's; vec.Far, the document's; an item of items; exact.Check; slices.Values of ids.
-/
import Derived.Test.YtglghgjbnoldaaaFo
import Derived.Test.YtglghgjbnoldaaaHeapM
import Derived.Test.YtglghgjbnoldaaaAhead
import Derived.Test.YtglghgjbnoldaaaUniqM
import Derived.Deep.RegionHeld3
namespace Go.Proofs.Ytglghgjbnoldaaa
set_option linter.unusedVariables false
set_option linter.unusedSimpArgs false
open Go.RowKit

/-! ### Results -/
structure Rs where
  id : Int
  far : Int
  deriving DecidableEq
def rsE : Flat Rs where
  n := 2
  enc x := [.int .i64 x.id, .int .i64 x.far]
  ok x := (Lit.int .i64 x.id).wf = true ∧ (Lit.int .i64 x.far).wf = true
  len _ := rfl
  one x v h := by simp at h; rcases h with rfl | rfl <;> rfl
def rsV (x : Rs) : Value := .agg #[.int .i64 x.id, .int .i64 x.far]
def nearer (a b : Rs) : Bool := decide (a.far < b.far) || (decide (a.far = b.far) && decide (a.id < b.id))

theorem nearer_cmp (a b : Rs) : decide (orI [cmpI a.far b.far, cmpI a.id b.id] < 0) = nearer a b := by
  rw [Bool.eq_iff_iff]
  simp only [decide_eq_true_eq, nearer, Bool.or_eq_true, Bool.and_eq_true, orI, cmpI]
  split <;> split <;> (try split) <;> (try split) <;> (try split) <;> simp <;> omega

/-- A result at its place. -/
theorem rs_at {M : List Nat} {w : World} {v : Value} {l : List Rs} (h : rsE.kd.slice.At M w [v] l) {i : Nat} {x : Rs} (hx : l[i]? = some x) :
    ∃ b o cap, v = .slice (some ⟨b, o, none⟩) l.length cap ∧ b < w.heap.size ∧ b ∉ M ∧ l.length ≤ cap ∧ cap ≤ maxLen ∧ rsE.ok x ∧ w.cell? ⟨b, o + i * 2, none⟩ = some (.int .i64 x.id) ∧ w.cell? ⟨b, o + i * 2 + 1, none⟩ = some (.int .i64 x.far) := by
  obtain ⟨b, o, cap, h1, h2, h3, h4, h5, cs', hr, hc⟩ := Kd.slice_get h hx
  obtain ⟨rfl, hok⟩ := Flat.at_ hr
  exact ⟨b, o, cap, h1, h2, h3, h4, h5, hok, hc 0 _ rfl, hc 1 _ rfl⟩

set_option maxHeartbeats 1000000 in
theorem order_nearer_calls (a b : Rs) (w : World) :
    Calls Try.prog 29 #[.agg #[.int .i64 a.id, .int .i64 a.far], .agg #[.int .i64 b.id, .int .i64 b.far]] w fun e w' => e = .returned (.bool (nearer a b)) ∧ Below w.heap.size w w' := by
  obtain ⟨W0, hW0⟩ : ∃ W0, (w.alloc (.cells #[.int .i64 a.id, .int .i64 a.far] 42)).alloc (.cells #[.int .i64 b.id, .int .i64 b.far] 42) = W0 := ⟨_, rfl⟩
  have hb0 : Below w.heap.size w W0 := by rw [← hW0]; exact ((Below.refl w.heap.size w).alloc (Nat.le_refl _) _).alloc (by simp) _
  have hx0 : W0.heap[w.heap.size]? = some (.cells #[.int .i64 a.id, .int .i64 a.far] 42) := by rw [← hW0]; exact alloc2_fst w _ _
  have hy0 : W0.heap[w.heap.size + 1]? = some (.cells #[.int .i64 b.id, .int .i64 b.far] 42) := by rw [← hW0]; exact alloc2_snd w _ _
  have HB0 := Lib.hid hb0
  have a0 : W0.cell? ⟨w.heap.size, 0, none⟩ = some (.int .i64 a.id) := by rw [cell_of_block hx0]; rfl
  have a1 : W0.cell? ⟨w.heap.size, 1, none⟩ = some (.int .i64 a.far) := by rw [cell_of_block hx0]; rfl
  have b0 : W0.cell? ⟨w.heap.size + 1, 0, none⟩ = some (.int .i64 b.id) := by rw [cell_of_block hy0]; rfl
  have b1 : W0.cell? ⟨w.heap.size + 1, 1, none⟩ = some (.int .i64 b.far) := by rw [cell_of_block hy0]; rfl
  have HC1 := Lib.hid (fun W => cmp64_calls a.far b.far W)
  have HC2 := Lib.hid (fun W => cmpI_calls a.id b.id W)
  have HR := Lib.hid (nearer_cmp a b)
  generalize nearer a b = r at *
  generalize hm1 : cmpI a.far b.far = m1 at *
  generalize hm2 : cmpI a.id b.id = m2 at *
  have q1 : (Lit.int .i64 m1).wf = true := by rw [← hm1]; unfold cmpI; split <;> (try split) <;> decide
  have q2 : (Lit.int .i64 m2).wf = true := by rw [← hm2]; unfold cmpI; split <;> (try split) <;> decide
  have Q := Lib.hid (And.intro q1 q2)
  have hlt := block_lt hy0
  clear hb0 hx0 hy0 hm1 hm2 q1 q2
  go_enter Try.func29, Try.ntmps29
  go_wp2_with fail
  go_region_held3 (fun w' => w'.cell? ⟨w.heap.size, 0, none⟩ = some (.int .i64 a.id) ∧ w'.cell? ⟨w.heap.size, 1, none⟩ = some (.int .i64 a.far) ∧ w'.cell? ⟨w.heap.size + 1, 0, none⟩ = some (.int .i64 b.id) ∧ w'.cell? ⟨w.heap.size + 1, 1, none⟩ = some (.int .i64 b.far))
    (first | exact ⟨a0, a1, b0, b1⟩ | go_keep)
    (first
      | (go_at_call 47
         refine (HC1.out _).mono ?_
         rintro e w2 ⟨rfl, rfl⟩)
      | (go_at_call 48
         refine (HC2.out _).mono ?_
         rintro e w2 ⟨rfl, rfl⟩)
      | (go_at_call 46
         refine (or_calls _ [m1, m2] [] _ (two_at (show ((W0.alloc (.cells #[.int .i64 m1, .int .i64 m2] 3)).drew).heap[W0.heap.size]? = some (.cells #[.int .i64 m1, .int .i64 m2] 3) from Go.heap_alloc_new W0 _) (by simp) Q.out.1 Q.out.2)).mono ?_
         rintro e w2 ⟨rfl, rfl⟩))
  rw [HR.out]
  go_wp2_with fail
  go_ret
  exact ⟨rfl, (HB0.out.alloc HB0.out.size _).drew⟩

set_option maxHeartbeats 1000000 in
theorem ref04_nearer_calls (a b : Rs) (w : World) :
    Calls Try.prog 77 #[.agg #[.int .i64 a.id, .int .i64 a.far], .agg #[.int .i64 b.id, .int .i64 b.far]] w fun e w' => e = .returned (.bool (nearer a b)) ∧ Below w.heap.size w w' := by
  obtain ⟨W0, hW0⟩ : ∃ W0, (w.alloc (.cells #[.int .i64 a.id, .int .i64 a.far] 42)).alloc (.cells #[.int .i64 b.id, .int .i64 b.far] 42) = W0 := ⟨_, rfl⟩
  have hb0 : Below w.heap.size w W0 := by rw [← hW0]; exact ((Below.refl w.heap.size w).alloc (Nat.le_refl _) _).alloc (by simp) _
  have hx0 : W0.heap[w.heap.size]? = some (.cells #[.int .i64 a.id, .int .i64 a.far] 42) := by rw [← hW0]; exact alloc2_fst w _ _
  have hy0 : W0.heap[w.heap.size + 1]? = some (.cells #[.int .i64 b.id, .int .i64 b.far] 42) := by rw [← hW0]; exact alloc2_snd w _ _
  have HB0 := Lib.hid hb0
  have a0 : W0.cell? ⟨w.heap.size, 0, none⟩ = some (.int .i64 a.id) := by rw [cell_of_block hx0]; rfl
  have a1 : W0.cell? ⟨w.heap.size, 1, none⟩ = some (.int .i64 a.far) := by rw [cell_of_block hx0]; rfl
  have b0 : W0.cell? ⟨w.heap.size + 1, 0, none⟩ = some (.int .i64 b.id) := by rw [cell_of_block hy0]; rfl
  have b1 : W0.cell? ⟨w.heap.size + 1, 1, none⟩ = some (.int .i64 b.far) := by rw [cell_of_block hy0]; rfl
  have hR : nearer a b = if a.far = b.far then decide (a.id < b.id) else decide (a.far < b.far) := by
    rw [Bool.eq_iff_iff]
    simp only [nearer, Bool.or_eq_true, Bool.and_eq_true, decide_eq_true_eq]
    split <;> simp <;> omega
  clear hb0 hx0 hy0
  by_cases h : a.far = b.far
  · rw [if_pos h] at hR
    rw [hR]
    have hq : (a.far != b.far) = false := by simpa using h
    clear hR h
    go_enter Try.func77, Try.ntmps77
    go_wp2_with fail
    go_ret
    exact ⟨rfl, HB0.out⟩
  · rw [if_neg h] at hR
    rw [hR]
    have hq : (a.far != b.far) = true := by simpa using h
    clear hR h
    go_enter Try.func77, Try.ntmps77
    go_wp2_with fail
    go_ret
    exact ⟨rfl, HB0.out⟩

/-! ### How far -/
def sq (x y : Int) : Int := IntKind.i64.wrap ((x - y) * (x - y))
def farGo : List Int → List Int → Int → Int
  | x :: a, y :: b, n => farGo a b (IntKind.i64.wrap (n + sq x y))
  | _, _, n => n
def farI (a b : List Int) : Int := farGo a b 0
theorem farGo_snoc : ∀ (a b : List Int) (x y n : Int), a.length = b.length → farGo (a ++ [x]) (b ++ [y]) n = IntKind.i64.wrap (farGo a b n + sq x y)
  | [], [], x, y, n, _ => rfl
  | [], _ :: _, _, _, _, h => by simp at h
  | _ :: _, [], _, _, _, h => by simp at h
  | p :: a, q :: b, x, y, n, h => by
    simp only [List.cons_append, farGo]
    exact farGo_snoc a b x y _ (by simpa using h)
theorem farGo_min : ∀ (a b : List Int) (n : Int), farGo (a.take (min a.length b.length)) (b.take (min a.length b.length)) n = farGo a b n
  | [], b, n => by simp [farGo]
  | _ :: _, [], n => by simp [farGo]
  | x :: a, y :: b, n => by
    simp only [List.length_cons]
    rw [Nat.succ_min_succ, List.take_succ_cons, List.take_succ_cons]
    simp only [farGo]
    exact farGo_min a b _
theorem wrap_64 (x : Int) : IntKind.i64.wrap x = wrap64 x := by
  simp only [IntKind.wrap, wrap64, IntKind.signed, IntKind.bits]
  simp
  split <;> omega
theorem wrap_wf (x : Int) : (Lit.int .i64 (IntKind.i64.wrap x)).wf = true := by
  simp [Lit.wf, IntKind.wrap, IntKind.min, IntKind.max, IntKind.signed, IntKind.bits] <;> (try split) <;> omega
theorem farGo_wf : ∀ (a b : List Int) (n : Int), (Lit.int .i64 n).wf = true → (Lit.int .i64 (farGo a b n)).wf = true
  | x :: a, y :: b, n, h => by simp only [farGo]; exact farGo_wf a b _ (wrap_wf _)
  | [], _, n, h => by simpa [farGo] using h
  | _ :: _, [], n, h => by simpa [farGo] using h
theorem farI_wf (a b : List Int) : (Lit.int .i64 (farI a b)).wf = true := farGo_wf a b 0 (by decide)
theorem i32_bd {x : Int} (h : (Lit.int .i32 x).wf = true) : -2147483648 ≤ x ∧ x ≤ 2147483647 := by
  have e1 : IntKind.i32.min = -2147483648 := by decide
  have e2 : IntKind.i32.max = 2147483647 := by decide
  have : (decide (IntKind.i32.min ≤ x) && decide (x ≤ IntKind.i32.max)) = true := h
  rw [e1, e2] at this
  simpa using this

set_option maxHeartbeats 2000000 in
theorem vec_far_calls (v1 v2 : Value) (a b : List Int) (M : List Nat) (w : World) (h1 : (Kd.int .i32).slice.At M w [v1] a) (h2 : (Kd.int .i32).slice.At M w [v2] b) :
    Calls Try.prog 37 #[v1, v2] w fun e w' => e = .returned (.int .i64 (farI a b)) ∧ ∃ n, w' = w.drewN n := by
  have HB := Lib.hid (both_calls v1 v2 a b M w h1 h2)
  have H1 := Lib.hid h1
  have H2 := Lib.hid h2
  obtain ⟨ao1, cap1, rfl, hl1, hcap1⟩ := Kd.slice_form h1
  obtain ⟨ao2, cap2, rfl, hl2, hcap2⟩ := Kd.slice_form h2
  unfold maxLen at hcap1 hcap2
  obtain ⟨m, hm⟩ : ∃ m : Nat, min a.length b.length = m := ⟨_, rfl⟩
  rw [hm] at HB
  have HD : Hid (farI (a.take m) (b.take m) = farI a b) := Lib.hid (by rw [← hm]; exact farGo_min a b 0)
  obtain ⟨r, hr⟩ : ∃ r, farI a b = r := ⟨_, rfl⟩
  rw [hr] at HD ⊢
  have hm1 : m ≤ a.length := by omega
  have hm2 : m ≤ b.length := by omega
  clear h1 h2 hm hr
  go_enter Try.func37, Try.ntmps37
  go_wp2_with fail
  refine HB.out.mono ?_
  rintro e w1 ⟨rfl, rfl⟩
  clear HB
  go_wp2_with fail
  go_loopw [5, 11] (fun s i wr => ∃ k q : Nat, k ≤ m ∧ i = .int .i64 k ∧ s = .int .i64 (farI (a.take k) (b.take k)) ∧ wr = w.drewN q) (fun _ i _ => m - (intOf i).toNat)
  case atStart => exact ⟨0, 0, Nat.zero_le _, rfl, by simp [farI, farGo], rfl⟩
  case round =>
    obtain ⟨k, q, hk, rfl, rfl, rfl⟩ := hrel
    by_cases hlt : k < m
    · obtain ⟨x, hx⟩ : ∃ x, a[k]? = some x := ⟨_, List.getElem?_eq_getElem (by omega)⟩
      obtain ⟨y, hy⟩ : ∃ x, b[k]? = some x := ⟨_, List.getElem?_eq_getElem (by omega)⟩
      obtain ⟨b1, o1, c1, hv1, _, _, _, _, g1, gw1⟩ := ints_at H1.out hx
      obtain ⟨b2, o2, c2, hv2, _, _, _, _, g2, gw2⟩ := ints_at H2.out hy
      simp at hv1 hv2
      obtain ⟨rfl, rfl⟩ := hv1
      obtain ⟨rfl, rfl⟩ := hv2
      have hsn : farI (a.take (k + 1)) (b.take (k + 1)) = IntKind.i64.wrap (farI (a.take k) (b.take k) + sq x y) := by
        rw [take_snoc' hx, take_snoc' hy]
        exact farGo_snoc _ _ _ _ _ (by rw [List.length_take, List.length_take]; omega)
      obtain ⟨x1, x2⟩ := i32_bd gw1
      obtain ⟨y1, y2⟩ := i32_bd gw2
      generalize farI (a.take k) (b.take k) = s at *
      have hx0 : wrap64 x = x := by unfold wrap64; omega
      have hy0 : wrap64 y = y := by unfold wrap64; omega
      have hw0 : wrap64 (x - y) = x - y := by unfold wrap64; omega
      obtain ⟨d, hd⟩ : ∃ d, x - y = d := ⟨_, rfl⟩
      have hsq : sq x y = IntKind.i64.wrap (d * d) := by unfold sq; rw [hd]
      rw [hsq] at hsn
      obtain ⟨t, ht⟩ : ∃ t, IntKind.i64.wrap (d * d) = t := ⟨_, rfl⟩
      obtain ⟨u, hu⟩ : ∃ u, IntKind.i64.wrap (s + t) = u := ⟨_, rfl⟩
      rw [ht, hu] at hsn
      rw [hd] at hw0
      have HSN := Lib.hid hsn
      have HE : Hid (wrap64 (s + wrap64 (wrap64 (wrap64 x - wrap64 y) * wrap64 (wrap64 x - wrap64 y))) = u) := Lib.hid (by
        rw [hx0, hy0, hd, hw0, ← wrap_64 (d * d), ht, ← wrap_64]
        exact hu)
      have i0 : (0 : Int) ≤ (k : Int) := by omega
      have i1 : (k : Int) < (a.length : Int) := by omega
      have i2 : (k : Int) < (b.length : Int) := by omega
      clear hx hy hsn gw1 gw2 hsq x1 x2 y1 y2 hx0 hy0 hw0 hd ht hu
      go_wp2_with fail
      go_quiet (fail)
      go_wp2_with fail
      go_roundw
      case rel => exact ⟨k + 1, _, by omega, by go_num, by rw [HSN.out, ← HE.out], rfl⟩
      case measure => simp [intOf]; omega
    · have hkm : k = m := by omega
      have HQ : Hid (farI (a.take k) (b.take k) = r) := Lib.hid (by rw [hkm]; exact HD.out)
      clear hkm
      generalize farI (a.take k) (b.take k) = s at *
      go_wp2_with fail
      go_ret
      exact ⟨by have := HQ.out; subst this; rfl, _, rfl⟩

set_option maxHeartbeats 2000000 in
theorem ref03_far_calls (v1 v2 : Value) (a b : List Int) (M : List Nat) (w : World) (h1 : (Kd.int .i32).slice.At M w [v1] a) (h2 : (Kd.int .i32).slice.At M w [v2] b) :
    Calls Try.prog 17 #[v1, v2] w fun e w' => e = .returned (.int .i64 (farI a b)) ∧ ∃ n, w' = w.drewN n := by
  have H1 := Lib.hid h1
  have H2 := Lib.hid h2
  obtain ⟨ao1, cap1, rfl, hl1, hcap1⟩ := Kd.slice_form h1
  obtain ⟨ao2, cap2, rfl, hl2, hcap2⟩ := Kd.slice_form h2
  unfold maxLen at hcap1 hcap2
  obtain ⟨m, hm⟩ : ∃ m : Nat, min a.length b.length = m := ⟨_, rfl⟩
  have HD : Hid (farI (a.take m) (b.take m) = farI a b) := Lib.hid (by rw [← hm]; exact farGo_min a b 0)
  obtain ⟨r, hr⟩ : ∃ r, farI a b = r := ⟨_, rfl⟩
  rw [hr] at HD ⊢
  have hm1 : m ≤ a.length := by omega
  have hm2 : m ≤ b.length := by omega
  have HMM := Lib.hid hm
  clear h1 h2 hm hr
  go_enter Try.func17, Try.ntmps17
  go_wp2_with fail
  go_loopw [5, 6] (fun s i wr => ∃ k q : Nat, k ≤ m ∧ i = .int .i64 k ∧ s = .int .i64 (farI (a.take k) (b.take k)) ∧ wr = w.drewN q) (fun _ i _ => m - (intOf i).toNat)
  case atStart => exact ⟨0, 0, Nat.zero_le _, rfl, by simp [farI, farGo], rfl⟩
  case round =>
    obtain ⟨k, q, hk, rfl, rfl, rfl⟩ := hrel
    by_cases hlt : k < m
    · obtain ⟨x, hx⟩ : ∃ x, a[k]? = some x := ⟨_, List.getElem?_eq_getElem (by omega)⟩
      obtain ⟨y, hy⟩ : ∃ x, b[k]? = some x := ⟨_, List.getElem?_eq_getElem (by omega)⟩
      obtain ⟨b1, o1, c1, hv1, _, _, _, _, g1, gw1⟩ := ints_at H1.out hx
      obtain ⟨b2, o2, c2, hv2, _, _, _, _, g2, gw2⟩ := ints_at H2.out hy
      simp at hv1 hv2
      obtain ⟨rfl, rfl⟩ := hv1
      obtain ⟨rfl, rfl⟩ := hv2
      have hsn : farI (a.take (k + 1)) (b.take (k + 1)) = IntKind.i64.wrap (farI (a.take k) (b.take k) + sq x y) := by
        rw [take_snoc' hx, take_snoc' hy]
        exact farGo_snoc _ _ _ _ _ (by rw [List.length_take, List.length_take]; omega)
      obtain ⟨x1, x2⟩ := i32_bd gw1
      obtain ⟨y1, y2⟩ := i32_bd gw2
      generalize farI (a.take k) (b.take k) = s at *
      have hx0 : wrap64 x = x := by unfold wrap64; omega
      have hy0 : wrap64 y = y := by unfold wrap64; omega
      have hw0 : wrap64 (x - y) = x - y := by unfold wrap64; omega
      obtain ⟨d, hd⟩ : ∃ d, x - y = d := ⟨_, rfl⟩
      have hsq : sq x y = IntKind.i64.wrap (d * d) := by unfold sq; rw [hd]
      rw [hsq] at hsn
      obtain ⟨t, ht⟩ : ∃ t, IntKind.i64.wrap (d * d) = t := ⟨_, rfl⟩
      obtain ⟨u, hu⟩ : ∃ u, IntKind.i64.wrap (s + t) = u := ⟨_, rfl⟩
      rw [ht, hu] at hsn
      rw [hd] at hw0
      have HSN := Lib.hid hsn
      have HE : Hid (wrap64 (s + wrap64 (wrap64 (wrap64 x - wrap64 y) * wrap64 (wrap64 x - wrap64 y))) = u) := Lib.hid (by
        rw [hx0, hy0, hd, hw0, ← wrap_64 (d * d), ht, ← wrap_64]
        exact hu)
      have i0 : (0 : Int) ≤ (k : Int) := by omega
      have i1 : (k : Int) < (a.length : Int) := by omega
      have i2 : (k : Int) < (b.length : Int) := by omega
      clear hx hy hsn gw1 gw2 hsq x1 x2 y1 y2 hx0 hy0 hw0 hd ht hu
      go_wp2_with fail
      go_quiet (fail)
      go_wp2_with fail
      go_roundw
      case rel => exact ⟨k + 1, _, by omega, by go_num, by rw [HSN.out, ← HE.out], rfl⟩
      case measure => simp [intOf]; omega
    · have hkm : k = m := by omega
      have HQ : Hid (farI (a.take k) (b.take k) = r) := Lib.hid (by rw [hkm]; exact HD.out)
      have hor : (a.length : Int) ≤ (k : Int) ∨ (k : Int) < (a.length : Int) ∧ (b.length : Int) ≤ (k : Int) := by have := HMM.out; omega
      clear hkm
      generalize farI (a.take k) (b.take k) = s at *
      rcases hor with hor | ⟨hor, hor2⟩
      all_goals
        go_wp2_with fail
        go_ret
        exact ⟨by have := HQ.out; subst this; rfl, _, rfl⟩

/-! ### An item -/
/-- The items' vectors, all behind one another. -/
theorem row_slice {dim : Nat} : ∀ (L : List (List Int)) (k : Nat) (x : List Int), (∀ y ∈ L, y.length = dim) → L[k]? = some x → (L.flatten.drop (k * dim)).take dim = x
  | [], k, x, _, h => by simp at h
  | y :: L, 0, x, hd, h => by
    simp at h; subst h
    simp [List.take_append, hd y (by simp)]
  | y :: L, k + 1, x, hd, h => by
    have hy := hd y (by simp)
    have ih := row_slice L k x (fun z hz => hd z (by simp [hz])) (by simpa using h)
    rw [List.flatten_cons, show (k + 1) * dim = y.length + k * dim by rw [hy, Nat.add_mul]; omega, ← List.drop_drop, List.drop_left]
    exact ih

/-- What has been said of items, of which each vector is known. -/
structure Its (w : World) (N : List Nat) (p : Nat) (dim : Int) (L : List (List Int)) : Prop where
  is : IsItems w N p dim L.flatten
  ok : ∀ x ∈ L, vecCheck x dim = 0
  d1 : 1 ≤ dim
  d2 : dim ≤ 1024
  n : L.length ≤ 1048576
theorem Its.upd {w w' : World} {N S N' : List Nat} {p : Nat} {dim : Int} {L : List (List Int)} (h : Its w N p dim L) (hu : Upd S w w') (hS : ∀ k, k ∈ S → k ∈ N) (hp : p ∉ S) (hN : ∀ k, k ∈ N' → k ∈ N ∨ w.heap.size ≤ k) : Its w' N' p dim L :=
  ⟨h.is.upd hu hS hp hN, h.ok, h.d1, h.d2, h.n⟩
theorem Its.below {w w' : World} {N : List Nat} {p : Nat} {dim : Int} {L : List (List Int)} (h : Its w N p dim L) (hu : Below w.heap.size w w') : Its w' N p dim L := ⟨h.is.below hu, h.ok, h.d1, h.d2, h.n⟩
theorem Its.flat {w : World} {N : List Nat} {p : Nat} {dim : Int} {L : List (List Int)} (h : Its w N p dim L) : (L.flatten.length : Int) = L.length * dim := flat_dim L (fun x hx => (Bd21.vec (h.ok x hx)).2.1)
theorem Its.len_calls {w : World} {N : List Nat} {p : Nat} {dim : Int} {L : List (List Int)} (h : Its w N p dim L) :
    Calls Try.prog 30 #[.pointer (some ⟨p, 0, none⟩)] w fun e w' => e = .returned (.int .i64 (L.length : Int)) ∧ ∃ m, w' = w.drewN m := Go.Proofs.Ytglghgjbnoldaaa.len_calls w N p dim L.flatten L.length h.is h.d1 h.flat

set_option maxHeartbeats 2000000 in
set_option maxRecDepth 100000 in
theorem row_calls_in (w : World) (N : List Nat) (p : Nat) (dim : Int) (L : List (List Int)) (k : Nat) (x : List Int) (h : Its w N p dim L) (hx : L[k]? = some x) :
    Calls Try.prog 38 #[.pointer (some ⟨p, 0, none⟩), .int .i64 (k : Int)] w fun e w' => ∃ v, e = .returned v ∧ (∃ m, w' = w.drewN m) ∧ (Kd.int .i32).slice.At N w' [v] x := by
  have hk := (List.getElem?_eq_some_iff.1 hx).1
  have HL := Lib.hid h.len_calls
  obtain ⟨v, h1, h2⟩ := h.is.out
  obtain ⟨ao, cap, rfl, hl, hcap⟩ := Kd.slice_form h2
  have hn := h.n
  have hd1 := h.d1
  have hd2 := h.d2
  obtain ⟨d, rfl⟩ : ∃ d : Nat, dim = (d : Int) := ⟨dim.toNat, by omega⟩
  have hfl : L.flatten.length = L.length * d := by have := h.flat; exact_mod_cast this
  have hkd : k * d + d ≤ L.flatten.length := by
    rw [hfl]
    have : (k + 1) * d ≤ L.length * d := Nat.mul_le_mul_right _ (by omega)
    rw [Nat.add_mul] at this; omega
  have hbig : L.flatten.length ≤ 1073741824 := by
    rw [hfl]
    have : L.length * d ≤ 1048576 * 1024 := Nat.mul_le_mul hn (by omega)
    omega
  have hrow := row_slice L k x (fun y hy => by have := (Bd21.vec (h.ok y hy)).2.1; exact_mod_cast this) hx
  have hcut := (Kd.slice_take (Kd.slice_drop h2 (k := k * d) (by omega)) (k := d) (by rw [List.length_drop]; omega))
  rw [hrow, if_neg (by omega)] at hcut
  simp only [show (Kd.int .i32).sz = 1 from rfl, Nat.mul_one] at hcut
  have HCUT := Lib.hid hcut
  have c0 : w.cell? ⟨p, 0, none⟩ = some (.int .i64 (d : Int)) := by rw [cell_of_block h1]; rfl
  have c1 : w.cell? ⟨p, 1, none⟩ = some (.slice ao L.flatten.length cap) := by rw [cell_of_block h1]; rfl
  have hw1 : IntKind.i64.wrap ((k : Int) * (d : Int)) = ((k * d : Nat) : Int) := by
    rw [show (k : Int) * (d : Int) = ((k * d : Nat) : Int) by push_cast; rfl]
    exact IntWalk.i64_in _ ⟨by omega, by omega⟩
  have hw2 : IntKind.i64.wrap (((k : Int) + 1) * (d : Int)) = ((k * d + d : Nat) : Int) := by
    rw [show ((k : Int) + 1) * (d : Int) = ((k * d + d : Nat) : Int) by push_cast; rw [Int.add_mul]; simp]
    exact IntWalk.i64_in _ ⟨by omega, by omega⟩
  have hw3 : IntKind.i64.wrap ((k : Int) + 1) = (k : Int) + 1 := IntWalk.i64_in _ ⟨by omega, by omega⟩
  generalize L.flatten.length = F at *
  obtain ⟨A, hA⟩ : ∃ A, k * d = A := ⟨_, rfl⟩
  rw [hA] at hw1 hw2 HCUT hkd
  have i0 : (0 : Int) ≤ (k : Int) := by omega
  have i1 : (k : Int) < (L.length : Int) := by omega
  have i2 : (L.length : Int) ≤ (1048576 : Int) := by omega
  generalize L.length = NL at *
  have j0 : (0 : Int) ≤ (A : Int) := by omega
  have j1 : (A : Int) ≤ (A : Int) + (d : Int) := by omega
  have j2 : (A : Int) + (d : Int) ≤ (cap : Int) := by omega
  have j3 : (0 : Int) ≤ (A : Int) + (d : Int) := by omega
  clear h h2 hl hx hrow hcut hfl hA
  go_enter Try.func38, Try.ntmps38
  go_wp2_with fail
  refine HL.out.mono ?_
  rintro e w1 ⟨rfl, m, rfl⟩
  clear HL
  go_wp2_with fail
  go_quiet (fail)
  go_wp2_with fail
  go_ret
  refine ⟨_, rfl, ⟨m + nq, by simp⟩, ?_⟩
  rw [Nat.add_sub_cancel_left]
  exact HCUT.out.upd ((Upd.drewN [] w m).trans (Upd.drewN [] _ nq)) (by simp) (fun k hk => .inl hk)

theorem row_calls_out (w : World) (N : List Nat) (p : Nat) (dim : Int) (L : List (List Int)) (k : Int) (h : Its w N p dim L) (hk : k < 0 ∨ (L.length : Int) ≤ k) :
    Calls Try.prog 38 #[.pointer (some ⟨p, 0, none⟩), .int .i64 k] w fun e w' => e = .returned (.slice none 0 0) ∧ ∃ m, w' = w.drewN m := by
  have HL := Lib.hid h.len_calls
  clear h
  by_cases h0 : k < 0
  · go_enter Try.func38, Try.ntmps38
    go_wp2_with fail
    go_ret
    exact ⟨rfl, 0, rfl⟩
  · have h1 : (L.length : Int) ≤ k := by omega
    clear hk
    go_enter Try.func38, Try.ntmps38
    go_wp2_with fail
    refine HL.out.mono ?_
    rintro e w1 ⟨rfl, m, rfl⟩
    go_wp2_with fail
    go_ret
    exact ⟨rfl, m, rfl⟩

/-- How far a vector is from what stands at a place, if something does. -/
def farAt (L : List (List Int)) (k : Int) (v : List Int) : Int := if k < 0 then 0 else match L[k.toNat]? with | some x => farI x v | none => 0

theorem items_far_calls (w : World) (N : List Nat) (p : Nat) (dim : Int) (L : List (List Int)) (k : Int) (vv : Value) (v : List Int) (h : Its w N p dim L) (hv : (Kd.int .i32).slice.At N w [vv] v) :
    Calls Try.prog 20 #[.pointer (some ⟨p, 0, none⟩), .int .i64 k, vv] w fun e w' => e = .returned (.int .i64 (farAt L k v)) ∧ ∃ m, w' = w.drewN m := by
  obtain ⟨av, cv, rfl, _, _⟩ := Kd.slice_form hv
  have HV := Lib.hid hv
  by_cases hk : k < 0 ∨ (L.length : Int) ≤ k
  · have HR := Lib.hid (row_calls_out w N p dim L k h hk)
    have hf : farAt L k v = 0 := by
      unfold farAt
      split
      · rfl
      · rw [List.getElem?_eq_none (by omega)]
    rw [hf]
    clear hk h hf hv
    go_enter Try.func20, Try.ntmps20
    go_wp2_with fail
    refine HR.out.mono ?_
    rintro e w1 ⟨rfl, m, rfl⟩
    have HF := Lib.hid (vec_far_calls (.slice none 0 0) (.slice av v.length cv) [] v N (w.drewN m) (Kd.slice_nil _ _ _ none 0 (by simp [maxLen])) (HV.out.upd (Upd.drewN [] w m) (by simp) (fun k hk => .inl hk)))
    go_wp2_with fail
    refine HF.out.mono ?_
    rintro e w2 ⟨rfl, n, rfl⟩
    go_wp2_with fail
    go_ret
    exact ⟨by simp [farI, farGo], m + n, by simp⟩
  · obtain ⟨j, rfl⟩ : ∃ j : Nat, k = (j : Int) := ⟨k.toNat, by omega⟩
    obtain ⟨x, hx⟩ : ∃ x, L[j]? = some x := ⟨_, List.getElem?_eq_getElem (by omega)⟩
    have HR := Lib.hid (row_calls_in w N p dim L j x h hx)
    have hf : farAt L j v = farI x v := by
      unfold farAt
      rw [if_neg (by omega)]
      simp [hx]
    rw [hf]
    clear hk h hf hx hv
    go_enter Try.func20, Try.ntmps20
    go_wp2_with fail
    refine HR.out.mono ?_
    rintro e w1 ⟨vr, rfl, ⟨m, rfl⟩, hr⟩
    obtain ⟨ar, cr, rfl, _, _⟩ := Kd.slice_form hr
    have HF := Lib.hid (vec_far_calls _ _ x v N (w.drewN m) hr (HV.out.upd (Upd.drewN [] w m) (by simp) (fun k hk => .inl hk)))
    clear hr
    go_wp2_with fail
    refine HF.out.mono ?_
    rintro e w2 ⟨rfl, n, rfl⟩
    go_wp2_with fail
    go_ret
    exact ⟨rfl, m + n, by simp⟩

/-! ### May it be ranked? -/
def exCheck (n : Nat) (dim : Int) (v : List Int) (k : Int) : Int := if n = 0 then 15 else if vecCheck v dim ≠ 0 then vecCheck v dim else if k < 0 ∨ 1048576 < k then 1 else 0

theorem exact_check_nil (vv : Value) (k : Int) (w : World) :
    Calls Try.prog 13 #[.pointer none, vv, .int .i64 k] w fun e w' => e = .returned (.int .i64 15) ∧ w = w' := by
  go_enter Try.func13, Try.ntmps13
  go_wp2_with fail
  go_ret
  exact ⟨rfl, rfl⟩

set_option maxHeartbeats 1000000 in
theorem exact_check_calls (w : World) (N : List Nat) (p : Nat) (dim : Int) (L : List (List Int)) (k : Int) (vv : Value) (v : List Int) (h : Its w N p dim L) (hv : (Kd.int .i32).slice.At N w [vv] v) :
    Calls Try.prog 13 #[.pointer (some ⟨p, 0, none⟩), vv, .int .i64 k] w fun e w' => e = .returned (.int .i64 (exCheck L.length dim v k)) ∧ ∃ m, w' = w.drewN m := by
  obtain ⟨av, cv, rfl, _, _⟩ := Kd.slice_form hv
  have HL := Lib.hid h.len_calls
  have HD := Lib.hid (fun m => dim_calls (w.drewN m) N p dim L.flatten (h.is.upd (Upd.drewN [] w m) (by simp) (by simp) (fun k hk => .inl hk)))
  have HV := Lib.hid (fun m => vec_check_calls _ v dim N (w.drewN m) (hv.upd (Upd.drewN [] w m) (by simp) (fun k hk => .inl hk)))
  obtain ⟨r, hr⟩ : ∃ r, exCheck L.length dim v k = r := ⟨_, rfl⟩
  rw [hr]
  have HR := Lib.hid hr
  obtain ⟨vc, hvc⟩ : ∃ r, vecCheck v dim = r := ⟨_, rfl⟩
  rw [hvc] at HV
  have HVC := Lib.hid hvc
  generalize L.length = n at *
  clear h hv hr hvc
  go_enter Try.func13, Try.ntmps13
  go_wp2_with fail
  refine HL.out.mono ?_
  rintro e w1 ⟨rfl, m, rfl⟩
  by_cases hn : n = 0
  · subst hn
    have hq : r = 15 := by rw [← HR.out]; simp [exCheck]
    subst hq
    go_wp2_with fail
    go_ret
    exact ⟨rfl, m, rfl⟩
  have hn1 : ((n : Int) == 0) = false := by rw [beq_eq_false_iff_ne]; omega
  have HD1 := Lib.hid (HD.out m)
  go_wp2_with fail
  refine HD1.out.mono ?_
  rintro e w1 ⟨rfl, rfl⟩
  have HV1 := Lib.hid (HV.out m)
  go_wp2_with fail
  refine HV1.out.mono ?_
  rintro e w1 ⟨rfl, rfl⟩
  by_cases hc : vc = 0
  case' neg =>
    have hq : r = vc := by rw [← HR.out]; simp only [exCheck]; rw [if_neg hn, HVC.out, if_pos hc]
    subst hq
    have hc1 : (r != 0) = true := by simpa using hc
    go_wp2_with fail
    go_ret
    exact ⟨rfl, m, rfl⟩
  subst hc
  have hq : r = if k < 0 ∨ 1048576 < k then 1 else 0 := by rw [← HR.out]; simp only [exCheck]; rw [if_neg hn, HVC.out, if_neg (by simp)]
  have HQ := Lib.hid hq
  clear hq
  by_cases h0 : k < 0
  · have hq := HQ.out
    rw [if_pos (.inl h0)] at hq
    subst hq
    go_wp2_with fail
    go_ret
    exact ⟨rfl, m, rfl⟩
  · by_cases h1 : 1048576 < k
    · have hq := HQ.out
      rw [if_pos (.inr h1)] at hq
      subst hq
      go_wp2_with fail
      go_ret
      exact ⟨rfl, m, rfl⟩
    · have hq := HQ.out
      rw [if_neg (by omega)] at hq
      subst hq
      go_wp2_with fail
      go_ret
      exact ⟨rfl, m, rfl⟩

set_option maxHeartbeats 1000000 in
theorem ref22_check_calls (w : World) (N : List Nat) (dim : Int) (lv : Value) (L : List (List Int)) (k : Int) (vv : Value) (v : List Int) (h : (Kd.int .i32).slice.slice.At N w [lv] L) (hv : (Kd.int .i32).slice.At N w [vv] v) :
    Calls Try.prog 12 #[lv, .int .i64 dim, vv, .int .i64 k] w fun e w' => e = .returned (.int .i64 (exCheck L.length dim v k)) ∧ w = w' := by
  obtain ⟨al, cl, rfl, hl1, hl2⟩ := Kd.slice_form h
  have HV := Lib.hid (ref03_check_calls _ v dim N w hv)
  obtain ⟨av, cv, rfl, _, _⟩ := Kd.slice_form hv
  obtain ⟨r, hr⟩ : ∃ r, exCheck L.length dim v k = r := ⟨_, rfl⟩
  rw [hr]
  have HR := Lib.hid hr
  obtain ⟨vc, hvc⟩ : ∃ r, vecCheck v dim = r := ⟨_, rfl⟩
  rw [hvc] at HV
  have HVC := Lib.hid hvc
  generalize L.length = n at *
  clear h hv hr hvc
  by_cases hn : n = 0
  · subst hn
    have hq : r = 15 := by rw [← HR.out]; simp [exCheck]
    subst hq
    go_enter Try.func12, Try.ntmps12
    go_wp2_with fail
    go_ret
    exact ⟨rfl, rfl⟩
  have hn1 : ((n : Int) == 0) = false := by rw [beq_eq_false_iff_ne]; omega
  go_enter Try.func12, Try.ntmps12
  go_wp2_with fail
  refine HV.out.mono ?_
  rintro e w1 ⟨rfl, rfl⟩
  by_cases hc : vc = 0
  case' neg =>
    have hq : r = vc := by rw [← HR.out]; simp only [exCheck]; rw [if_neg hn, HVC.out, if_pos hc]
    subst hq
    have hc1 : (r != 0) = true := by simpa using hc
    go_wp2_with fail
    go_ret
    exact ⟨rfl, rfl⟩
  subst hc
  have hq : r = if k < 0 ∨ 1048576 < k then 1 else 0 := by rw [← HR.out]; simp only [exCheck]; rw [if_neg hn, HVC.out, if_neg (by simp)]
  have HQ := Lib.hid hq
  clear hq
  by_cases h0 : k < 0
  · have hq := HQ.out
    rw [if_pos (.inl h0)] at hq
    subst hq
    go_wp2_with fail
    go_ret
    exact ⟨rfl, rfl⟩
  · by_cases h1 : 1048576 < k
    · have hq := HQ.out
      rw [if_pos (.inr h1)] at hq
      subst hq
      go_wp2_with fail
      go_ret
      exact ⟨rfl, rfl⟩
    · have hq := HQ.out
      rw [if_neg (by omega)] at hq
      subst hq
      go_wp2_with fail
      go_ret
      exact ⟨rfl, rfl⟩

end Go.Proofs.Ytglghgjbnoldaaa
