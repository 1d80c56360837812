/-
Contracts of small functions over slices of whole numbers: equality, copies, planes.
-/
import Derived.Test.YtfkmkhojedfccaaRows
import Derived.Test.YtfkmkhojedfccaaRange
import Derived.BigQuiet
import Derived.Deep.QuietTactic
namespace Go.Proofs.Ytfkmkhojedfccaa
set_option linter.unusedVariables false
set_option linter.unusedSimpArgs false
open Go.RowKit

theorem ints_at {k : IntKind} {M : List Nat} {w : World} {v : Value} {l : List Int} (h : (Kd.int k).slice.At M w [v] l) {i : Nat} {x : Int} (hx : l[i]? = some x) :
    ∃ b o cap, v = .slice (some ⟨b, o, none⟩) l.length cap ∧ b < w.heap.size ∧ b ∉ M ∧ l.length ≤ cap ∧ cap ≤ maxLen ∧ w.cell? ⟨b, o + i, none⟩ = some (.int k x) ∧ (Lit.int k x).wf = true := by
  obtain ⟨b, o, cap, h1, h2, h3, h4, h5, cs', hr, hc⟩ := Kd.slice_get h hx
  obtain ⟨rfl, hw⟩ := at_int hr
  exact ⟨b, o, cap, h1, h2, h3, h4, h5, by have := hc 0 _ rfl; simpa [Kd.int] using this, hw⟩
/-- Two lists, told element by element. -/
theorem ints_ne {a b : List Int} {k : Nat} {x y : Int} (hx : a[k]? = some x) (hy : b[k]? = some y) (h : (x != y) = true) : (a == b) = false := by
  rw [beq_eq_false_iff_ne]
  rintro rfl
  rw [hx] at hy
  cases hy
  simp at h
theorem ints_step {a b : List Int} {k : Nat} {x y : Int} (hx : a[k]? = some x) (hy : b[k]? = some y) (h : a.take k = b.take k) (he : (x != y) = false) : a.take (k + 1) = b.take (k + 1) := by
  have e : x = y := by simpa using he
  subst e
  rw [take_snoc' hx, take_snoc' hy, h]

set_option maxHeartbeats 1000000 in
theorem equal_int_calls (v1 v2 : Value) (a b : List Int) (M : List Nat) (w : World) (h1 : (Kd.int .i64).slice.At M w [v1] a) (h2 : (Kd.int .i64).slice.At M w [v2] b) :
    Calls Try.prog 53 #[v1, v2] w fun e w' => e = .returned (.bool (a == b)) ∧ ∃ n, w' = w.drewN n := by
  obtain ⟨ao1, cap1, rfl, hl1, hcap1⟩ := Kd.slice_form h1
  obtain ⟨ao2, cap2, rfl, hl2, hcap2⟩ := Kd.slice_form h2
  have H1 := Lib.hid h1
  have H2 := Lib.hid h2
  clear h1 h2
  unfold maxLen at hcap1 hcap2
  by_cases hlen : a.length = b.length
  · have hb : ((a.length : Int) != (b.length : Int)) = false := by simp [hlen]
    have HLEN := Lib.hid hlen
    clear hlen
    go_enter Try.func53, Try.ntmps53
    go_wp2
    go_loopw [13] (fun i wr => ∃ k : Nat, k ≤ a.length ∧ i = .int .i64 k ∧ Hid (a.take k = b.take k) ∧ Hid (∃ n, wr = w.drewN n)) (fun i _ => a.length - (intOf i).toNat)
    case atStart => exact ⟨0, Nat.zero_le _, rfl, by show ([] : List Int) = []; rfl, ⟨0, rfl⟩⟩
    case round =>
      obtain ⟨k, hk, rfl, hq, hw⟩ := hrel
      by_cases hlt : k < a.length
      · obtain ⟨x, hx⟩ : ∃ x, a[k]? = some x := ⟨_, List.getElem?_eq_getElem hlt⟩
        obtain ⟨y, hy⟩ : ∃ y, b[k]? = some y := ⟨_, List.getElem?_eq_getElem (by have := HLEN.out; omega)⟩
        obtain ⟨nn, rfl⟩ := hw
        obtain ⟨b1, o1, c1, hv1, _, _, _, _, g1, _⟩ := ints_at H1.out hx
        obtain ⟨b2, o2, c2, hv2, _, _, _, _, g2, _⟩ := ints_at H2.out hy
        simp at hv1 hv2
        obtain ⟨rfl, rfl⟩ := hv1
        obtain ⟨rfl, rfl⟩ := hv2
        have HX := Lib.hid hx
        have HY := Lib.hid hy
        clear hx hy
        have hlt2 : k < b.length := by have := HLEN.out; omega
        have hi1 : (k : Int) < (a.length : Int) := by omega
        have hi2 : (k : Int) < (b.length : Int) := by omega
        have hi0 : (0 : Int) ≤ (k : Int) := by omega
        go_wp2
        go_quiet (fail)
        go_wp2
        · go_ret
          rw [ints_ne HX.out HY.out (by assumption)]
          exact ⟨rfl, _, World.drewN_drewN ..⟩
        · go_roundw
          case rel => exact ⟨k + 1, by omega, by go_num, ints_step HX.out HY.out hq (by assumption), by first | exact ⟨_, rfl⟩ | exact ⟨_, World.drewN_drewN ..⟩⟩
          case measure => simp [intOf]; omega
      · obtain ⟨nn, rfl⟩ := hw
        have e : (a == b) = true := by
          have h1 : a.take k = a := List.take_of_length_le (by omega)
          have h2 : b.take k = b := List.take_of_length_le (by have := HLEN.out; omega)
          have := hq.out
          rw [h1, h2] at this
          simp [this]
        have HE := Lib.hid e
        clear e
        go_wp2
        go_ret
        rw [HE.out]
        exact ⟨rfl, _, rfl⟩
  · have hb : ((a.length : Int) != (b.length : Int)) = true := by simp; omega
    have e : (a == b) = false := by rw [beq_eq_false_iff_ne]; rintro rfl; exact hlen rfl
    rw [e]
    clear hlen e
    go_enter Try.func53, Try.ntmps53
    go_wp2
    go_ret
    exact ⟨rfl, 0, rfl⟩

set_option maxHeartbeats 1000000 in
theorem equal_int32_calls (v1 v2 : Value) (a b : List Int) (M : List Nat) (w : World) (h1 : (Kd.int .i32).slice.At M w [v1] a) (h2 : (Kd.int .i32).slice.At M w [v2] b) :
    Calls Try.prog 110 #[v1, v2] w fun e w' => e = .returned (.bool (a == b)) ∧ ∃ n, w' = w.drewN n := by
  obtain ⟨ao1, cap1, rfl, hl1, hcap1⟩ := Kd.slice_form h1
  obtain ⟨ao2, cap2, rfl, hl2, hcap2⟩ := Kd.slice_form h2
  have H1 := Lib.hid h1
  have H2 := Lib.hid h2
  clear h1 h2
  unfold maxLen at hcap1 hcap2
  by_cases hlen : a.length = b.length
  · have hb : ((a.length : Int) != (b.length : Int)) = false := by simp [hlen]
    have HLEN := Lib.hid hlen
    clear hlen
    go_enter Try.func110, Try.ntmps110
    go_wp2
    go_loopw [13] (fun i wr => ∃ k : Nat, k ≤ a.length ∧ i = .int .i64 k ∧ Hid (a.take k = b.take k) ∧ Hid (∃ n, wr = w.drewN n)) (fun i _ => a.length - (intOf i).toNat)
    case atStart => exact ⟨0, Nat.zero_le _, rfl, by show ([] : List Int) = []; rfl, ⟨0, rfl⟩⟩
    case round =>
      obtain ⟨k, hk, rfl, hq, hw⟩ := hrel
      by_cases hlt : k < a.length
      · obtain ⟨x, hx⟩ : ∃ x, a[k]? = some x := ⟨_, List.getElem?_eq_getElem hlt⟩
        obtain ⟨y, hy⟩ : ∃ y, b[k]? = some y := ⟨_, List.getElem?_eq_getElem (by have := HLEN.out; omega)⟩
        obtain ⟨nn, rfl⟩ := hw
        obtain ⟨b1, o1, c1, hv1, _, _, _, _, g1, _⟩ := ints_at H1.out hx
        obtain ⟨b2, o2, c2, hv2, _, _, _, _, g2, _⟩ := ints_at H2.out hy
        simp at hv1 hv2
        obtain ⟨rfl, rfl⟩ := hv1
        obtain ⟨rfl, rfl⟩ := hv2
        have HX := Lib.hid hx
        have HY := Lib.hid hy
        clear hx hy
        have hlt2 : k < b.length := by have := HLEN.out; omega
        have hi1 : (k : Int) < (a.length : Int) := by omega
        have hi2 : (k : Int) < (b.length : Int) := by omega
        have hi0 : (0 : Int) ≤ (k : Int) := by omega
        go_wp2
        go_quiet (fail)
        go_wp2
        · go_ret
          rw [ints_ne HX.out HY.out (by assumption)]
          exact ⟨rfl, _, World.drewN_drewN ..⟩
        · go_roundw
          case rel => exact ⟨k + 1, by omega, by go_num, ints_step HX.out HY.out hq (by assumption), by first | exact ⟨_, rfl⟩ | exact ⟨_, World.drewN_drewN ..⟩⟩
          case measure => simp [intOf]; omega
      · obtain ⟨nn, rfl⟩ := hw
        have e : (a == b) = true := by
          have h1 : a.take k = a := List.take_of_length_le (by omega)
          have h2 : b.take k = b := List.take_of_length_le (by have := HLEN.out; omega)
          have := hq.out
          rw [h1, h2] at this
          simp [this]
        have HE := Lib.hid e
        clear e
        go_wp2
        go_ret
        rw [HE.out]
        exact ⟨rfl, _, rfl⟩
  · have hb : ((a.length : Int) != (b.length : Int)) = true := by simp; omega
    have e : (a == b) = false := by rw [beq_eq_false_iff_ne]; rintro rfl; exact hlen rfl
    rw [e]
    clear hlen e
    go_enter Try.func110, Try.ntmps110
    go_wp2
    go_ret
    exact ⟨rfl, 0, rfl⟩

theorem vec_same_calls (v1 v2 : Value) (a b : List Int) (M : List Nat) (w : World) (h1 : (Kd.int .i32).slice.At M w [v1] a) (h2 : (Kd.int .i32).slice.At M w [v2] b) :
    Calls Try.prog 88 #[v1, v2] w fun e w' => e = .returned (.bool (a == b)) ∧ ∃ n, w' = w.drewN n := by
  have HC := Lib.hid (equal_int32_calls v1 v2 a b M w h1 h2)
  clear h1 h2
  go_enter Try.func88, Try.ntmps88
  go_wp2_with fail
  refine HC.out.mono ?_
  rintro e w' ⟨rfl, n, rfl⟩
  go_wp2_with fail
  go_ret
  exact ⟨rfl, n, rfl⟩

/-- A plane. -/
structure Pl where
  normal : List Int
  off : Int
  deriving DecidableEq

def kPl : Kd Pl where
  sz := 2
  rep F w cs x := ∃ vn, cs = [vn, .int .i64 x.off] ∧ (Kd.int .i32).slice.rep F w [vn] x.normal ∧ (Lit.int .i64 x.off).wf = true
  len h := by obtain ⟨vn, rfl, _⟩ := h; rfl
  one h := by
    obtain ⟨vn, rfl, h2, _⟩ := h
    intro v hv
    simp at hv
    rcases hv with rfl | rfl
    · exact (Kd.int .i32).slice.one h2 _ (by simp)
    · rfl
  mono h hF hw := by
    obtain ⟨vn, h1, h2, h3⟩ := h
    exact ⟨vn, h1, Kd.mono _ h2 hF hw, h3⟩
theorem pl_at {M : List Nat} {w : World} {cs : List Value} {x : Pl} (h : kPl.At M w cs x) : ∃ vn, cs = [vn, .int .i64 x.off] ∧ (Kd.int .i32).slice.At M w [vn] x.normal ∧ (Lit.int .i64 x.off).wf = true := by
  obtain ⟨vn, h1, h2, h3⟩ := h.out
  exact ⟨vn, h1, ⟨h2⟩, h3⟩
theorem pl_mk {M : List Nat} {w : World} {vn : Value} {n : List Int} {o : Int} (h : (Kd.int .i32).slice.At M w [vn] n) (ho : (Lit.int .i64 o).wf = true) : kPl.At M w [vn, .int .i64 o] ⟨n, o⟩ :=
  ⟨⟨vn, rfl, h.out, ho⟩⟩

theorem pl_beq (a b : Pl) : decide (a = b) = ((a.off == b.off) && (a.normal == b.normal)) := by
  rw [Bool.eq_iff_iff]
  cases a; cases b
  simp [and_comm]

set_option maxHeartbeats 1000000 in
theorem plane_same_calls (vn1 vn2 : Value) (o1 o2 : Int) (a b : List Int) (M : List Nat) (w : World) (h1 : (Kd.int .i32).slice.At M w [vn1] a) (h2 : (Kd.int .i32).slice.At M w [vn2] b) :
    Calls Try.prog 54 #[.agg #[vn1, .int .i64 o1], .agg #[vn2, .int .i64 o2]] w fun e w' => e = .returned (.bool ((o1 == o2) && (a == b))) ∧ Below w.heap.size w w' := by
  obtain ⟨ao1, cap1, rfl, hl1, hcap1⟩ := Kd.slice_form h1
  obtain ⟨ao2, cap2, rfl, hl2, hcap2⟩ := Kd.slice_form h2
  have H1 := Lib.hid h1
  have H2 := Lib.hid h2
  clear h1 h2
  cases ho : (o1 == o2) with
  | false =>
    go_enter Try.func54, Try.ntmps54
    go_wp2_with fail
    go_ret
    exact ⟨rfl, ((Below.refl _ _).alloc (Nat.le_refl _) _).alloc (by simp) _⟩
  | true =>
    go_enter Try.func54, Try.ntmps54
    go_wp2_with fail
    have hb := ((Below.refl w.heap.size w).alloc (Nat.le_refl _) (.cells #[.slice ao1 a.length cap1, .int .i64 o1] 24)).alloc (by simp) (.cells #[.slice ao2 b.length cap2, .int .i64 o2] 24)
    refine (vec_same_calls _ _ a b M _ (H1.out.below hb) (H2.out.below hb)).mono ?_
    rintro e w' ⟨rfl, n, rfl⟩
    have HB := Lib.hid hb
    clear hb
    go_wp2_with fail
    go_ret
    exact ⟨rfl, HB.out.trans ⟨rfl, rfl, rfl, Nat.le_refl _, fun _ _ => rfl⟩⟩

def planeCheck (p : Pl) (dim : Int) : Int :=
  if dim < 1 ∨ 1024 < dim then 1 else if (p.normal.length : Int) ≠ dim then 3 else if p.normal.any (fun x => decide (x < -2097152 ∨ 2097152 < x)) then 4 else if p.off < -9007199254740992 ∨ 9007199254740992 < p.off then 1 else 0

theorem i32wf {x : Int} (h : (Lit.int .i32 x).wf = true) : -2147483648 ≤ x ∧ x ≤ 2147483647 := by
  simp [Lit.wf, IntKind.min, IntKind.max, IntKind.signed, IntKind.bits] at h
  omega
theorem i64wf {i : Int} (h : (Lit.int .i64 i).wf = true) : -9223372036854775808 ≤ i ∧ i ≤ 9223372036854775807 := by
  simp [Lit.wf, IntKind.min, IntKind.max, IntKind.signed, IntKind.bits] at h
  omega
theorem any_take {α : Type} {p : α → Bool} {l : List α} {k : Nat} {x : α} (hx : l[k]? = some x) (h : (l.take k).any p = false) (he : p x = false) : (l.take (k + 1)).any p = false := by
  rw [take_snoc' hx, List.any_append, h]
  simp [he]
theorem any_at {α : Type} {p : α → Bool} {l : List α} {k : Nat} {x : α} (hx : l[k]? = some x) (he : p x = true) : l.any p = true :=
  List.any_eq_true.2 ⟨x, List.mem_of_getElem? hx, he⟩

set_option maxHeartbeats 1000000 in
theorem plane_check_calls (vn : Value) (o dim : Int) (a : List Int) (M : List Nat) (w : World) (h1 : (Kd.int .i32).slice.At M w [vn] a) :
    Calls Try.prog 73 #[.agg #[vn, .int .i64 o], .int .i64 dim] w fun e w' => e = .returned (.int .i64 (planeCheck ⟨a, o⟩ dim)) ∧ Below w.heap.size w w' := by
  obtain ⟨ao1, cap1, rfl, hl1, hcap1⟩ := Kd.slice_form h1
  have H1 := Lib.hid h1
  clear h1
  unfold maxLen at hcap1
  have hb := (Below.refl w.heap.size w).alloc (Nat.le_refl _) (.cells #[.slice ao1 a.length cap1, .int .i64 o] 24)
  have HB := Lib.hid hb
  clear hb
  by_cases hd : dim < 1 ∨ 1024 < dim
  · have e : planeCheck ⟨a, o⟩ dim = 1 := by unfold planeCheck; rw [if_pos hd]
    rw [e]
    rcases (show dim < 1 ∨ ¬ dim < 1 ∧ 1024 < dim by omega) with hd | ⟨hd0, hd⟩
    all_goals
      go_enter Try.func73, Try.ntmps73
      go_wp2
      go_ret
      exact ⟨rfl, HB.out⟩
  · have hd1 : 1 ≤ dim := by omega
    have hd2 : dim ≤ 1024 := by omega
    by_cases hl : (a.length : Int) = dim
    · obtain rfl := hl
      have e : planeCheck ⟨a, o⟩ a.length = if a.any (fun x => decide (x < -2097152 ∨ 2097152 < x)) then 4 else if o < -9007199254740992 ∨ 9007199254740992 < o then 1 else 0 := by
        unfold planeCheck; rw [if_neg hd, if_neg (by simp)]
      generalize planeCheck ⟨a, o⟩ a.length = r at e ⊢
      have HE := Lib.hid e
      clear hd e
      have hne : ((a.length : Int) != (a.length : Int)) = false := by simp
      go_enter Try.func73, Try.ntmps73
      go_wp2
      go_loop [19] (fun i => ∃ k : Nat, k ≤ a.length ∧ i = .int .i64 k ∧ Hid ((a.take k).any (fun x => decide (x < -2097152 ∨ 2097152 < x)) = false)) (fun i => a.length - (intOf i).toNat)
      case atStart => exact ⟨0, Nat.zero_le _, rfl, rfl⟩
      case round =>
        obtain ⟨k, hk, rfl, hq⟩ := hrel
        by_cases hlt : k < a.length
        · obtain ⟨x, hx⟩ : ∃ x, a[k]? = some x := ⟨_, List.getElem?_eq_getElem hlt⟩
          obtain ⟨b1, o1, c1, hv1, _, _, _, _, g1, gw⟩ := ints_at (H1.out.below HB.out) hx
          simp at hv1
          obtain ⟨rfl, rfl⟩ := hv1
          obtain ⟨gw1, gw2⟩ := i32wf gw
          have HX := Lib.hid hx
          clear hx gw
          go_wp2
          · go_ret
            rw [HE.out, if_pos (any_at HX.out (by simp; omega))]
            exact ⟨rfl, HB.out⟩
          · go_round
            case rel => exact ⟨k + 1, by omega, by go_num, any_take HX.out hq (by simp; omega)⟩
            case measure => simp [intOf]; omega
          · go_ret
            rw [HE.out, if_pos (any_at HX.out (by simp; omega))]
            exact ⟨rfl, HB.out⟩
        · have e : a.take k = a := List.take_of_length_le (by omega)
          rw [e] at hq
          have HQ := Lib.hid hq.out
          clear e hq
          go_wp2
          · go_ret
            rw [HE.out, HQ.out, if_neg (by decide), if_pos (by omega)]
            exact ⟨rfl, HB.out⟩
          · go_ret
            rw [HE.out, HQ.out, if_neg (by decide), if_neg (by omega)]
            exact ⟨rfl, HB.out⟩
          · go_ret
            rw [HE.out, HQ.out, if_neg (by decide), if_pos (by omega)]
            exact ⟨rfl, HB.out⟩
    · have e : planeCheck ⟨a, o⟩ dim = 3 := by unfold planeCheck; rw [if_neg hd, if_pos hl]
      rw [e]
      clear hd e
      have hne : ((a.length : Int) != dim) = true := by simpa using hl
      clear hl
      go_enter Try.func73, Try.ntmps73
      go_wp2
      go_ret
      exact ⟨rfl, HB.out⟩

end Go.Proofs.Ytfkmkhojedfccaa
