/-
The document's list equalities: ref09.Same, ref03.Same.
-/
import Derived.Test.YtglghgjbnoldaaaPlain
namespace Go.Proofs.Ytglghgjbnoldaaa
set_option linter.unusedVariables false
set_option linter.unusedSimpArgs false
open Go.RowKit

set_option maxHeartbeats 1000000 in
theorem ref03_same_calls (v1 v2 : Value) (a b : List Int) (M : List Nat) (w : World) (h1 : (Kd.int .i32).slice.At M w [v1] a) (h2 : (Kd.int .i32).slice.At M w [v2] b) :
    Calls Try.prog 21 #[v1, v2] w fun e w' => e = .returned (.bool (a == b)) ∧ ∃ n, w' = w.drewN n := by
  obtain ⟨ao1, cap1, rfl, hl1, hcap1⟩ := Kd.slice_form h1
  obtain ⟨ao2, cap2, rfl, hl2, hcap2⟩ := Kd.slice_form h2
  have H1 := Lib.hid h1
  have H2 := Lib.hid h2
  clear h1 h2
  unfold maxLen at hcap1 hcap2
  by_cases hlen : a.length = b.length
  · have hb : ((a.length : Int) != (b.length : Int)) = false := by simp [hlen]
    have HLEN := Lib.hid hlen
    clear hlen
    go_enter Try.func21, Try.ntmps21
    go_wp2
    go_loopw [5] (fun i wr => ∃ k : Nat, k ≤ a.length ∧ i = .int .i64 k ∧ Hid (a.take k = b.take k) ∧ Hid (∃ n, wr = w.drewN n)) (fun i _ => a.length - (intOf i).toNat)
    case atStart => exact ⟨0, Nat.zero_le _, rfl, by show ([] : List Int) = []; rfl, ⟨0, rfl⟩⟩
    case round =>
      obtain ⟨k, hk, rfl, hq, hw⟩ := hrel
      by_cases hlt : k < a.length
      · obtain ⟨x, hx⟩ : ∃ x, a[k]? = some x := ⟨_, List.getElem?_eq_getElem hlt⟩
        obtain ⟨y, hy⟩ : ∃ y, b[k]? = some y := ⟨_, List.getElem?_eq_getElem (by have := HLEN.out; omega)⟩
        obtain ⟨nn, rfl⟩ := hw
        obtain ⟨b1, o1, c1, hv1, _, _, _, _, g1, _⟩ := ints_at H1.out hx
        obtain ⟨b2, o2, c2, hv2, _, _, _, _, g2, _⟩ := ints_at H2.out hy
        simp at hv1 hv2
        obtain ⟨rfl, rfl⟩ := hv1
        obtain ⟨rfl, rfl⟩ := hv2
        have HX := Lib.hid hx
        have HY := Lib.hid hy
        clear hx hy
        have hlt2 : k < b.length := by have := HLEN.out; omega
        have hi1 : (k : Int) < (a.length : Int) := by omega
        have hi2 : (k : Int) < (b.length : Int) := by omega
        have hi0 : (0 : Int) ≤ (k : Int) := by omega
        go_wp2
        go_quiet (fail)
        go_wp2
        · go_ret
          rw [ints_ne HX.out HY.out (by assumption)]
          exact ⟨rfl, _, World.drewN_drewN ..⟩
        · go_roundw
          case rel => exact ⟨k + 1, by omega, by go_num, ints_step HX.out HY.out hq (by assumption), by first | exact ⟨_, rfl⟩ | exact ⟨_, World.drewN_drewN ..⟩⟩
          case measure => simp [intOf]; omega
      · obtain ⟨nn, rfl⟩ := hw
        have e : (a == b) = true := by
          have h1 : a.take k = a := List.take_of_length_le (by omega)
          have h2 : b.take k = b := List.take_of_length_le (by have := HLEN.out; omega)
          have := hq.out
          rw [h1, h2] at this
          simp [this]
        have HE := Lib.hid e
        clear e
        go_wp2
        go_ret
        rw [HE.out]
        exact ⟨rfl, _, rfl⟩
  · have hb : ((a.length : Int) != (b.length : Int)) = true := by simp; omega
    have e : (a == b) = false := by rw [beq_eq_false_iff_ne]; rintro rfl; exact hlen rfl
    rw [e]
    clear hlen e
    go_enter Try.func21, Try.ntmps21
    go_wp2
    go_ret
    exact ⟨rfl, 0, rfl⟩

end Go.Proofs.Ytglghgjbnoldaaa
