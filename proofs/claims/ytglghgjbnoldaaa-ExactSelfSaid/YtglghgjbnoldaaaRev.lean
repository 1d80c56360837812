/-
slices.Reverse of entries; heap.Drain.
-/
import Derived.Test.YtglghgjbnoldaaaList
namespace Go.Proofs.Ytglghgjbnoldaaa.E3
set_option linter.unusedVariables false
set_option linter.unusedSimpArgs false
open Go.RowKit Go.Proofs.Ytglghgjbnoldaaa

/-- The first i, and the last i, have changed places. -/
structure Rev (l l' : List Tk) (i : Nat) : Prop where
  len : l'.length = l.length
  at_ : ∀ k, k < l.length → l'[k]? = if k < i ∨ l.length - i ≤ k then l[l.length - 1 - k]? else l[k]?
theorem Rev.start (l : List Tk) : Rev l l 0 := ⟨rfl, fun k hk => by rw [if_neg (by omega)]⟩
theorem Rev.done {l l' : List Tk} {i : Nat} (h : Rev l l' i) (hi : l.length ≤ 2 * i + 1) : l' = l.reverse := by
  apply List.ext_getElem?
  intro k
  by_cases hk : k < l.length
  · rw [h.at_ k hk, List.getElem?_reverse hk]
    split
    · rfl
    · have : l.length - 1 - k = k := by omega
      rw [this]
  · rw [List.getElem?_eq_none (by rw [h.len]; omega), List.getElem?_eq_none (by simp; omega)]
theorem Rev.step {l l' : List Tk} {i : Nat} (h : Rev l l' i) (hi : 2 * i + 1 < l.length) {xi xj : Tk} (h1 : l'[i]? = some xi) (h2 : l'[l.length - 1 - i]? = some xj) : Rev l (swp tk0 l' i (l.length - 1 - i)) (i + 1) := by
  refine ⟨by rw [swp_len]; exact h.len, fun k hk => ?_⟩
  rw [swp_get tk0 h1 h2]
  have e1 := h.at_ i (by omega)
  have e2 := h.at_ (l.length - 1 - i) (by omega)
  rw [if_neg (by omega), h1] at e1
  rw [if_neg (by omega), h2] at e2
  by_cases hkj : k = l.length - 1 - i
  · rw [if_pos hkj, if_pos (by omega), show l.length - 1 - k = i by omega, e1]
  · rw [if_neg hkj]
    by_cases hki : k = i
    · rw [if_pos hki, if_pos (by omega), hki, e2]
    · rw [if_neg hki, h.at_ k hk]
      by_cases hc : k < i ∨ l.length - i ≤ k
      · rw [if_pos hc, if_pos (by omega)]
      · rw [if_neg hc, if_neg (by omega)]

set_option maxHeartbeats 4000000 in
set_option maxRecDepth 100000 in
theorem reverse_calls (g cap : Nat) (l : List Tk) (w : World) (H : FBlock tkE 108 w g cap l) (hlen : l.length ≤ 1048576) :
    Calls Try.prog 73 #[.slice (some ⟨g, 0, none⟩) l.length cap] w fun e w' => e = .returned (.tuple #[]) ∧ FBlock tkE 108 w' g cap l.reverse ∧ Upd [g] w w' := by
  have HH := Lib.hid H
  have hcap : l.length ≤ cap ∧ cap ≤ maxLen := by obtain ⟨_, _, _, h3, h4, _⟩ := H.out; exact ⟨h3, h4⟩
  obtain ⟨hc1, hc2⟩ := hcap
  unfold maxLen at hc2
  obtain ⟨N, hN⟩ : ∃ N, l.length = N := ⟨_, rfl⟩
  have HN := Lib.hid hN
  rw [hN] at hlen hc1 ⊢
  clear H hN
  go_enter Try.func73, Try.ntmps73
  go_wp2_with fail
  go_loopw [2, 3] (fun iv jv wr => ∃ (i : Nat) (l' : List Tk), iv = .int .i64 (i : Int) ∧ jv = .int .i64 ((N : Int) - 1 - (i : Int)) ∧ i ≤ 1048576 ∧ Hid (Rev l l' i) ∧ Hid (FBlock tkE 108 wr g cap l') ∧ Hid (Upd [g] w wr)) (fun iv _ _ => 1048577 - (intOf iv).toNat)
  case atStart => exact ⟨0, l, rfl, by go_num, by omega, Lib.hid (Rev.start l), HH, Lib.hid (Upd.refl _ _)⟩
  case round =>
    obtain ⟨i, l', rfl, rfl, hi0, hrev, hfb, hu⟩ := hrel
    have hl' : l'.length = N := by rw [hrev.out.len]; exact HN.out
    by_cases hlt : (i : Int) < (N : Int) - 1 - (i : Int)
    · obtain ⟨j, hj⟩ : ∃ j : Nat, (N : Int) - 1 - (i : Int) = (j : Int) := ⟨N - 1 - i, by omega⟩
      have HJ := Lib.hid (show j = N - 1 - i by omega)
      obtain ⟨xi, hxi⟩ : ∃ y, l'[i]? = some y := ⟨_, List.getElem?_eq_getElem (by omega)⟩
      obtain ⟨xj, hxj⟩ : ∃ y, l'[j]? = some y := ⟨_, List.getElem?_eq_getElem (by omega)⟩
      obtain ⟨oki, cm⟩ := hfb.out.cell hxi
      obtain ⟨okj, cu⟩ := hfb.out.cell hxj
      have ck0 : wr.cell? ⟨g, i * 3, none⟩ = some (.int .i64 xi.id) := cm 0 _ rfl
      have ck1 : wr.cell? ⟨g, i * 3 + 1, none⟩ = some (.int .i64 xi.far) := cm 1 _ rfl
      have ck2 : wr.cell? ⟨g, i * 3 + 2, none⟩ = some (.int .i64 xi.at_) := cm 2 _ rfl
      have cu0 : wr.cell? ⟨g, j * 3, none⟩ = some (.int .i64 xj.id) := cu 0 _ rfl
      have cu1 : wr.cell? ⟨g, j * 3 + 1, none⟩ = some (.int .i64 xj.far) := cu 1 _ rfl
      have cu2 : wr.cell? ⟨g, j * 3 + 2, none⟩ = some (.int .i64 xj.at_) := cu 2 _ rfl
      have fz := fun o => hfb.out.frozen o
      have z0 := fz (i * 3)
      have z1 := fz (i * 3 + 1)
      have z2 := fz (i * 3 + 2)
      have y0 := fz (j * 3)
      have y1 := fz (j * 3 + 1)
      have y2 := fz (j * 3 + 2)
      have HRV : Hid (Rev l (swp tk0 l' i j) (i + 1)) := Lib.hid (by
        have hjj : j = l.length - 1 - i := by rw [HN.out]; exact HJ.out
        have := hrev.out.step (by rw [HN.out]; omega) hxi (by rw [← hjj]; exact hxj)
        rwa [← hjj] at this)
      have SB := Lib.hid (swap_fblock hfb.out hxi hxj (by omega))
      have p0 : (0 : Int) ≤ (i : Int) := by omega
      have p1 : (i : Int) < (N : Int) := by omega
      have p2 : (0 : Int) ≤ (j : Int) := by omega
      have p3 : (j : Int) < (N : Int) := by omega
      have p4 : (i : Int) < (j : Int) := by omega
      have p5 : i < j := by omega
      rw [hj]
      clear fz cm cu hxi hxj oki okj hl' hrev
      go_wp2_with fail
      go_region
      go_wp2_with fail
      go_roundw
      case rel =>
        have hsw : Upd [g] wr _ := (((((Upd.setCell (S := [g]) (w := wr) (p := ⟨g, i * 3, none⟩) (by simp) (.int .i64 xj.id)).trans (Upd.setCell (p := ⟨g, i * 3 + 1, none⟩) (by simp) (.int .i64 xj.far))).trans (Upd.setCell (p := ⟨g, i * 3 + 2, none⟩) (by simp) (.int .i64 xj.at_))).trans
          (Upd.setCell (p := ⟨g, j * 3, none⟩) (by simp) (.int .i64 xi.id))).trans (Upd.setCell (p := ⟨g, j * 3 + 1, none⟩) (by simp) (.int .i64 xi.far))).trans (Upd.setCell (p := ⟨g, j * 3 + 2, none⟩) (by simp) (.int .i64 xi.at_))
        exact ⟨i + 1, swp tk0 l' i j, by go_num, by congr 1; omega, by omega, HRV, Lib.hid (SB.out.upd (Upd.drew [] _) (by simp)), Lib.hid (hu.out.trans (hsw.trans (Upd.drew _ _)))⟩
      case measure => simp [intOf]; omega
    · have HRD : Hid (l' = l.reverse) := Lib.hid (hrev.out.done (by rw [HN.out]; omega))
      go_wp2_with fail
      go_end0
      refine ⟨rfl, ?_, hu.out⟩
      rw [← HRD.out]
      exact hfb.out

theorem reverse_none (ao : Option Addr) (cap : Nat) (w : World) (hc : cap ≤ maxLen) :
    Calls Try.prog 73 #[.slice ao 0 cap] w fun e w' => e = .returned (.tuple #[]) ∧ w = w' := by
  unfold maxLen at hc
  go_enter Try.func73, Try.ntmps73
  go_wp2_with fail
  go_loopw [2, 3] (fun iv jv wr => iv = .int .i64 0 ∧ jv = .int .i64 (-1) ∧ wr = w) (fun _ _ _ => 0)
  case atStart => exact ⟨rfl, rfl, rfl⟩
  case round =>
    obtain ⟨rfl, rfl, rfl⟩ := hrel
    go_wp2_with fail
    go_end0
    exact ⟨rfl, rfl⟩

theorem drain_calls (h : Nat) (w : World) :
    Calls Try.prog 72 #[.pointer (some ⟨h, 0, none⟩)] w fun e w' => ∃ bx, e = .returned (.func (.func 85) #[] #[.pointer (some ⟨bx, 0, none⟩)]) ∧ w.heap.size ≤ bx ∧
      w'.heap[bx]? = some (.cells #[.pointer (some ⟨h, 0, none⟩)] 103) ∧ Below w.heap.size w w' := by
  have HB := Lib.hid (fun o => (Below.refl _ w).alloc (Nat.le_refl _) o)
  go_enter Try.func72, Try.ntmps72
  go_wp2_with fail
  go_ret
  exact ⟨_, rfl, Nat.le_refl _, Go.heap_alloc_new w _, HB.out _⟩

end Go.Proofs.Ytglghgjbnoldaaa.E3
