/-
The document's answers: ref11.Check, ref14.Few, ref14.Leaves.
-/
import Derived.Test.YtfkmkhojedfccaaCheck
namespace Go.Proofs.Ytfkmkhojedfccaa
set_option linter.unusedVariables false
set_option linter.unusedSimpArgs false
open Go.RowKit

set_option maxHeartbeats 1000000 in
theorem ref11_check_calls (vn : Value) (o dim : Int) (a : List Int) (M : List Nat) (w : World) (h1 : (Kd.int .i32).slice.At M w [vn] a) :
    Calls Try.prog 83 #[.agg #[vn, .int .i64 o], .int .i64 dim] w fun e w' => e = .returned (.int .i64 (planeCheck ⟨a, o⟩ dim)) ∧ Below w.heap.size w w' := by
  obtain ⟨ao1, cap1, rfl, hl1, hcap1⟩ := Kd.slice_form h1
  have H1 := Lib.hid h1
  clear h1
  unfold maxLen at hcap1
  have hb := (Below.refl w.heap.size w).alloc (Nat.le_refl _) (.cells #[.slice ao1 a.length cap1, .int .i64 o] 24)
  have HB := Lib.hid hb
  clear hb
  by_cases hd : dim < 1 ∨ 1024 < dim
  · have e : planeCheck ⟨a, o⟩ dim = 1 := by unfold planeCheck; rw [if_pos hd]
    rw [e]
    rcases (show dim < 1 ∨ 1 ≤ dim ∧ 1024 < dim by omega) with hd | ⟨hd0, hd⟩
    all_goals
      go_enter Try.func83, Try.ntmps83
      go_wp2
      go_ret
      exact ⟨rfl, HB.out⟩
  · have hd1 : 1 ≤ dim := by omega
    have hd2 : dim ≤ 1024 := by omega
    by_cases hl : (a.length : Int) = dim
    · obtain rfl := hl
      have e : planeCheck ⟨a, o⟩ a.length = if a.any (fun x => decide (x < -2097152 ∨ 2097152 < x)) then 4 else if o < -9007199254740992 ∨ 9007199254740992 < o then 1 else 0 := by
        unfold planeCheck; rw [if_neg hd, if_neg (by simp)]
      generalize planeCheck ⟨a, o⟩ a.length = r at e ⊢
      have HE := Lib.hid e
      clear hd e
      have hne : ((a.length : Int) != (a.length : Int)) = false := by simp
      go_enter Try.func83, Try.ntmps83
      go_wp2
      go_loop [5] (fun i => ∃ k : Nat, k ≤ a.length ∧ i = .int .i64 k ∧ Hid ((a.take k).any (fun x => decide (x < -2097152 ∨ 2097152 < x)) = false)) (fun i => a.length - (intOf i).toNat)
      case atStart => exact ⟨0, Nat.zero_le _, rfl, rfl⟩
      case round =>
        obtain ⟨k, hk, rfl, hq⟩ := hrel
        by_cases hlt : k < a.length
        · obtain ⟨x, hx⟩ : ∃ x, a[k]? = some x := ⟨_, List.getElem?_eq_getElem hlt⟩
          obtain ⟨b1, o1, c1, hv1, _, _, _, _, g1, gw⟩ := ints_at (H1.out.below HB.out) hx
          simp at hv1
          obtain ⟨rfl, rfl⟩ := hv1
          obtain ⟨gw1, gw2⟩ := i32wf gw
          have HX := Lib.hid hx
          clear hx gw
          go_wp2
          · go_ret
            rw [HE.out, if_pos (any_at HX.out (by simp; omega))]
            exact ⟨rfl, HB.out⟩
          · go_round
            case rel => exact ⟨k + 1, by omega, by go_num, any_take HX.out hq (by simp; omega)⟩
            case measure => simp [intOf]; omega
          · go_ret
            rw [HE.out, if_pos (any_at HX.out (by simp; omega))]
            exact ⟨rfl, HB.out⟩
        · have e : a.take k = a := List.take_of_length_le (by omega)
          rw [e] at hq
          have HQ := Lib.hid hq.out
          clear e hq
          go_wp2
          · go_ret
            rw [HE.out, HQ.out, if_neg (by decide), if_pos (by omega)]
            exact ⟨rfl, HB.out⟩
          · go_ret
            rw [HE.out, HQ.out, if_neg (by decide), if_neg (by omega)]
            exact ⟨rfl, HB.out⟩
          · go_ret
            rw [HE.out, HQ.out, if_neg (by decide), if_pos (by omega)]
            exact ⟨rfl, HB.out⟩
    · have e : planeCheck ⟨a, o⟩ dim = 3 := by unfold planeCheck; rw [if_neg hd, if_pos hl]
      rw [e]
      clear hd e
      have hne : ((a.length : Int) != dim) = true := by simpa using hl
      clear hl
      go_enter Try.func83, Try.ntmps83
      go_wp2
      go_ret
      exact ⟨rfl, HB.out⟩


/-- What fits into memory. -/
def Nd.small (x : Nd) : Prop := x.ids.length ≤ 70368744177664 ∧ x.pl.normal.length ≤ 70368744177664

/-- Few: are nodes few, and short? (k: their number so far; n: how many numbers so far) -/
def fewGo : Nat → Nat → List Nd → Bool
  | _, _, [] => true
  | k, n, x :: l => if 5000 < n + x.ids.length + x.pl.normal.length ∨ 400 < k then false else fewGo (k + 1) (n + x.ids.length + x.pl.normal.length) l
def few (l : List Nd) : Bool := fewGo 0 0 l

set_option maxHeartbeats 1000000 in
theorem few_calls (v : Value) (l : List Nd) (M : List Nat) (w : World) (h : kNd.slice.At M w [v] l) (hs : ∀ x ∈ l, x.small) :
    Calls Try.prog 18 #[v] w fun e w' => e = .returned (.bool (few l)) ∧ ∃ n, w' = w.drewN n := by
  obtain ⟨ao, cap, rfl, hl, hcap⟩ := Kd.slice_form h
  have H := Lib.hid h
  have HS := Lib.hid hs
  clear h hs
  unfold maxLen at hcap
  obtain ⟨res, hres⟩ : ∃ r, few l = r := ⟨_, rfl⟩
  rw [hres]
  have HRES := Lib.hid hres
  clear hres
  go_enter Try.func18, Try.ntmps18
  go_wp2
  go_loopw [4, 3] (fun i s wr => ∃ (k n : Nat), k ≤ l.length ∧ k ≤ 401 ∧ n ≤ 5000 ∧ i = .int .i64 k ∧ s = .int .i64 n ∧ Hid (fewGo k n (l.drop k) = res) ∧ ∃ m, Hid (wr = w.drewN m)) (fun i _ _ => l.length - (intOf i).toNat)
  case atStart => exact ⟨0, 0, by omega, by omega, by omega, rfl, rfl, HRES.out, 0, rfl⟩
  case round =>
    obtain ⟨k, n, hk, hk4, hn5, rfl, rfl, hgo, m, hw⟩ := hrel
    by_cases hlt : k < l.length
    · obtain ⟨x, hx⟩ : ∃ x, l[k]? = some x := ⟨_, List.getElem?_eq_getElem hlt⟩
      have hd : kNd.slice.At M wr [.slice ao l.length cap] l := by rw [hw.out]; exact H.out.below (Upd.drewN [] w m).below
      obtain ⟨b, o, c, vi, vn, hv, hbs, _, _, _, hn, c0, c1, c2, c3, c4, c5⟩ := nds_at hd hx
      simp at hv
      obtain ⟨rfl, rfl⟩ := hv
      obtain ⟨ai, ci, rfl, hi1, hi2⟩ := slice_form' hn.ids
      obtain ⟨an, cn, rfl, hn1, hn2⟩ := slice_form' hn.normal
      obtain ⟨hs1, hs2⟩ := HS.out x (List.mem_of_getElem? hx)
      clear hi1 hi2 hn1 hn2
      have hxd : l.drop k = x :: l.drop (k + 1) := by rw [List.drop_eq_getElem_cons hlt, (List.getElem?_eq_some_iff.1 hx).2]
      rw [hxd] at hgo
      have hgo2 : (if 5000 < n + x.ids.length + x.pl.normal.length ∨ 400 < k then false else fewGo (k + 1) (n + x.ids.length + x.pl.normal.length) (l.drop (k + 1))) = res := hgo.out
      have HGO := Lib.hid hgo2
      clear hgo hgo2 hxd hd hn hx c0 c3 c4 c5
      go_wp2_with fail
      go_quiet (fail)
      have HW : Hid (wr.drewN nq = w.drewN (m + nq)) := by
        rw [hw.out]
        exact Lib.hid (by simp only [World.drewN_drewN])
      go_wp2_with fail
      · go_ret
        rw [← HGO.out, if_pos (by omega)]
        exact ⟨rfl, _, HW.out⟩
      · go_roundw
        case rel => exact ⟨k + 1, n + x.ids.length + x.pl.normal.length, by omega, by omega, by omega, by go_num, by go_num, by have := HGO.out; rw [if_neg (by omega)] at this; exact this, _, HW.out⟩
        case measure => simp [intOf]; omega
      · go_ret
        rw [← HGO.out, if_pos (by omega)]
        exact ⟨rfl, _, HW.out⟩
    · go_wp2_with fail
      go_ret
      have e : l.drop k = [] := List.drop_eq_nil_of_le (by omega)
      rw [e] at hgo
      rw [← hgo.out]
      exact ⟨rfl, _, hw.out⟩

/-- A kind of one cell each: pushed from a built row. -/
theorem A.infoInts : (Try.prog.info? 46).map (fun i => (i.zero, i.size, i.bytes)) = some (some (.slice none 0 0), 1, 24) := by kernel_rfl

set_option maxHeartbeats 1000000 in
theorem ref_leaves_calls (v : Value) (l : List Nd) (M : List Nat) (w : World) (h : kNd.slice.At M w [v] l) (hlen : l.length ≤ 1099511627776) :
    Calls Try.prog 50 #[v] w fun e w' => ∃ v', e = .returned v' ∧ Below w.heap.size w w' ∧ Row (Kd.int .i64).slice [] 46 w.heap.size w' v' (leavesOf l) := by
  obtain ⟨ao, cap, rfl, hl, hcap⟩ := Kd.slice_form h
  have H := Lib.hid h
  clear h
  unfold maxLen at hcap
  obtain ⟨i0, hi, hz0, hz1, hz2⟩ := info_parts A.infoInts
  have HI := Lib.hid hi
  have HZ0 := Lib.hid hz0
  have HZ1 := Lib.hid hz1
  have HZ2 := Lib.hid hz2
  clear hi hz0 hz1 hz2
  have hlv : ∀ k, (leavesOf (l.take k)).length ≤ l.length := fun k => by
    unfold leavesOf
    rw [List.length_map]
    exact Nat.le_trans (List.length_filter_le _ _) (by rw [List.length_take]; omega)
  have HLV := Lib.hid hlv
  clear hlv
  go_enter Try.func50, Try.ntmps50
  go_wp2
  go_loopw [4, 3] (fun i s wr => ∃ (k : Nat), k ≤ l.length ∧ i = .int .i64 k ∧ Hid (Row (Kd.int .i64).slice [] 46 w.heap.size wr s (leavesOf (l.take k))) ∧ Hid (Below w.heap.size w wr)) (fun i _ _ => l.length - (intOf i).toNat)
  case atStart => exact ⟨0, by omega, rfl, Row.nil _ _ _ _ _, Below.refl _ _⟩
  case round =>
    obtain ⟨k, hk, rfl, hrow, hw⟩ := hrel
    by_cases hlt : k < l.length
    · obtain ⟨x, hx⟩ : ∃ x, l[k]? = some x := ⟨_, List.getElem?_eq_getElem hlt⟩
      obtain ⟨b, o, c, vi, vn, hv, hbs, _, _, _, hn, c0, c1, c2, c3, c4, c5⟩ := nds_at (H.out.upd (Upd.ofBelow hw.out []) (by simp) (M' := ob _) (fun k hk => .inr (hrow.out.ob_lt k hk).1)) hx
      simp at hv
      obtain ⟨rfl, rfl⟩ := hv
      have htk : leavesOf (l.take (k + 1)) = if x.leaf then leavesOf (l.take k) ++ [x.ids] else leavesOf (l.take k) := by rw [take_snoc' hx, leavesOf_snoc]
      cases hleaf : x.leaf with
      | false =>
        rw [hleaf] at c0 htk
        simp only [Bool.false_eq_true, if_false] at htk
        have HTK := Lib.hid htk
        clear htk hleaf hx hn c1 c2 c3 c4 c5
        go_wp2_with fail
        go_roundw
        case rel => exact ⟨k + 1, by omega, by go_num, by rw [HTK.out]; exact hrow.out, hw.out⟩
        case measure => simp [intOf]; omega
      | true =>
        rw [hleaf] at c0 htk
        simp only [if_true] at htk
        have HTK := Lib.hid htk
        obtain ⟨ai, ci, rfl, _, _⟩ := slice_form' hn.ids
        obtain ⟨W1, hW1⟩ : ∃ W1, wr.alloc (.cells #[.slice ai x.ids.length ci] 46) = W1 := ⟨_, rfl⟩
        have hu1 : Upd [] wr W1 := by rw [← hW1]; exact Upd.alloc [] wr _
        have hz1 : W1.heap.size = wr.heap.size + 1 := by rw [← hW1]; simp
        have hby : W1.heap[wr.heap.size]? = some (.cells #[.slice ai x.ids.length ci] 46) := by rw [← hW1]; exact Go.heap_alloc_new wr _
        have hrow1 := hrow.out.upd hu1 (by simp) (by simp) (M' := []) (by simp)
        have hrowb := hrow.out.ob_lt
        have hll := HLV.out k
        obtain ⟨v', w', hrun, hrow2, hu2, hob⟩ := Row.push (P := Try.prog) (t := 102) (ty := 102) (c := 1) hrow1 Try.underlying102 HI.out HZ0.out HZ1.out HZ2.out rfl (by decide) (b := wr.heap.size) [.slice ai x.ids.length ci] x.ids
          (fun j u hj => by rw [cell_of_block hby]; simpa using hj) (hn.ids.upd hu1 (by simp) (fun k hk => .inl (by simpa using hk))) (by unfold maxLen; omega) (by omega) (by have := hw.out.size; omega)
        have hwf : Below w.heap.size w w' := hw.out.trans ((hu1.below.mono hw.out.size).trans (hu2.belowB (by have := hw.out.size; omega) (fun k hk => (hrowb k hk).1)))
        have HROW2 := Lib.hid hrow2
        rw [← hW1] at hrun
        have HRUN := Lib.hid hrun
        have HWF := Lib.hid hwf
        clear hrun hrow2 hu2 hob hrowb hwf hrow1 hby hz1 hu1 hW1 htk hleaf hx hn
        go_wp2_with (at_builtin; refine append_step rfl _ _ _ rfl rfl rfl HRUN.out ?_)
        go_roundw
        case rel => exact ⟨k + 1, by omega, by go_num, by rw [HTK.out]; exact HROW2.out, HWF.out⟩
        case measure => simp [intOf]; omega
    · go_wp2_with fail
      go_ret
      have e : l.take k = l := List.take_of_length_le (by omega)
      rw [e] at hrow
      exact ⟨_, rfl, hw.out, hrow.out⟩

end Go.Proofs.Ytfkmkhojedfccaa
