/-
Forests: the document's Few, Deepest, Check.
-/
import Derived.Test.YtiplifkbegmeiaaFo
namespace Go.Proofs.Ytiplifkbegmeiaa
set_option linter.unusedVariables false
set_option linter.unusedSimpArgs false
open Go.RowKit

structure Fo where
  dim : Int
  leaf : Int
  depth : Int
  L : List (List Int)
  T : List (List Nd)

def few16Go : Nat → List (List Nd) → Bool
  | _, [] => true
  | n, t :: T => if 600 < n + t.length then false else if few t = false then false else few16Go (n + t.length) T
def few16 (F : Fo) : Bool := if few10 F.L = false then false else if 300 < F.T.length then false else few16Go 0 F.T

structure FoAt (M : List Nat) (w : World) (vL vT : Value) (F : Fo) : Prop where
  L : (Kd.int .i32).slice.slice.At M w [vL] F.L
  T : kNd.slice.slice.At M w [vT] F.T
  w1 : (Lit.int .i64 F.dim).wf = true
  w2 : (Lit.int .i64 F.leaf).wf = true
  w3 : (Lit.int .i64 F.depth).wf = true
theorem FoAt.upd {M M' S : List Nat} {w w' : World} {vL vT : Value} {F : Fo} (h : FoAt M w vL vT F) (hu : Upd S w w') (hS : ∀ k, k ∈ S → k ∈ M) (hM : ∀ k, k ∈ M' → k ∈ M ∨ w.heap.size ≤ k) : FoAt M' w' vL vT F :=
  ⟨h.L.upd hu hS hM, h.T.upd hu hS hM, h.w1, h.w2, h.w3⟩
theorem FoAt.below {M : List Nat} {w w' : World} {vL vT : Value} {F : Fo} (h : FoAt M w vL vT F) (hu : Below w.heap.size w w') : FoAt M w' vL vT F := ⟨h.L.below hu, h.T.below hu, h.w1, h.w2, h.w3⟩
def foV (vL vT : Value) (F : Fo) : Value := .agg #[.int .i64 F.dim, .int .i64 F.leaf, .int .i64 F.depth, vL, vT]
def foObj (vL vT : Value) (F : Fo) : Obj := .cells #[.int .i64 F.dim, .int .i64 F.leaf, .int .i64 F.depth, vL, vT] 25

structure Fo.small (F : Fo) : Prop where
  L : ∀ x ∈ F.L, x.length ≤ 70368744177664
  T : ∀ t ∈ F.T, t.length ≤ 70368744177664 ∧ ∀ x ∈ t, x.small

/-- A tree that fits. -/
structure TSmall (t : List Nd) : Prop where
  len : t.length ≤ 1099511627776
  flat : (leavesOf t).flatten.length ≤ 1099511627776
  ids : ∀ x ∈ t, x.ids.length ≤ 1099511627776
theorem few_tsmall {t : List Nd} (h : few t = true) : TSmall t := by
  obtain ⟨f1, f2, f3⟩ := few_go t 0 0 h
  refine ⟨by rcases f1 with rfl | f1 <;> simp_all <;> omega, by simp only [ite_self] at f2; omega, fun x hx => by have := f3 x hx; omega⟩
theorem few16_go : ∀ (T : List (List Nd)) (n : Nat), few16Go n T = true → (T = [] ∨ n + T.flatten.length ≤ 600) ∧ ∀ t ∈ T, few t = true
  | [], n, _ => by simp
  | t :: T, n, h => by
    unfold few16Go at h
    split at h
    · simp at h
    · rename_i hc
      split at h
      · simp at h
      · rename_i hf
        obtain ⟨h1, h2⟩ := few16_go T _ h
        refine ⟨.inr ?_, fun t' ht' => ?_⟩
        · rcases h1 with rfl | h1
          · simp; omega
          · simp at h1 ⊢; omega
        · rcases List.mem_cons.1 ht' with rfl | ht'
          · simpa using hf
          · exact h2 _ ht'
theorem few16_ok {F : Fo} (h : few16 F = true) : F.L.length ≤ 301 ∧ F.L.flatten.length ≤ 6000 ∧ F.T.length ≤ 300 ∧ F.T.flatten.length ≤ 600 ∧ (∀ t ∈ F.T, few t = true) ∧ ∀ t ∈ F.T, TSmall t := by
  unfold few16 at h
  split at h
  · simp at h
  · rename_i h1
    split at h
    · simp at h
    · rename_i h2
      obtain ⟨a1, a2⟩ := few10_go F.L 0 0 (by simpa [few10] using h1)
      obtain ⟨b1, b2⟩ := few16_go F.T 0 h
      refine ⟨?_, ?_, by omega, ?_, b2, fun t ht => few_tsmall (b2 t ht)⟩
      · rcases a1 with h | h
        · rw [h]; simp
        · omega
      · rcases a2 with h | h
        · rw [h]; simp
        · omega
      · rcases b1 with h | h
        · rw [h]; simp
        · omega

theorem fo_cells {w : World} {b : Nat} {vL vT : Value} {F : Fo} (h : w.heap[b]? = some (foObj vL vT F)) :
    w.cell? ⟨b, 0, none⟩ = some (.int .i64 F.dim) ∧ w.cell? ⟨b, 1, none⟩ = some (.int .i64 F.leaf) ∧ w.cell? ⟨b, 2, none⟩ = some (.int .i64 F.depth) ∧ w.cell? ⟨b, 3, none⟩ = some vL ∧ w.cell? ⟨b, 4, none⟩ = some vT := by
  unfold foObj at h
  refine ⟨?_, ?_, ?_, ?_, ?_⟩ <;> (rw [cell_of_block h]; rfl)

set_option maxHeartbeats 2000000 in
theorem few16_calls (vL vT : Value) (F : Fo) (M : List Nat) (w : World) (h : FoAt M w vL vT F) (hs : F.small) :
    Calls Try.prog 24 #[.agg #[.int .i64 F.dim, .int .i64 F.leaf, .int .i64 F.depth, vL, vT]] w fun e w' => e = .returned (.bool (few16 F)) ∧ Below w.heap.size w w' := by
  obtain ⟨aL, cL, rfl, hlL, hcL⟩ := Kd.slice_form h.L
  obtain ⟨aT, cT, rfl, hlT, hcT⟩ := Kd.slice_form h.T
  unfold maxLen at hcL hcT
  obtain ⟨W0, hW0⟩ : ∃ W0, w.alloc (foObj (.slice aL F.L.length cL) (.slice aT F.T.length cT) F) = W0 := ⟨_, rfl⟩
  have hu0 : Upd [] w W0 := by rw [← hW0]; exact Upd.alloc [] w _
  have hx0 : W0.heap[w.heap.size]? = some (foObj (.slice aL F.L.length cL) (.slice aT F.T.length cT) F) := by rw [← hW0]; exact Go.heap_alloc_new w _
  unfold foObj at hW0
  have H0 := Lib.hid (h.below hu0.below)
  have HU0 := Lib.hid hu0
  have HX0 := Lib.hid hx0
  have HS := Lib.hid hs
  have HF := Lib.hid (few10_calls _ F.L M W0 H0.out.L hs.L)
  obtain ⟨res, hres⟩ : ∃ r, few16 F = r := ⟨_, rfl⟩
  rw [hres]
  have HRES := Lib.hid hres
  obtain ⟨d0, d1, d2, d3, d4⟩ := fo_cells hx0
  generalize hf10 : few10 F.L = f10 at HF
  have HF10 := Lib.hid hf10
  clear h hs hu0 hx0 hres hf10
  go_enter Try.func24, Try.ntmps24
  go_wp2_with fail
  refine HF.out.mono ?_
  rintro e w1 ⟨rfl, rfl⟩
  clear hW0
  cases f10 with
  | false =>
    have hr : res = false := by rw [← HRES.out]; unfold few16; rw [if_pos HF10.out]
    subst hr
    go_wp2_with fail
    go_ret
    exact ⟨rfl, HU0.out.below⟩
  | true =>
    by_cases ht : 300 < F.T.length
    · have hr : res = false := by rw [← HRES.out]; unfold few16; rw [if_neg (by rw [HF10.out]; simp), if_pos ht]
      subst hr
      go_wp2_with fail
      go_ret
      exact ⟨rfl, HU0.out.below⟩
    · have HQ0 : Hid (few16Go 0 F.T = res) := Lib.hid (by have := HRES.out; unfold few16 at this; rw [if_neg (by rw [HF10.out]; simp), if_neg ht] at this; exact this)
      go_wp2_with fail
      go_loopw [3, 4] (fun s i wr => ∃ (k n q : Nat), k ≤ F.T.length ∧ i = .int .i64 k ∧ s = .int .i64 n ∧ n ≤ 600 ∧ Hid (few16Go n (F.T.drop k) = res) ∧ wr = W0.drewN q) (fun _ i _ => F.T.length - (intOf i).toNat)
      case atStart => exact ⟨0, 0, 0, Nat.zero_le _, rfl, rfl, by omega, Lib.hid (by simpa using HQ0.out), rfl⟩
      case round =>
        obtain ⟨k, n, q, hk, rfl, rfl, hn, hq, rfl⟩ := hrel
        by_cases hlt : k < F.T.length
        · obtain ⟨x, hx⟩ : ∃ x, F.T[k]? = some x := ⟨_, List.getElem?_eq_getElem hlt⟩
          obtain ⟨b, o, c, vi, hv, _, _, _, _, c0, hxi⟩ := lists_at H0.out.T hx
          simp at hv
          obtain ⟨rfl, rfl⟩ := hv
          obtain ⟨ai, ci, rfl, _, _⟩ := Kd.slice_form hxi
          have hxs := HS.out.T x (List.mem_of_getElem? hx)
          have hxl := hxs.1
          have HFC := Lib.hid (few_calls _ x M (W0.drewN q) (hxi.below (bdN _ _ q)) hxs.2)
          have hd := drop_at' hx
          have hq2 : (if 600 < n + x.length then false else if few x = false then false else few16Go (n + x.length) (F.T.drop (k + 1))) = res := by
            have := hq.out
            rw [hd] at this
            exact this
          clear hx hxi hd hq hxs
          by_cases hc : 600 < n + x.length
          · rw [if_pos hc] at hq2
            subst hq2
            go_wp2_with fail
            go_ret
            exact ⟨rfl, (HU0.out.trans (Upd.drewN [] _ _)).below⟩
          · rw [if_neg hc] at hq2
            generalize few x = fx at *
            cases fx with
            | false =>
              simp only [if_true] at hq2
              subst hq2
              go_wp2_with fail
              refine HFC.out.mono ?_
              rintro e w2 ⟨rfl, m, rfl⟩
              go_wp2_with fail
              go_ret
              exact ⟨rfl, (HU0.out.trans (Upd.drewN [] _ _)).below⟩
            | true =>
              simp only [Bool.true_eq_false, if_false] at hq2
              have HQ := Lib.hid hq2
              clear hq2
              go_wp2_with fail
              refine HFC.out.mono ?_
              rintro e w2 ⟨rfl, m, rfl⟩
              go_wp2_with fail
              go_roundw
              case rel => exact ⟨k + 1, n + x.length, q + m, by omega, by go_num, by go_num, by omega, HQ, by first | exact World.drewN_drewN _ _ _ | rfl⟩
              case measure => simp [intOf]; omega
        · have hq' := hq.out
          rw [List.drop_eq_nil_of_le (by omega)] at hq'
          simp only [few16Go] at hq'
          subst hq'
          go_wp2_with fail
          go_ret
          exact ⟨rfl, (HU0.out.trans (Upd.drewN [] _ _)).below⟩

/-- The greatest depth, as the document has it. -/
def deepOf (t : List Nd) (dim : Int) : Int := mostOf (treeGo t dim 65 0 0).1

set_option maxHeartbeats 2000000 in
theorem deepest_calls (v : Value) (t : List Nd) (dim : Int) (M : List Nat) (w : World) (h : kNd.slice.At M w [v] t) (hlen : t.length ≤ 1099511627776) :
    Calls Try.prog 58 #[v, .int .i64 dim] w fun e w' => e = .returned (.int .i64 (deepOf t dim)) ∧ Below w.heap.size w w' := by
  have HT := Lib.hid (tree_calls v t dim hlen 65 0 0 M w h (by omega) (by omega))
  unfold deepOf
  generalize treeGo t dim 65 0 0 = r at *
  obtain ⟨l, e, ok⟩ := r
  simp only at HT ⊢
  obtain ⟨ao, cap, rfl, hl, hcap⟩ := Kd.slice_form h
  unfold maxLen at hcap
  obtain ⟨res, hres⟩ : ∃ r, mostOf l = r := ⟨_, rfl⟩
  rw [hres]
  have HRES := Lib.hid hres
  clear h hres
  go_enter Try.func58, Try.ntmps58
  go_wp2_with fail
  refine HT.out.mono ?_
  rintro e1 w1 ⟨v', rfl, hb1, hrow⟩
  obtain ⟨a1, c1, rfl, hl1, hc1⟩ := row_form hrow
  unfold maxLen at hc1
  have HROW := Lib.hid hrow
  have HB1 := Lib.hid hb1
  clear hrow hb1 HT
  go_wp2_with fail
  go_loopw [8, 9] (fun s i wr => ∃ (k : Nat), k ≤ l.length ∧ i = .int .i64 k ∧ s = .int .i64 (mostOf (l.take k)) ∧ wr = w1) (fun _ i _ => l.length - (intOf i).toNat)
  case atStart => exact ⟨0, Nat.zero_le _, rfl, rfl, rfl⟩
  case round =>
    obtain ⟨k, hk, rfl, rfl, rfl⟩ := hrel
    by_cases hlt : k < l.length
    · obtain ⟨x, hx⟩ : ∃ x, l[k]? = some x := ⟨_, List.getElem?_eq_getElem hlt⟩
      obtain ⟨g, cap', cs, hv, _, _, _, _, hat, hc, _⟩ := HROW.out.get hx
      simp at hv
      obtain ⟨rfl, rfl⟩ := hv
      have hcs : cs = [.int .i64 x.1, .int .i64 x.2] := hat.out
      subst hcs
      have c0 : wr.cell? ⟨g, k * 2 + 1, none⟩ = some (.int .i64 x.2) := hc 1 _ rfl
      have hsn : mostOf (l.take (k + 1)) = max (mostOf (l.take k)) x.2 := by rw [take_snoc' hx, mostOf_snoc]
      generalize mostOf (l.take k) = s at *
      have HSN := Lib.hid hsn
      clear hx hat hc hsn
      go_wp2_with fail
      all_goals
        go_roundw
        case rel => exact ⟨k + 1, by omega, by go_num, by rw [HSN.out]; refine congrArg (Value.int .i64) ?_; first | omega | (split <;> omega), by first | rfl | trivial⟩
        case measure => simp [intOf]; omega
    · have e2 : l.take k = l := List.take_of_length_le (by omega)
      have HQ : Hid (mostOf (l.take k) = res) := Lib.hid (by rw [e2]; exact HRES.out)
      clear e2
      generalize mostOf (l.take k) = s at *
      go_wp2_with fail
      go_ret
      exact ⟨by have := HQ.out; subst this; rfl, HB1.out⟩

end Go.Proofs.Ytiplifkbegmeiaa
