/-
Contracts of shape's functions over lists of nodes: Same, whole.
-/
import Derived.Test.YtfkmkhojedfccaaNode
import Derived.Deep.DeepCutAuto
import Derived.Deep.CutBlock
namespace Go.Proofs.Ytfkmkhojedfccaa
set_option linter.unusedVariables false
set_option linter.unusedSimpArgs false
open Go.RowKit

theorem lists_ne {α : Type} [DecidableEq α] {a b : List α} {k : Nat} {x y : α} (hx : a[k]? = some x) (hy : b[k]? = some y) (h : decide (x = y) = false) : decide (a = b) = false := by
  rw [decide_eq_false_iff_not]
  rintro rfl
  rw [hx] at hy
  cases hy
  simp at h
theorem lists_step {α : Type} [DecidableEq α] {a b : List α} {k : Nat} {x y : α} (hx : a[k]? = some x) (hy : b[k]? = some y) (h : a.take k = b.take k) (he : decide (x = y) = true) : a.take (k + 1) = b.take (k + 1) := by
  have e : x = y := by simpa using he
  subst e
  rw [take_snoc' hx, take_snoc' hy, h]

set_option maxHeartbeats 1000000 in
theorem equalFunc_calls (v1 v2 : Value) (a b : List Nd) (M : List Nat) (w : World) (h1 : kNd.slice.At M w [v1] a) (h2 : kNd.slice.At M w [v2] b) :
    Calls Try.prog 51 #[v1, v2, .func (.func 52) #[] #[]] w fun e w' => e = .returned (.bool (decide (a = b))) ∧ Below w.heap.size w w' := by
  obtain ⟨ao1, cap1, rfl, hl1, hcap1⟩ := Kd.slice_form h1
  obtain ⟨ao2, cap2, rfl, hl2, hcap2⟩ := Kd.slice_form h2
  have H1 := Lib.hid h1
  have H2 := Lib.hid h2
  clear h1 h2
  unfold maxLen at hcap1 hcap2
  by_cases hlen : a.length = b.length
  · have hb : ((a.length : Int) != (b.length : Int)) = false := by simp [hlen]
    have HLEN := Lib.hid hlen
    clear hlen
    go_enter Try.func51, Try.ntmps51
    go_wp2
    go_loopw [17] (fun i wr => ∃ k : Nat, k ≤ a.length ∧ i = .int .i64 k ∧ Hid (a.take k = b.take k) ∧ Hid (Below w.heap.size w wr)) (fun i _ => a.length - (intOf i).toNat)
    case atStart => exact ⟨0, Nat.zero_le _, rfl, by show ([] : List Nd) = []; rfl, Below.refl _ _⟩
    case round =>
      obtain ⟨k, hk, rfl, hq, hw⟩ := hrel
      by_cases hlt : k < a.length
      · have hlt2 : k < b.length := by have := HLEN.out; omega
        obtain ⟨x, hx⟩ : ∃ x, a[k]? = some x := ⟨_, List.getElem?_eq_getElem hlt⟩
        obtain ⟨y, hy⟩ : ∃ y, b[k]? = some y := ⟨_, List.getElem?_eq_getElem hlt2⟩
        obtain ⟨b1, o1, q1, vi, vn, hv1, z1, _, _, _, hn, c0, c1, c2, c3, c4, c5⟩ := nds_at (H1.out.below hw.out) hx
        obtain ⟨b2, o2, q2, ui, un, hv2, z2, _, _, _, hm, d0, d1, d2, d3, d4, d5⟩ := nds_at (H2.out.below hw.out) hy
        simp at hv1 hv2
        obtain ⟨rfl, rfl⟩ := hv1
        obtain ⟨rfl, rfl⟩ := hv2
        obtain ⟨ai, ci, rfl, _, _⟩ := slice_form' hn.ids
        obtain ⟨an, cn, rfl, _, _⟩ := slice_form' hn.normal
        obtain ⟨bi, di, rfl, _, _⟩ := slice_form' hm.ids
        obtain ⟨bn, dn, rfl, _, _⟩ := slice_form' hm.normal
        have HX := Lib.hid hx
        have HY := Lib.hid hy
        have hb0 := ((Below.refl wr.heap.size wr).alloc (Nat.le_refl _) (.cells #[.bool x.leaf, .slice ai x.ids.length ci, .slice an x.pl.normal.length cn, .int .i64 x.pl.off, .int .i64 x.left, .int .i64 x.right] 48)).alloc (by simp) (.cells #[.bool y.leaf, .slice bi y.ids.length di, .slice bn y.pl.normal.length dn, .int .i64 y.pl.off, .int .i64 y.left, .int .i64 y.right] 48)
        have HC := Lib.hid (same1_calls _ _ _ _ x y M _ (hn.below hb0) (hm.below hb0))
        have HB0 := Lib.hid (hw.out.trans (hb0.mono hw.out.size))
        clear hx hy hn hm hb0
        rw [sameNd_iff] at HC
        go_wp2_with fail
        refine HC.out.mono ?_
        rintro e w1 ⟨rfl, hb1⟩
        have HB1 := Lib.hid (HB0.out.trans (hb1.mono HB0.out.size))
        clear hb1 HC c0 c1 c2 c3 c4 c5 d0 d1 d2 d3 d4 d5
        generalize hz : decide (x = y) = z
        have HZ := Lib.hid hz
        clear hz
        cases z with
        | false =>
          go_wp2_with fail
          go_ret
          rw [lists_ne HX.out HY.out HZ.out]
          exact ⟨rfl, HB1.out⟩
        | true =>
          go_wp2_with fail
          go_roundw
          case rel => exact ⟨k + 1, by omega, by go_num, lists_step HX.out HY.out hq HZ.out, HB1.out⟩
          case measure => simp [intOf]; omega
      · have e : decide (a = b) = true := by
          have h1 : a.take k = a := List.take_of_length_le (by omega)
          have h2 : b.take k = b := List.take_of_length_le (by have := HLEN.out; omega)
          have := hq.out
          rw [h1, h2] at this
          simp [this]
        have HE := Lib.hid e
        clear e hq
        go_wp2
        go_ret
        rw [HE.out]
        exact ⟨rfl, hw.out⟩
  · have hb : ((a.length : Int) != (b.length : Int)) = true := by simp; omega
    have e : decide (a = b) = false := by rw [decide_eq_false_iff_not]; rintro rfl; exact hlen rfl
    rw [e]
    clear hlen e
    go_enter Try.func51, Try.ntmps51
    go_wp2
    go_ret
    exact ⟨rfl, Below.refl _ _⟩

theorem shape_same_calls (v1 v2 : Value) (a b : List Nd) (M : List Nat) (w : World) (h1 : kNd.slice.At M w [v1] a) (h2 : kNd.slice.At M w [v2] b) :
    Calls Try.prog 20 #[v1, v2] w fun e w' => e = .returned (.bool (decide (a = b))) ∧ Below w.heap.size w w' := by
  have HC := Lib.hid (equalFunc_calls v1 v2 a b M w h1 h2)
  clear h1 h2
  generalize decide (a = b) = r at *
  go_enter Try.func20, Try.ntmps20
  go_wp2_with fail
  refine HC.out.mono ?_
  rintro e w1 ⟨rfl, hb1⟩
  go_wp2_with fail
  go_ret
  exact ⟨rfl, hb1⟩

/-! ### whole -/
/-- What whole answers for what is left of the nodes: their first place, whether a leaf stands ahead, the rights that are owed, the depth. -/
def wholeGo : List Nd → Nat → Bool → List (Int × Int) → Int → Bool
  | [], at_, prev, rights, _ => decide (0 < at_) && rights.isEmpty && prev
  | x :: rest, at_, prev, rights, depth =>
    match (if prev then (match rights.getLast? with
        | none => none
        | some r => if r.1 = (at_ : Int) then some (rights.dropLast, r.2) else none) else some (rights, depth)) with
    | none => false
    | some (rights, depth) =>
      if 64 < depth then false else
      if x.leaf then wholeGo rest (at_ + 1) true rights depth
      else if x.left = (at_ : Int) + 1 then wholeGo rest (at_ + 1) false (rights ++ [(x.right, depth + 1)]) (depth + 1) else false

def kRight : Kd (Int × Int) where
  sz := 2
  rep _ _ cs x := cs = [.int .i64 x.1, .int .i64 x.2]
  len h := by rw [h]; rfl
  one h := by rw [h]; simp [Value.oneCell']
  mono h _ _ := h

theorem right_at {M : List Nat} {e : TypeId} {B : Nat} {w : World} {v : Value} {R : List (Int × Int)} {r : Int × Int} (h : Row kRight M e B w v (R ++ [r])) :
    ∃ g cap, v = .slice (some ⟨g, 0, none⟩) (R.length + 1) cap ∧ B ≤ g ∧ g < w.heap.size ∧ R.length + 1 ≤ cap ∧ cap ≤ maxLen ∧ w.cell? ⟨g, R.length * 2, none⟩ = some (.int .i64 r.1) ∧ w.cell? ⟨g, R.length * 2 + 1, none⟩ = some (.int .i64 r.2) := by
  obtain ⟨g, cap, cs, hv, h1, h2, h3, h4, h5, h6, _⟩ := h.get (i := R.length) (x := r) (by simp)
  have e := h5.out
  subst e
  simp only [List.length_append, List.length_cons, List.length_nil, Nat.zero_add] at hv h3
  exact ⟨g, cap, hv, h1, h2, h3, h4, by simpa [kRight] using h6 0 _ rfl, by simpa [kRight] using h6 1 _ rfl⟩

/-- What holds of the rights that are owed. -/
structure RInv (R : List (Int × Int)) (d : Int) : Prop where
  len : (R.length : Int) ≤ d
  le : d ≤ 65
  each : ∀ (i : Nat) r, R[i]? = some r → (i : Int) + 1 ≤ r.2 ∧ r.2 ≤ 65
theorem RInv.nil : RInv [] 0 := ⟨by simp, by omega, by simp⟩
theorem RInv.pop {R : List (Int × Int)} {r : Int × Int} {d : Int} (h : RInv (R ++ [r]) d) : RInv R r.2 := by
  have h1 := h.each R.length r (by simp)
  exact ⟨by omega, h1.2, fun i q hq => h.each i q (by rw [List.getElem?_append_left (List.getElem?_eq_some_iff.1 hq).1]; exact hq)⟩
theorem RInv.push {R : List (Int × Int)} {d a : Int} (h : RInv R d) (hd : d ≤ 64) : RInv (R ++ [(a, d + 1)]) (d + 1) := by
  have := h.len
  refine ⟨by simp; omega, by omega, fun i q hq => ?_⟩
  rcases Nat.lt_or_ge i R.length with hlt | hge
  · rw [List.getElem?_append_left hlt] at hq; exact h.each i q hq
  · rw [List.getElem?_append_right hge] at hq
    cases hh : i - R.length with
    | zero => rw [hh] at hq; simp at hq; subst hq; simp; omega
    | succ n => rw [hh] at hq; simp at hq

theorem A.infoRight : (Try.prog.info? 159).map (fun i => (i.zero, i.size, i.bytes)) = some (some (.agg #[.int .i64 0, .int .i64 0]), 2, 16) := by kernel_rfl

theorem below_alloc1 (w : World) (o : Obj) : Below w.heap.size w (w.alloc o) := (Below.refl _ w).alloc (Nat.le_refl _) _
def prevLeaf (l : List Nd) (k : Nat) : Bool := match k with | 0 => false | j + 1 => ((l[j]?).map (·.leaf)).getD false

theorem prevLeaf_succ {l : List Nd} {k : Nat} {x : Nd} (h : l[k]? = some x) : prevLeaf l (k + 1) = x.leaf := by simp [prevLeaf, h]

set_option maxHeartbeats 4000000 in
set_option maxRecDepth 100000 in
theorem whole_calls (v : Value) (l : List Nd) (M : List Nat) (w : World) (h : kNd.slice.At M w [v] l) :
    Calls Try.prog 58 #[v] w fun e w' => e = .returned (.bool (wholeGo l 0 false [] 0)) ∧ Below w.heap.size w w' := by
  obtain ⟨ao, cap, rfl, hl, hcap⟩ := Kd.slice_form h
  have H := Lib.hid h
  clear h
  unfold maxLen at hcap
  obtain ⟨i0, hi, hz0, hz1, hz2⟩ := info_parts A.infoRight
  have HI := Lib.hid hi
  have HZ0 := Lib.hid hz0
  have HZ1 := Lib.hid hz1
  have HZ2 := Lib.hid hz2
  clear hi hz0 hz1 hz2
  obtain ⟨res, hres⟩ : ∃ r, wholeGo l 0 false [] 0 = r := ⟨_, rfl⟩
  rw [hres]
  have HRES := Lib.hid hres
  clear hres
  go_enter Try.func58, Try.ntmps58
  go_wp2
  go_loopw [10, 3, 4] (fun i v3 v4 wr => ∃ (k : Nat) (R : List (Int × Int)) (d : Int), k ≤ l.length ∧ i = .int .i64 k ∧ v4 = .int .i64 d ∧ Hid (Row kRight [] 159 w.heap.size wr v3 R) ∧ Hid (RInv R d) ∧
      Hid (wholeGo (l.drop k) k (prevLeaf l k) R d = res) ∧ Hid (Below w.heap.size w wr)) (fun i _ _ _ => l.length - (intOf i).toNat)
  case atStart => exact ⟨0, [], 0, Nat.zero_le _, rfl, rfl, Row.nil _ _ _ _ _, RInv.nil, HRES.out, Below.refl _ _⟩
  case round =>
    obtain ⟨k, R, d, hk, rfl, rfl, hrow, hinv, hgo, hw⟩ := hrel
    by_cases hlt : k < l.length
    · obtain ⟨x, hx⟩ : ∃ x, l[k]? = some x := ⟨_, List.getElem?_eq_getElem hlt⟩
      obtain ⟨b, o, c, vi, vn, hv, hbs, _, _, _, hn, c0, c1, c2, c3, c4, c5⟩ := nds_at (H.out.below hw.out) hx
      simp at hv
      obtain ⟨rfl, rfl⟩ := hv
      obtain ⟨ai, ci, rfl, _, _⟩ := slice_form' hn.ids
      obtain ⟨an, cn, rfl, _, _⟩ := slice_form' hn.normal
      have hxd : l.drop k = x :: l.drop (k + 1) := by rw [List.drop_eq_getElem_cons hlt, (List.getElem?_eq_some_iff.1 hx).2]
      rw [hxd] at hgo
      have HX := Lib.hid hx
      have HN := Lib.hid hn
      have hdl := hinv.out.len
      have hdu := hinv.out.le
      clear hx hn hxd
      have hd0 : 0 ≤ d := by omega
      cases k with
      | zero =>
        have hgo1 : (if 64 < d then false else if x.leaf = true then wholeGo (l.drop (0 + 1)) (0 + 1) true R d else if x.left = (0 : Int) + 1 then wholeGo (l.drop (0 + 1)) (0 + 1) false (R ++ [(x.right, d + 1)]) (d + 1) else false) = res := hgo.out
        have HGO := Lib.hid hgo1
        clear hgo1 hgo
        simp only [Nat.zero_mul, Nat.add_zero] at c0 c1 c2 c3 c4 c5
        have hbx0 : (wr.alloc (.cells #[.bool x.leaf, .slice ai x.ids.length ci, .slice an x.pl.normal.length cn, .int .i64 x.pl.off, .int .i64 x.left, .int .i64 x.right] 48)).heap[wr.heap.size]? = some (.cells #[.bool x.leaf, .slice ai x.ids.length ci, .slice an x.pl.normal.length cn, .int .i64 x.pl.off, .int .i64 x.left, .int .i64 x.right] 48) := Go.heap_alloc_new wr _
        have hU00 : Upd [] wr (wr.alloc (.cells #[.bool x.leaf, .slice ai x.ids.length ci, .slice an x.pl.normal.length cn, .int .i64 x.pl.off, .int .i64 x.left, .int .i64 x.right] 48)) := Upd.alloc [] wr _
        go_upto_region 11 with fail
        clear c0 c1 c2 c3 c4 c5
        generalize wr.alloc (.cells #[.bool x.leaf, .slice ai x.ids.length ci, .slice an x.pl.normal.length cn, .int .i64 x.pl.off, .int .i64 x.left, .int .i64 x.right] 48) = W0 at hbx0 hU00 ⊢
        have hbx := hbx0
        have hU0 := hU00
        clear hbx0 hU00
        obtain ⟨bx, hbxe⟩ : ∃ b, b = wr.heap.size := ⟨_, rfl⟩
        rw [← hbxe] at hbx ⊢
        have hbxge : wr.heap.size ≤ bx := by omega
        clear hbxe
        by_cases hdeep : 64 < d
        · have e : res = false := by rw [← HGO.out, if_pos hdeep]
          have HE := Lib.hid e
          clear e
          go_wp2_with fail
          go_ret
          rw [HE.out]
          exact ⟨rfl, hw.out.trans (hU0.below.mono hw.out.size)⟩
        · have hd64 : d ≤ 64 := by omega
          have hgo2 := HGO.out
          rw [if_neg hdeep] at hgo2
          have HGO2 := Lib.hid hgo2
          clear hgo2 hdeep
          have g0 : W0.cell? ⟨bx, 0, none⟩ = some (.bool x.leaf) := by rw [cell_of_block hbx]; rfl
          have g4 : W0.cell? ⟨bx, 4, none⟩ = some (.int .i64 x.left) := by rw [cell_of_block hbx]; rfl
          have g5 : W0.cell? ⟨bx, 5, none⟩ = some (.int .i64 x.right) := by rw [cell_of_block hbx]; rfl
          cases hleaf : x.leaf with
          | true =>
            have hgo3 := HGO2.out
            rw [if_pos hleaf] at hgo3
            have HGO3 := Lib.hid hgo3
            rw [hleaf] at g0
            have HLEAF := Lib.hid hleaf
            clear hgo3 hleaf
            go_wp2_with fail
            go_roundw
            case rel => exact ⟨0 + 1, R, d, by omega, by go_num, rfl, hrow.out.upd (S := []) hU0 (by simp) (by simp) (by simp), hinv.out, (by rw [prevLeaf_succ HX.out, HLEAF.out]; exact HGO3.out), hw.out.trans (hU0.below.mono hw.out.size)⟩
            case measure => simp [intOf]; omega
          | false =>
            have hgo3 := HGO2.out
            rw [if_neg (by simp [hleaf])] at hgo3
            have HGO3 := Lib.hid hgo3
            rw [hleaf] at g0
            have HLEAF := Lib.hid hleaf
            clear hgo3 hleaf
            obtain ⟨W1, hW1⟩ : ∃ W1, W0.alloc (.cells #[.int .i64 x.right, .int .i64 (d + 1)] 159) = W1 := ⟨_, rfl⟩
            have hu1 : Upd [] wr W1 := by rw [← hW1]; exact hU0.trans' (Upd.alloc [] _ _) (by simp)
            have hz1 : W1.heap.size = W0.heap.size + 1 := by rw [← hW1]; simp
            have hz0 := hU0.size
            have hbx1 : W1.heap[bx]? = some (.cells #[.bool x.leaf, .slice ai x.ids.length ci, .slice an x.pl.normal.length cn, .int .i64 x.pl.off, .int .i64 x.left, .int .i64 x.right] 48) := by
              rw [← hW1, Below.heap_alloc _ _ _ (block_lt hbx)]; exact hbx
            have hby : W1.heap[W0.heap.size]? = some (.cells #[.int .i64 x.right, .int .i64 (d + 1)] 159) := by
              rw [← hW1]; exact Go.heap_alloc_new W0 _
            have hrow1 := hrow.out.upd hu1 (by simp) (by simp) (M' := []) (by simp)
            obtain ⟨v', w', hrun, hrow2, hu2, hob⟩ := Row.push (P := Try.prog) (t := 157) (ty := 157) (c := 1) hrow1 Try.underlying157 HI.out HZ0.out HZ1.out HZ2.out rfl (by decide) (b := W0.heap.size) [.int .i64 x.right, .int .i64 (d + 1)] (x.right, d + 1)
              (fun j u hj => by rw [cell_of_block hby]; simpa using hj) ⟨rfl⟩ (by have := hinv.out.len; unfold maxLen; omega) (by have := hinv.out.len; omega) (by have := hw.out.size; omega)
            have hrowb := hrow.out.ob_lt
            have hc4 : w'.cell? ⟨bx, 4, none⟩ = some (.int .i64 x.left) := by
              rw [hu2.cell (a := ⟨bx, 4, none⟩) (block_lt hbx1) (fun h => by have := (hrowb _ h).2; simp only at this; omega), cell_of_block hbx1]; rfl
            have hwf : Below w.heap.size w w' := hw.out.trans ((hu1.below.mono hw.out.size).trans (hu2.belowB (by have := hw.out.size; omega) (fun k hk => (hrowb k hk).1)))
            have HROW2 := Lib.hid hrow2
            rw [← hW1] at hrun
            have HRUN := Lib.hid hrun
            have HWF := Lib.hid hwf
            clear hrun hrow2 hu2 hob hrowb hwf hrow1 hby hbx1 hz1 hu1 hW1
            by_cases hleft : x.left = (0 : Int) + 1
            · have e := HGO3.out
              rw [if_pos hleft] at e
              have HE := Lib.hid e
              have hnb : (x.left != (0 : Int) + 1) = false := by simpa using hleft
              clear e hleft
              go_wp2_with (at_builtin; refine append_step rfl _ _ _ rfl rfl rfl HRUN.out ?_)
              go_roundw
              case rel => exact ⟨0 + 1, R ++ [(x.right, d + 1)], d + 1, by omega, by go_num, by go_num, HROW2.out, hinv.out.push hd64, (by rw [prevLeaf_succ HX.out, HLEAF.out]; exact HE.out), HWF.out⟩
              case measure => simp [intOf]; omega
            · have e := HGO3.out
              rw [if_neg hleft] at e
              have HE := Lib.hid e
              have hnb : (x.left != (0 : Int) + 1) = true := by simpa using hleft
              clear e hleft
              go_wp2_with (at_builtin; refine append_step rfl _ _ _ rfl rfl rfl HRUN.out ?_)
              go_ret
              rw [← HE.out]
              exact ⟨rfl, HWF.out⟩
      | succ j =>
        have hjl : j < l.length := by omega
        obtain ⟨y, hy⟩ : ∃ y, l[j]? = some y := ⟨_, List.getElem?_eq_getElem hjl⟩
        obtain ⟨b', o', c', ui, un, hv', _, _, _, _, _, e0, _, _, _, _, _⟩ := nds_at ((H.out.below hw.out).below (below_alloc1 wr (.cells #[.bool x.leaf, .slice ai x.ids.length ci, .slice an x.pl.normal.length cn, .int .i64 x.pl.off, .int .i64 x.left, .int .i64 x.right] 48))) hy
        simp at hv'
        obtain ⟨⟨rfl, rfl⟩, rfl⟩ := hv'
        cases hyl : y.leaf with
        | false =>
          have hp : prevLeaf l (j + 1) = false := by simp [prevLeaf, hy, hyl]
          rw [hp] at hgo
          have hgo1 : (if 64 < d then false else if x.leaf = true then wholeGo (l.drop (j + 1 + 1)) (j + 1 + 1) true R d else if x.left = ((j + 1 : Nat) : Int) + 1 then wholeGo (l.drop (j + 1 + 1)) (j + 1 + 1) false (R ++ [(x.right, d + 1)]) (d + 1) else false) = res := hgo.out
          have HGO := Lib.hid hgo1
          rw [hyl] at e0
          clear hgo1 hgo hp hyl hy
          have hbx0 : (wr.alloc (.cells #[.bool x.leaf, .slice ai x.ids.length ci, .slice an x.pl.normal.length cn, .int .i64 x.pl.off, .int .i64 x.left, .int .i64 x.right] 48)).heap[wr.heap.size]? = some (.cells #[.bool x.leaf, .slice ai x.ids.length ci, .slice an x.pl.normal.length cn, .int .i64 x.pl.off, .int .i64 x.left, .int .i64 x.right] 48) := Go.heap_alloc_new wr _
          have hU00 : Upd [] wr (wr.alloc (.cells #[.bool x.leaf, .slice ai x.ids.length ci, .slice an x.pl.normal.length cn, .int .i64 x.pl.off, .int .i64 x.left, .int .i64 x.right] 48)) := Upd.alloc [] wr _
          go_upto_region 11 with fail
          clear e0 c0 c1 c2 c3 c4 c5
          generalize wr.alloc (.cells #[.bool x.leaf, .slice ai x.ids.length ci, .slice an x.pl.normal.length cn, .int .i64 x.pl.off, .int .i64 x.left, .int .i64 x.right] 48) = W0 at hbx0 hU00 ⊢
          have hbx := hbx0
          have hU0 := hU00
          clear hbx0 hU00
          obtain ⟨bx, hbxe⟩ : ∃ b, b = wr.heap.size := ⟨_, rfl⟩
          rw [← hbxe] at hbx ⊢
          have hbxge : wr.heap.size ≤ bx := by omega
          clear hbxe
          by_cases hdeep : 64 < d
          · have e : res = false := by rw [← HGO.out, if_pos hdeep]
            have HE := Lib.hid e
            clear e
            go_wp2_with fail
            go_ret
            rw [HE.out]
            exact ⟨rfl, hw.out.trans (hU0.below.mono hw.out.size)⟩
          · have hd64 : d ≤ 64 := by omega
            have hgo2 := HGO.out
            rw [if_neg hdeep] at hgo2
            have HGO2 := Lib.hid hgo2
            clear hgo2 hdeep
            have g0 : W0.cell? ⟨bx, 0, none⟩ = some (.bool x.leaf) := by rw [cell_of_block hbx]; rfl
            have g4 : W0.cell? ⟨bx, 4, none⟩ = some (.int .i64 x.left) := by rw [cell_of_block hbx]; rfl
            have g5 : W0.cell? ⟨bx, 5, none⟩ = some (.int .i64 x.right) := by rw [cell_of_block hbx]; rfl
            cases hleaf : x.leaf with
            | true =>
              have hgo3 := HGO2.out
              rw [if_pos hleaf] at hgo3
              have HGO3 := Lib.hid hgo3
              rw [hleaf] at g0
              have HLEAF := Lib.hid hleaf
              clear hgo3 hleaf
              go_wp2_with fail
              go_roundw
              case rel => exact ⟨j + 1 + 1, R, d, by omega, by go_num, rfl, hrow.out.upd (S := []) hU0 (by simp) (by simp) (by simp), hinv.out, (by rw [prevLeaf_succ HX.out, HLEAF.out]; exact HGO3.out), hw.out.trans (hU0.below.mono hw.out.size)⟩
              case measure => simp [intOf]; omega
            | false =>
              have hgo3 := HGO2.out
              rw [if_neg (by simp [hleaf])] at hgo3
              have HGO3 := Lib.hid hgo3
              rw [hleaf] at g0
              have HLEAF := Lib.hid hleaf
              clear hgo3 hleaf
              obtain ⟨W1, hW1⟩ : ∃ W1, W0.alloc (.cells #[.int .i64 x.right, .int .i64 (d + 1)] 159) = W1 := ⟨_, rfl⟩
              have hu1 : Upd [] wr W1 := by rw [← hW1]; exact hU0.trans' (Upd.alloc [] _ _) (by simp)
              have hz1 : W1.heap.size = W0.heap.size + 1 := by rw [← hW1]; simp
              have hz0 := hU0.size
              have hbx1 : W1.heap[bx]? = some (.cells #[.bool x.leaf, .slice ai x.ids.length ci, .slice an x.pl.normal.length cn, .int .i64 x.pl.off, .int .i64 x.left, .int .i64 x.right] 48) := by
                rw [← hW1, Below.heap_alloc _ _ _ (block_lt hbx)]; exact hbx
              have hby : W1.heap[W0.heap.size]? = some (.cells #[.int .i64 x.right, .int .i64 (d + 1)] 159) := by
                rw [← hW1]; exact Go.heap_alloc_new W0 _
              have hrow1 := hrow.out.upd hu1 (by simp) (by simp) (M' := []) (by simp)
              obtain ⟨v', w', hrun, hrow2, hu2, hob⟩ := Row.push (P := Try.prog) (t := 157) (ty := 157) (c := 1) hrow1 Try.underlying157 HI.out HZ0.out HZ1.out HZ2.out rfl (by decide) (b := W0.heap.size) [.int .i64 x.right, .int .i64 (d + 1)] (x.right, d + 1)
                (fun j u hj => by rw [cell_of_block hby]; simpa using hj) ⟨rfl⟩ (by have := hinv.out.len; unfold maxLen; omega) (by have := hinv.out.len; omega) (by have := hw.out.size; omega)
              have hrowb := hrow.out.ob_lt
              have hc4 : w'.cell? ⟨bx, 4, none⟩ = some (.int .i64 x.left) := by
                rw [hu2.cell (a := ⟨bx, 4, none⟩) (block_lt hbx1) (fun h => by have := (hrowb _ h).2; simp only at this; omega), cell_of_block hbx1]; rfl
              have hwf : Below w.heap.size w w' := hw.out.trans ((hu1.below.mono hw.out.size).trans (hu2.belowB (by have := hw.out.size; omega) (fun k hk => (hrowb k hk).1)))
              have HROW2 := Lib.hid hrow2
              rw [← hW1] at hrun
              have HRUN := Lib.hid hrun
              have HWF := Lib.hid hwf
              clear hrun hrow2 hu2 hob hrowb hwf hrow1 hby hbx1 hz1 hu1 hW1
              by_cases hleft : x.left = ((j + 1 : Nat) : Int) + 1
              · have e := HGO3.out
                rw [if_pos hleft] at e
                have HE := Lib.hid e
                have hnb : (x.left != ((j + 1 : Nat) : Int) + 1) = false := by simpa using hleft
                clear e hleft
                go_wp2_with (at_builtin; refine append_step rfl _ _ _ rfl rfl rfl HRUN.out ?_)
                go_roundw
                case rel => exact ⟨j + 1 + 1, R ++ [(x.right, d + 1)], d + 1, by omega, by go_num, by go_num, HROW2.out, hinv.out.push hd64, (by rw [prevLeaf_succ HX.out, HLEAF.out]; exact HE.out), HWF.out⟩
                case measure => simp [intOf]; omega
              · have e := HGO3.out
                rw [if_neg hleft] at e
                have HE := Lib.hid e
                have hnb : (x.left != ((j + 1 : Nat) : Int) + 1) = true := by simpa using hleft
                clear e hleft
                go_wp2_with (at_builtin; refine append_step rfl _ _ _ rfl rfl rfl HRUN.out ?_)
                go_ret
                rw [← HE.out]
                exact ⟨rfl, HWF.out⟩
        | true =>
          have hp : prevLeaf l (j + 1) = true := by simp [prevLeaf, hy, hyl]
          rw [hp] at hgo
          rw [hyl] at e0
          clear hp hyl hy
          rcases (show R = [] ∨ ∃ R0 r, R = R0 ++ [r] by rcases List.eq_nil_or_concat R with h | ⟨a, b, h⟩; exact .inl h; exact .inr ⟨a, b, by rw [h, List.concat_eq_append]⟩) with rfl | ⟨R0, r, rfl⟩
          · have e : res = false := hgo.out.symm
            have HE := Lib.hid e
            clear e hgo
            rcases hrow.out.form with ⟨rfl, _⟩ | ⟨g, cap, rfl, _⟩
            all_goals
              have HB := Lib.hid (hw.out.trans ((below_alloc1 wr (.cells #[.bool x.leaf, .slice ai x.ids.length ci, .slice an x.pl.normal.length cn, .int .i64 x.pl.off, .int .i64 x.left, .int .i64 x.right] 48)).mono hw.out.size))
              go_wp2_with fail
              go_ret
              rw [HE.out]
              exact ⟨rfl, HB.out⟩
          · have hgo0 := hgo.out
            simp only [wholeGo, if_true, List.getLast?_append, List.getLast?_singleton, Option.some_or, List.dropLast_concat] at hgo0
            obtain ⟨r1, r2⟩ := r
            obtain ⟨g, cg, rfl, hg1, hg2, hg3, hg4, q1, q2⟩ := right_at hrow.out
            simp only at q1 q2 hgo0
            have HB := Lib.hid (hw.out.trans ((below_alloc1 wr (.cells #[.bool x.leaf, .slice ai x.ids.length ci, .slice an x.pl.normal.length cn, .int .i64 x.pl.off, .int .i64 x.left, .int .i64 x.right] 48)).mono hw.out.size))
            have p1 : (wr.alloc (.cells #[.bool x.leaf, .slice ai x.ids.length ci, .slice an x.pl.normal.length cn, .int .i64 x.pl.off, .int .i64 x.left, .int .i64 x.right] 48)).cell? ⟨g, R0.length * 2, none⟩ = some (.int .i64 r1) := ((below_alloc1 wr _).cell (p := ⟨g, R0.length * 2, none⟩) hg2).trans q1
            have p2 : (wr.alloc (.cells #[.bool x.leaf, .slice ai x.ids.length ci, .slice an x.pl.normal.length cn, .int .i64 x.pl.off, .int .i64 x.left, .int .i64 x.right] 48)).cell? ⟨g, R0.length * 2 + 1, none⟩ = some (.int .i64 r2) := ((below_alloc1 wr _).cell (p := ⟨g, R0.length * 2 + 1, none⟩) hg2).trans q2
            have hRl : (R0.length : Int) + 1 ≤ 65 := by have h1 := hinv.out.len; have h2 := hinv.out.le; rw [List.length_append] at h1; simp only [List.length_cons, List.length_nil, Nat.zero_add] at h1; omega
            unfold maxLen at hg4
            by_cases hr1 : r1 = ((j + 1 : Nat) : Int)
            · rw [if_pos hr1] at hgo0
              have hgo1 : (if 64 < r2 then false else if x.leaf = true then wholeGo (l.drop (j + 1 + 1)) (j + 1 + 1) true R0 r2 else if x.left = ((j + 1 : Nat) : Int) + 1 then wholeGo (l.drop (j + 1 + 1)) (j + 1 + 1) false (R0 ++ [(x.right, r2 + 1)]) (r2 + 1) else false) = res := hgo0
              have HGO := Lib.hid hgo1
              have hnr : (r1 != (j : Int) + 1) = false := by simpa using hr1
              have hinvP := Lib.hid (hinv.out.pop)
              have hrowP := Lib.hid (hrow.out.pop)
              have hr2a := hinvP.out.len
              have hr2b := hinvP.out.le
              have hr20 : 0 ≤ r2 := by omega
              clear hgo0 hgo1 hgo hr1 hrow hinv
              have hgz : (g : Int) = g := rfl
              have hi1 : (R0.length : Int) < (R0.length : Int) + 1 := by omega
              have hi0 : (0 : Int) ≤ (R0.length : Int) := by omega
              go_wp2_with fail
              go_quiet (fail)
              clear p1 p2 q1 q2 e0 c0 c1 c2 c3 c4 c5 hnr
              have hbx0 : ((wr.alloc (.cells #[.bool x.leaf, .slice ai x.ids.length ci, .slice an x.pl.normal.length cn, .int .i64 x.pl.off, .int .i64 x.left, .int .i64 x.right] 48)).drewN nq).heap[wr.heap.size]? = some (.cells #[.bool x.leaf, .slice ai x.ids.length ci, .slice an x.pl.normal.length cn, .int .i64 x.pl.off, .int .i64 x.left, .int .i64 x.right] 48) := Go.heap_alloc_new wr _
              have hU00 : Upd [] wr ((wr.alloc (.cells #[.bool x.leaf, .slice ai x.ids.length ci, .slice an x.pl.normal.length cn, .int .i64 x.pl.off, .int .i64 x.left, .int .i64 x.right] 48)).drewN nq) := (Upd.alloc [] wr _).trans (Upd.drewN [] _ nq)
              generalize (wr.alloc (.cells #[.bool x.leaf, .slice ai x.ids.length ci, .slice an x.pl.normal.length cn, .int .i64 x.pl.off, .int .i64 x.left, .int .i64 x.right] 48)).drewN nq = W0 at hbx0 hU00 ⊢
              have hbx := hbx0
              have hU0 := hU00
              clear hbx0 hU00
              obtain ⟨bx, hbxe⟩ : ∃ b, b = wr.heap.size := ⟨_, rfl⟩
              rw [← hbxe] at hbx ⊢
              have hbxge : wr.heap.size ≤ bx := by omega
              clear hbxe
              by_cases hdeep : 64 < r2
              · have e : res = false := by rw [← HGO.out, if_pos hdeep]
                have HE := Lib.hid e
                clear e
                go_wp2_with fail
                go_ret
                rw [HE.out]
                exact ⟨rfl, hw.out.trans (hU0.below.mono hw.out.size)⟩
              · have hd64 : r2 ≤ 64 := by omega
                have hgo2 := HGO.out
                rw [if_neg hdeep] at hgo2
                have HGO2 := Lib.hid hgo2
                clear hgo2 hdeep
                have g0 : W0.cell? ⟨bx, 0, none⟩ = some (.bool x.leaf) := by rw [cell_of_block hbx]; rfl
                have g4 : W0.cell? ⟨bx, 4, none⟩ = some (.int .i64 x.left) := by rw [cell_of_block hbx]; rfl
                have g5 : W0.cell? ⟨bx, 5, none⟩ = some (.int .i64 x.right) := by rw [cell_of_block hbx]; rfl
                cases hleaf : x.leaf with
                | true =>
                  have hgo3 := HGO2.out
                  rw [if_pos hleaf] at hgo3
                  have HGO3 := Lib.hid hgo3
                  rw [hleaf] at g0
                  have HLEAF := Lib.hid hleaf
                  clear hgo3 hleaf
                  go_wp2_with fail
                  go_roundw
                  case rel => exact ⟨j + 1 + 1, R0, r2, by omega, by go_num, rfl, hrowP.out.upd (S := []) hU0 (by simp) (by simp) (by simp), hinvP.out, (by rw [prevLeaf_succ HX.out, HLEAF.out]; exact HGO3.out), hw.out.trans (hU0.below.mono hw.out.size)⟩
                  case measure => simp [intOf]; omega
                | false =>
                  have hgo3 := HGO2.out
                  rw [if_neg (by simp [hleaf])] at hgo3
                  have HGO3 := Lib.hid hgo3
                  rw [hleaf] at g0
                  have HLEAF := Lib.hid hleaf
                  clear hgo3 hleaf
                  obtain ⟨W1, hW1⟩ : ∃ W1, W0.alloc (.cells #[.int .i64 x.right, .int .i64 (r2 + 1)] 159) = W1 := ⟨_, rfl⟩
                  have hu1 : Upd [] wr W1 := by rw [← hW1]; exact hU0.trans' (Upd.alloc [] _ _) (by simp)
                  have hz1 : W1.heap.size = W0.heap.size + 1 := by rw [← hW1]; simp
                  have hz0 := hU0.size
                  have hbx1 : W1.heap[bx]? = some (.cells #[.bool x.leaf, .slice ai x.ids.length ci, .slice an x.pl.normal.length cn, .int .i64 x.pl.off, .int .i64 x.left, .int .i64 x.right] 48) := by
                    rw [← hW1, Below.heap_alloc _ _ _ (block_lt hbx)]; exact hbx
                  have hby : W1.heap[W0.heap.size]? = some (.cells #[.int .i64 x.right, .int .i64 (r2 + 1)] 159) := by
                    rw [← hW1]; exact Go.heap_alloc_new W0 _
                  have hrow1 := hrowP.out.upd hu1 (by simp) (by simp) (M' := []) (by simp)
                  obtain ⟨v', w', hrun, hrow2, hu2, hob⟩ := Row.push (P := Try.prog) (t := 157) (ty := 157) (c := 1) hrow1 Try.underlying157 HI.out HZ0.out HZ1.out HZ2.out rfl (by decide) (b := W0.heap.size) [.int .i64 x.right, .int .i64 (r2 + 1)] (x.right, r2 + 1)
                    (fun j u hj => by rw [cell_of_block hby]; simpa using hj) ⟨rfl⟩ (by have := hinvP.out.len; unfold maxLen; omega) (by have := hinvP.out.len; omega) (by have := hw.out.size; omega)
                  have hrowb := hrowP.out.ob_lt
                  have hc4 : w'.cell? ⟨bx, 4, none⟩ = some (.int .i64 x.left) := by
                    rw [hu2.cell (a := ⟨bx, 4, none⟩) (block_lt hbx1) (fun h => by have := (hrowb _ h).2; simp only at this; omega), cell_of_block hbx1]; rfl
                  have hwf : Below w.heap.size w w' := hw.out.trans ((hu1.below.mono hw.out.size).trans (hu2.belowB (by have := hw.out.size; omega) (fun k hk => (hrowb k hk).1)))
                  have HROW2 := Lib.hid hrow2
                  rw [← hW1] at hrun
                  have HRUN := Lib.hid hrun
                  have HWF := Lib.hid hwf
                  clear hrun hrow2 hu2 hob hrowb hwf hrow1 hby hbx1 hz1 hu1 hW1
                  by_cases hleft : x.left = ((j + 1 : Nat) : Int) + 1
                  · have e := HGO3.out
                    rw [if_pos hleft] at e
                    have HE := Lib.hid e
                    have hnb : (x.left != ((j + 1 : Nat) : Int) + 1) = false := by simpa using hleft
                    clear e hleft
                    go_wp2_with (at_builtin; refine append_step rfl _ _ _ rfl rfl rfl HRUN.out ?_)
                    go_roundw
                    case rel => exact ⟨j + 1 + 1, R0 ++ [(x.right, r2 + 1)], r2 + 1, by omega, by go_num, by go_num, HROW2.out, hinvP.out.push hd64, (by rw [prevLeaf_succ HX.out, HLEAF.out]; exact HE.out), HWF.out⟩
                    case measure => simp [intOf]; omega
                  · have e := HGO3.out
                    rw [if_neg hleft] at e
                    have HE := Lib.hid e
                    have hnb : (x.left != ((j + 1 : Nat) : Int) + 1) = true := by simpa using hleft
                    clear e hleft
                    go_wp2_with (at_builtin; refine append_step rfl _ _ _ rfl rfl rfl HRUN.out ?_)
                    go_ret
                    rw [← HE.out]
                    exact ⟨rfl, HWF.out⟩
            · rw [if_neg hr1] at hgo0
              have e : res = false := hgo0.symm
              have HE := Lib.hid e
              have hnr : (r1 != (j : Int) + 1) = true := by simpa using hr1
              clear e hgo hgo0 hr1
              go_wp2_with fail
              go_ret
              rw [HE.out]
              exact ⟨rfl, HB.out⟩
    · have hkl : k = l.length := by omega
      subst hkl
      rw [List.drop_length] at hgo
      have hge : (decide (0 < l.length) && R.isEmpty && prevLeaf l l.length) = res := hgo.out
      have HGE := Lib.hid hge
      clear hgo hge
      rcases (show l = [] ∨ ∃ l0 y, l = l0 ++ [y] by rcases List.eq_nil_or_concat l with h | ⟨a, b, h⟩; exact .inl h; exact .inr ⟨a, b, by rw [h, List.concat_eq_append]⟩) with hl0 | ⟨l0, y, hl0⟩
      · subst hl0
        have e : res = false := HGE.out.symm
        have HE := Lib.hid e
        clear e
        go_wp2_with fail
        go_ret
        rw [HE.out]
        exact ⟨rfl, hw.out⟩
      · have hy : l[l0.length]? = some y := by rw [hl0]; simp
        have hlen : l.length = l0.length + 1 := by rw [hl0]; simp
        have hp : prevLeaf l l.length = y.leaf := by rw [hlen]; exact prevLeaf_succ hy
        obtain ⟨b', o', c', ui, un, hv', _, _, _, _, _, e0, _, _, _, _, _⟩ := nds_at (H.out.below hw.out) hy
        simp at hv'
        obtain ⟨rfl, rfl⟩ := hv'
        have hge := HGE.out
        rw [hp, hlen] at hge
        have HGE2 := Lib.hid hge
        have hpos : (0 : Int) < (l.length : Int) := by omega
        have hidx : (l.length : Int) - 1 = (l0.length : Int) := by omega
        have HLEN := Lib.hid hlen
        have HH := Lib.hid hidx
        clear hge HGE hp hlen hy hl0 hidx
        cases R with
        | nil =>
          have e := HGE2.out
          simp at e
          have HE := Lib.hid e
          clear e HGE2 H
          generalize hn : l.length = n at *
          have hn2 : n = l0.length + 1 := HLEN.out
          subst hn2
          generalize hyl : y.leaf = yl at *
          rcases hrow.out.form with ⟨rfl, _⟩ | ⟨g, cg, rfl, _⟩
          all_goals
            go_wp2_with fail
            go_ret
            rw [HE.out]
            exact ⟨rfl, hw.out⟩
        | cons r R =>
          have e : res = false := by simpa using HGE2.out.symm
          have HE := Lib.hid e
          clear e HGE2
          rcases hrow.out.form with ⟨rfl, h0⟩ | ⟨g, cg, rfl, _⟩
          · simp at h0
          · have hz : (((r :: R).length : Int) == 0) = false := by simp; omega
            go_wp2_with fail
            go_ret
            rw [HE.out]
            exact ⟨rfl, hw.out⟩

end Go.Proofs.Ytfkmkhojedfccaa
