/-
A tree's nodes under copy, one of which stays bare.
-/
import Derived.Test.YtfkmkhojedfccaaSpoP
import Derived.Test.YtfkmkhojedfccaaHole
import Derived.Test.YtfkmkhojedfccaaOpenNd
namespace Go.Proofs.Ytfkmkhojedfccaa
set_option linter.unusedVariables false
set_option linter.unusedSimpArgs false
open Go.RowKit

theorem named_world {K : Act → World → Prop} {a : Act} {w : World} (h : ∀ W, W = w → K a W) : K a w := h w rfl
theorem infoQNode : (Try.prog.info? 48).map (fun i => (i.zero, i.size, i.bytes)) = some (some (.agg #[.bool false, .slice none 0 0, .slice none 0 0, .int .i64 0, .int .i64 0, .int .i64 0]), 6, 80) := by kernel_rfl
theorem infoQ32 : (Try.prog.info? 21).map (fun i => (i.zero, i.size, i.bytes)) = some (some (.int .i32 0), 1, 4) := by kernel_rfl
theorem infoQ64 : (Try.prog.info? 3).map (fun i => (i.zero, i.size, i.bytes)) = some (some (.int .i64 0), 1, 8) := by kernel_rfl
theorem info_of32 : ∃ i, Try.prog.info? 21 = some i ∧ i.zero = some (.int .i32 0) ∧ i.size = 1 ∧ i.bytes = 4 := info_parts infoQ32
theorem info_of64 : ∃ i, Try.prog.info? 3 = some i ∧ i.zero = some (.int .i64 0) ∧ i.size = 1 ∧ i.bytes = 8 := info_parts infoQ64
theorem info_ofNode : ∃ i, Try.prog.info? 48 = some i ∧ i.zero = some (.agg #[.bool false, .slice none 0 0, .slice none 0 0, .int .i64 0, .int .i64 0, .int .i64 0]) ∧ i.size = 6 ∧ i.bytes = 80 := info_parts infoQNode
theorem valid_dim {l : List Nd} {n dim : Int} (h : checkNd l n dim = 0) : dim ≤ 1024 := by
  unfold checkNd at h
  split at h
  · simp at h
  · omega
theorem bare_normal {x : Nd} {dim : Int} (h : bareB x dim = true) (hd : dim ≤ 1024) : x.pl.normal.length ≤ 1024 := by
  cases hl : x.leaf with
  | true => rw [(bare_leafE hl h).2.2]; simp
  | false => have := (planeCheck_ok (bare_splitE hl h).2).1; omega
theorem ints_one {k : IntKind} {N : List Nat} {w : World} {b : Nat} {t : TypeId} {x : Int} (h : w.heap[b]? = some (.cells #[.int k x] t)) (hb : b ∉ N) (hw : (Lit.int k x).wf = true) : (Kd.int k).slice.At N w [.slice (some ⟨b, 0, none⟩) 1 1] [x] := by
  refine ⟨⟨some ⟨b, 0, none⟩, 1, rfl, Nat.le_refl _, by simp [maxLen], fun i y hi => ?_⟩⟩
  match i, hi with
  | 0, hi =>
    simp at hi; subst hi
    refine ⟨b, 0, rfl, ⟨block_lt h, hb⟩, block_lt h, [.int k x], ⟨rfl, hw⟩, fun j u hj => ?_⟩
    rw [cell_of_block h]; cases j with
    | zero => simpa using hj
    | succ j => simp at hj
  | i + 1, hi => simp at hi
theorem hole_one {N : List Nat} {w : World} {b : Nat} {t : TypeId} {cs : List Value} {x : Nd ⊕ List Value} (h : w.heap[b]? = some (.cells cs.toArray t)) (hb : b ∉ N) (hx : kHole.At N w cs x) : kHole.slice.At N w [.slice (some ⟨b, 0, none⟩) 1 1] [x] := by
  refine ⟨⟨some ⟨b, 0, none⟩, 1, rfl, Nat.le_refl _, by simp [maxLen], fun i y hi => ?_⟩⟩
  match i, hi with
  | 0, hi =>
    simp at hi; subst hi
    refine ⟨b, 0, rfl, ⟨block_lt h, hb⟩, block_lt h, cs, hx.out, fun j u hj => ?_⟩
    rw [cell_of_block h]; simpa using hj
  | i + 1, hi => simp at hi

/-- The copy under way: k nodes of l; node number at_, if it is there, stands as bare cells beside its own slices. -/
structure Cpy (B : Nat) (w : World) (v : Value) (l : List Nd) (at_ k : Nat) (M : List Nat) : Prop where
  row : ∃ L, Row kHole M 48 B w v L ∧ L.length = k ∧ (∀ i x, i ≠ at_ → i < k → l[i]? = some x → L[i]? = some (.inl x)) ∧
    (at_ < k → ∀ x, l[at_]? = some x → ∃ vi vn, L[at_]? = some (.inr [.bool x.leaf, vi, vn, .int .i64 x.pl.off, .int .i64 x.left, .int .i64 x.right]) ∧ Row (Kd.int .i64) [] 3 B w vi x.ids ∧ Row (Kd.int .i32) [] 21 B w vn x.pl.normal ∧
      M = ob vi ++ ob vn ∧ (∀ j, j ∈ ob vi → j ∉ ob vn) ∧ ∀ j, j ∈ M → j ∉ ob v)
  early : k ≤ at_ → M = []

theorem Cpy.start (B : Nat) (w : World) (l : List Nd) (at_ : Nat) : Cpy B w (.slice none 0 0) l at_ 0 [] :=
  ⟨⟨[], Row.nil _ _ _ _ _, rfl, fun i x _ h => by omega, fun h => by omega⟩, fun _ => rfl⟩

theorem Cpy.grow {B : Nat} {w W : World} {v vi vn : Value} {l : List Nd} {a k : Nat} {M : List Nat} {x : Nd} (h : Cpy B w v l a k M) (hx : l[k]? = some x) (hu : Upd [] w W) (hB : B ≤ w.heap.size)
    (hi : Row (Kd.int .i64) [] 3 w.heap.size W vi x.ids) (hn : Row (Kd.int .i32) [] 21 w.heap.size W vn x.pl.normal) (hd : ∀ j, j ∈ ob vi → j ∉ ob vn)
    (wo : (Lit.int .i64 x.pl.off).wf = true) (wl : (Lit.int .i64 x.left).wf = true) (wr : (Lit.int .i64 x.right).wf = true) :
    ∃ L y M', L.length = k ∧ (∀ j, j ∈ M' → j < W.heap.size) ∧ Row kHole M' 48 B W v L ∧ kHole.At (ob v ++ M') W [.bool x.leaf, vi, vn, .int .i64 x.pl.off, .int .i64 x.left, .int .i64 x.right] y ∧
      ∀ v' W', Row kHole M' 48 B W' v' (L ++ [y]) → Upd (ob v) W W' → (ob v' = ob v ∨ ∃ g, ob v' = [g] ∧ W.heap.size ≤ g) → Cpy B W' v' l a (k + 1) M' := by
  obtain ⟨⟨L, hr, hL, h1, h2⟩, he⟩ := h
  have hkl : k < l.length := (List.getElem?_eq_some_iff.1 hx).1
  have hob := hr.ob_lt
  have hz := hu.size
  have hobi := hi.ob_lt
  have hobn := hn.ob_lt
  have hM : ∀ j, j ∈ M → j < w.heap.size := fun j hj => by
    by_cases hka : k ≤ a
    · rw [he hka] at hj; simp at hj
    · obtain ⟨vi0, vn0, _, r1, r2, e, _⟩ := h2 (by omega) _ (List.getElem?_eq_getElem (by omega))
      rw [e] at hj
      rcases List.mem_append.1 hj with hj | hj
      · exact (r1.ob_lt j hj).2
      · exact (r2.ob_lt j hj).2
  have ci : vi.oneCell' = true := by rcases hi.form with ⟨rfl, _⟩ | ⟨_, _, rfl, _⟩ <;> rfl
  have cn : vn.oneCell' = true := by rcases hn.form with ⟨rfl, _⟩ | ⟨_, _, rfl, _⟩ <;> rfl
  have hnw : ∀ j, j ∈ ob vi ++ ob vn → w.heap.size ≤ j ∧ j < W.heap.size := fun j hj => by
    rcases List.mem_append.1 hj with hj | hj
    · exact hobi j hj
    · exact hobn j hj
  by_cases hka : k = a
  · subst hka
    refine ⟨L, .inr _, ob vi ++ ob vn, hL, fun j hj => (hnw j hj).2, hr.upd hu (by simp) (by simp) (fun j hj => .inr (hnw j hj).1), hole_inr rfl ?_, fun v' W' hr' hu' ho' => ⟨⟨L ++ [_], hr', by simp [hL], ?_, ?_⟩, fun h => by omega⟩⟩
    · intro u hu
      simp at hu
      rcases hu with rfl | rfl | rfl | rfl | rfl | rfl <;> first | rfl | assumption
    · intro i z hik hi1 hz1
      rw [List.getElem?_append_left (by omega)]
      exact h1 i z hik (by omega) hz1
    · intro _ z hz1
      rw [hx] at hz1
      cases hz1
      refine ⟨vi, vn, by rw [← hL]; simp, ?_, ?_, rfl, hd, fun j hj => ?_⟩
      · exact ((hi.int_any (M' := ob v)).upd hu' (fun j hj => hj) (fun j hj hm => by have := (hobi j hj).1; have := (hob j hm).2; omega) (M' := []) (by simp)).base hB
      · exact ((hn.int_any (M' := ob v)).upd hu' (fun j hj => hj) (fun j hj hm => by have := (hobn j hj).1; have := (hob j hm).2; omega) (M' := []) (by simp)).base hB
      · obtain ⟨q1, q2⟩ := hnw j hj
        rcases ho' with e | ⟨g, e, eg⟩
        · rw [e]; intro hm; have := (hob j hm).2; omega
        · rw [e]; simp; omega
  · refine ⟨L, .inl x, M, hL, fun j hj => Nat.lt_of_lt_of_le (hM j hj) hz, hr.upd hu (by simp) (by simp) (fun j hj => .inl hj), hole_inl (NdAt.shut ⟨(hi.int_any (M' := ob v ++ M)).read ?_, (hn.int_any (M' := ob v ++ M)).read ?_, wo, wl, wr⟩), fun v' W' hr' hu' ho' => ⟨⟨L ++ [_], hr', by simp [hL], ?_, ?_⟩, fun h => he (by omega)⟩⟩
    · intro j hj hm
      have := (hobi j hj).1
      rcases List.mem_append.1 hm with hm | hm
      · have := (hob j hm).2; omega
      · have := hM j hm; omega
    · intro j hj hm
      have := (hobn j hj).1
      rcases List.mem_append.1 hm with hm | hm
      · have := (hob j hm).2; omega
      · have := hM j hm; omega
    · intro i z hik hi1 hz1
      by_cases hik2 : i = k
      · subst hik2
        rw [hx] at hz1
        cases hz1
        rw [← hL]; simp
      · rw [List.getElem?_append_left (by omega)]
        exact h1 i z hik (by omega) hz1
    · intro hak z hz1
      obtain ⟨vi0, vn0, e0, r1, r2, e, d, hv⟩ := h2 (by omega) z hz1
      refine ⟨vi0, vn0, by rw [List.getElem?_append_left (by omega)]; exact e0, ?_, ?_, e, d, fun j hj => ?_⟩
      · exact (((r1.upd hu (by simp) (by simp) (M' := []) (by simp)).int_any (M' := ob v)).upd hu' (fun j hj => hj) (fun j hj => hv j (by rw [e]; simp [hj])) (M' := []) (by simp))
      · exact (((r2.upd hu (by simp) (by simp) (M' := []) (by simp)).int_any (M' := ob v)).upd hu' (fun j hj => hj) (fun j hj => hv j (by rw [e]; simp [hj])) (M' := []) (by simp))
      · have := hM j hj
        rcases ho' with e' | ⟨g, e', eg⟩
        · rw [e']; exact hv j hj
        · rw [e']; simp; omega

theorem Cpy.upd {B : Nat} {w W : World} {v : Value} {l : List Nd} {a k : Nat} {M : List Nat} (h : Cpy B w v l a k M) (hu : Upd [] w W) : Cpy B W v l a k M := by
  obtain ⟨⟨L, hr, hL, h1, h2⟩, he⟩ := h
  refine ⟨⟨L, hr.upd hu (by simp) (by simp) (fun j hj => .inl hj), hL, h1, fun hak x hx => ?_⟩, he⟩
  obtain ⟨vi, vn, e, ri, rn, r⟩ := h2 hak x hx
  exact ⟨vi, vn, e, ri.upd hu (by simp) (by simp) (M' := []) (by simp), rn.upd hu (by simp) (by simp) (M' := []) (by simp), r⟩

/-- The bare node of a whole copy. -/
theorem Cpy.bare {B : Nat} {w : World} {v : Value} {l : List Nd} {a : Nat} {M : List Nat} {x : Nd} (h : Cpy B w v l a l.length M) (hx : l[a]? = some x) :
    ∃ g cap vi vn, v = .slice (some ⟨g, 0, none⟩) l.length cap ∧ l.length ≤ cap ∧ cap ≤ maxLen ∧ B ≤ g ∧ g < w.heap.size ∧ g ∉ M ∧ M = ob vi ++ ob vn ∧ (∀ j, j ∈ ob vi → j ∉ ob vn) ∧
      Row (Kd.int .i64) [] 3 B w vi x.ids ∧ Row (Kd.int .i32) [] 21 B w vn x.pl.normal ∧ (∀ j, w.frozen? ⟨g, j, none⟩ = false) ∧
      w.cell? ⟨g, a * 6, none⟩ = some (.bool x.leaf) ∧ w.cell? ⟨g, a * 6 + 1, none⟩ = some vi ∧ w.cell? ⟨g, a * 6 + 2, none⟩ = some vn ∧ w.cell? ⟨g, a * 6 + 3, none⟩ = some (.int .i64 x.pl.off) ∧
      w.cell? ⟨g, a * 6 + 4, none⟩ = some (.int .i64 x.left) ∧ w.cell? ⟨g, a * 6 + 5, none⟩ = some (.int .i64 x.right) := by
  obtain ⟨⟨L, hr, hL, h1, h2⟩, he⟩ := h
  have hal : a < l.length := (List.getElem?_eq_some_iff.1 hx).1
  obtain ⟨vi, vn, e, ri, rn, eM, d, hv⟩ := h2 hal x hx
  obtain ⟨g, cap, cs, hv', hB, hg, hc, hm, ha, hcs, hf⟩ := hr.get e
  have hcs6 : cs = [.bool x.leaf, vi, vn, .int .i64 x.pl.off, .int .i64 x.left, .int .i64 x.right] := ha.out.1
  subst hcs6
  rw [hL] at hv' hc
  refine ⟨g, cap, vi, vn, hv', hc, hm, hB, hg, fun hm => hv g hm (by rw [hv']; simp [ob, Value.ownBlock]), eM, d, ri, rn, hf, ?_⟩
  exact ⟨hcs 0 _ rfl, hcs 1 _ rfl, hcs 2 _ rfl, hcs 3 _ rfl, hcs 4 _ rfl, hcs 5 _ rfl⟩

/-- What a whole copy reads as, once its bare node has been turned. -/
theorem Cpy.spoilt {B g : Nat} {w w' : World} {v vi vn : Value} {l : List Nd} {a : Nat} {M : List Nat} {y : Nd} (h : Cpy B w v l a l.length M) (hg : ob v = [g]) (hgM : g ∉ M) (hM : ∀ j, j ∈ M → j < w.heap.size) (hu : Upd (g :: M) w w')
    (hcell : ∀ i j, i ≠ a → j < 6 → w'.cell? ⟨g, i * 6 + j, none⟩ = w.cell? ⟨g, i * 6 + j, none⟩) (hn : NdAt [] w' vi vn y)
    (c0 : w'.cell? ⟨g, a * 6, none⟩ = some (.bool y.leaf)) (c1 : w'.cell? ⟨g, a * 6 + 1, none⟩ = some vi) (c2 : w'.cell? ⟨g, a * 6 + 2, none⟩ = some vn) (c3 : w'.cell? ⟨g, a * 6 + 3, none⟩ = some (.int .i64 y.pl.off))
    (c4 : w'.cell? ⟨g, a * 6 + 4, none⟩ = some (.int .i64 y.left)) (c5 : w'.cell? ⟨g, a * 6 + 5, none⟩ = some (.int .i64 y.right)) (ha : a < l.length) : kNd.slice.At [] w' [v] (l.set a y) := by
  obtain ⟨⟨L, hr, hL, h1, h2⟩, he⟩ := h
  refine hole_read (k := a) (g := g) (S := []) hr (by simp [hL]) hg (by simp) (by simp) (fun i x hi hx => ?_) hu hcell (fun z hz => ?_)
  · rw [List.getElem?_set_ne (fun e => hi e.symm)] at hx
    exact h1 i x hi ((List.getElem?_eq_some_iff.1 hx).1) hx
  · rw [List.getElem?_set_self ha] at hz
    cases hz
    refine ⟨_, hn.shut, fun j u hj => ?_⟩
    match j, hj with
    | 0, hj => simp at hj; subst hj; exact c0
    | 1, hj => simp at hj; subst hj; exact c1
    | 2, hj => simp at hj; subst hj; exact c2
    | 3, hj => simp at hj; subst hj; exact c3
    | 4, hj => simp at hj; subst hj; exact c4
    | 5, hj => simp at hj; subst hj; exact c5
    | j + 6, hj => simp at hj

/-- As it was copied. -/
theorem Cpy.read {B : Nat} {w : World} {v : Value} {l : List Nd} {a : Nat} {M : List Nat} {x : Nd} (h : Cpy B w v l a l.length M) (hx : l[a]? = some x) (wo : (Lit.int .i64 x.pl.off).wf = true) (wl : (Lit.int .i64 x.left).wf = true) (wr : (Lit.int .i64 x.right).wf = true) : kNd.slice.At [] w [v] l := by
  obtain ⟨g, cap, vi, vn, hv, _, _, _, hg, hgM, eM, _, ri, rn, _, c0, c1, c2, c3, c4, c5⟩ := h.bare hx
  have hM : ∀ j, j ∈ M → j < w.heap.size := fun j hj => by
    rw [eM] at hj
    rcases List.mem_append.1 hj with hj | hj
    · exact (ri.ob_lt j hj).2
    · exact (rn.ob_lt j hj).2
  have hset : l.set a x = l := by
    have ha := (List.getElem?_eq_some_iff.1 hx).1
    have e := (List.getElem?_eq_some_iff.1 hx).2
    rw [← e]
    exact List.set_getElem_self ha
  have := h.spoilt (y := x) (by rw [hv]; simp [ob, Value.ownBlock]) hgM hM (Upd.refl _ _) (fun _ _ _ _ => rfl) ⟨ri.read (by simp), rn.read (by simp), wo, wl, wr⟩ c0 c1 c2 c3 c4 c5 (List.getElem?_eq_some_iff.1 hx).1
  rwa [hset] at this

theorem valid_sides {l : List Nd} {n dim : Int} {k : Nat} {x : Nd} (h : checkNd l n dim = 0) (hx : l[k]? = some x) : 0 ≤ x.left ∧ x.left ≤ (l.length : Int) ∧ 0 ≤ x.right ∧ x.right ≤ (l.length : Int) := by
  have hv := valid_of h
  have hk : k < l.length := (List.getElem?_eq_some_iff.1 hx).1
  have bx := hv.bare x (List.mem_of_getElem? hx)
  cases hl : x.leaf with
  | true =>
    obtain ⟨a1, a2, _⟩ := bare_leafE hl bx
    omega
  | false =>
    obtain ⟨v, ht⟩ := hv.tree
    obtain ⟨a1, f1, d1, va, m1, g1, r1⟩ := treeGo_node l dim 65 0 0 v _ ht k (by omega) hk x hx hl
    have := treeGo_lt l dim _ _ _ _ _ g1
    omega

theorem i64_wf' {x : Int} (h1 : -9223372036854775808 ≤ x) (h2 : x ≤ 9223372036854775807) : (Lit.int .i64 x).wf = true := by
  have e1 : IntKind.i64.min = -9223372036854775808 := by decide
  have e2 : IntKind.i64.max = 9223372036854775807 := by decide
  show (decide (IntKind.i64.min ≤ x) && decide (x ≤ IntKind.i64.max)) = true
  rw [e1, e2]
  simp [h1, h2]

/-- What is asked at the end, of a tree and a spoilt one. -/
structure Tail (W : World) (tv uv : Value) (n dim : Int) : Prop where
  ck : Calls Try.prog 21 #[uv, .int .i64 n, .int .i64 dim] W fun e w' => e = .returned (.int .i64 14) ∧ Below W.heap.size W w'
  s1 : ∀ V, Below W.heap.size W V → Calls Try.prog 20 #[tv, uv] V fun e w' => e = .returned (.bool false) ∧ Below V.heap.size V w'
  s2 : ∀ V, Below W.heap.size W V → Calls Try.prog 20 #[uv, tv] V fun e w' => e = .returned (.bool false) ∧ Below V.heap.size V w'
theorem tail_of {W : World} {tv uv : Value} {l u : List Nd} {n dim : Int} (ht : kNd.slice.At [] W [tv] l) (hu : kNd.slice.At [] W [uv] u) (hc : checkNd u n dim = 14) (hne : l ≠ u) (hs : ∀ x ∈ u, x.ids.length ≤ 1099511627776) : Tail W tv uv n dim := by
  have hd1 : decide (l = u) = false := by simpa using hne
  have hd2 : decide (u = l) = false := by simpa using fun e => hne e.symm
  refine ⟨?_, fun V hV => ?_, fun V hV => ?_⟩
  · have := shape_check_calls uv u n dim [] W hu hs
    rwa [hc] at this
  · have := shape_same_calls tv uv l u [] V (ht.below hV) (hu.below hV)
    rwa [hd1] at this
  · have := shape_same_calls uv tv u l [] V (hu.below hV) (ht.below hV)
    rwa [hd2] at this

/-- All that is known ahead of the switch. -/
structure EndC (w3 w : World) (tv : Value) (l : List Nd) (n dim : Int) (a g cap : Nat) (M : List Nat) (x : Nd) (vi vn : Value) : Prop where
  h3 : kNd.slice.At [] w3 [tv] l
  hb : Below w3.heap.size w3 w
  hc : Cpy w3.heap.size w (.slice (some ⟨g, 0, none⟩) l.length cap) l a l.length M
  gM : g ∉ M
  Mlt : ∀ j, j ∈ M → j < w.heap.size
  Mge : ∀ j, j ∈ M → w3.heap.size ≤ j
  Bg : w3.heap.size ≤ g
  gw : g < w.heap.size
  ck : checkNd l n dim = 0
  hx : l[a]? = some x
  ids : ∀ z ∈ l, z.ids.length ≤ 1099511627775
  eM : M = ob vi ++ ob vn
  d : ∀ j, j ∈ ob vi → j ∉ ob vn
  ri : Row (Kd.int .i64) [] 3 w3.heap.size w vi x.ids
  rn : Row (Kd.int .i32) [] 21 w3.heap.size w vn x.pl.normal
  c0 : w.cell? ⟨g, a * 6, none⟩ = some (.bool x.leaf)
  c1 : w.cell? ⟨g, a * 6 + 1, none⟩ = some vi
  c2 : w.cell? ⟨g, a * 6 + 2, none⟩ = some vn
  c3 : w.cell? ⟨g, a * 6 + 3, none⟩ = some (.int .i64 x.pl.off)
  c4 : w.cell? ⟨g, a * 6 + 4, none⟩ = some (.int .i64 x.left)
  c5 : w.cell? ⟨g, a * 6 + 5, none⟩ = some (.int .i64 x.right)
  wo : (Lit.int .i64 x.pl.off).wf = true
  wl : (Lit.int .i64 x.left).wf = true
  wr : (Lit.int .i64 x.right).wf = true

theorem spoils_ids {by_ : Int} {x y : Nd} (h : Spoils by_ x y) : y.ids.length ≤ x.ids.length + 1 := by
  cases h <;> simp

theorem EndC.fin {w3 w W : World} {tv : Value} {l : List Nd} {n dim by_ : Int} {a g cap : Nat} {M : List Nat} {x y : Nd} {vi vn vi' vn' : Value} (E : EndC w3 w tv l n dim a g cap M x vi vn) (hs : Spoils by_ x y) (hu : Upd (g :: M) w W)
    (hcell : ∀ i j, i ≠ a → j < 6 → W.cell? ⟨g, i * 6 + j, none⟩ = w.cell? ⟨g, i * 6 + j, none⟩) (hn : NdAt [] W vi' vn' y)
    (c0 : W.cell? ⟨g, a * 6, none⟩ = some (.bool y.leaf)) (c1 : W.cell? ⟨g, a * 6 + 1, none⟩ = some vi') (c2 : W.cell? ⟨g, a * 6 + 2, none⟩ = some vn') (c3 : W.cell? ⟨g, a * 6 + 3, none⟩ = some (.int .i64 y.pl.off))
    (c4 : W.cell? ⟨g, a * 6 + 4, none⟩ = some (.int .i64 y.left)) (c5 : W.cell? ⟨g, a * 6 + 5, none⟩ = some (.int .i64 y.right)) : Tail W tv (.slice (some ⟨g, 0, none⟩) l.length cap) n dim ∧ Below w3.heap.size w3 W := by
  have ha := (List.getElem?_eq_some_iff.1 E.hx).1
  have hbl : Below w3.heap.size w3 W := E.hb.trans (hu.belowB E.hb.size (fun k hk => by
    rcases List.mem_cons.1 hk with rfl | hk
    · exact E.Bg
    · exact E.Mge k hk))
  refine ⟨tail_of (E.h3.below hbl) (E.hc.spoilt (by simp [ob, Value.ownBlock]) E.gM E.Mlt hu hcell hn c0 c1 c2 c3 c4 c5 ha) (spoilt_set E.ck E.hx hs) (spoilt_ne E.hx hs) (fun z hz => ?_), hbl⟩
  rcases List.mem_or_eq_of_mem_set hz with hz | rfl
  · have := E.ids z hz; omega
  · have := E.ids x (List.mem_of_getElem? E.hx)
    have := spoils_ids hs
    omega

theorem set_far (w : World) (g a f i j : Nat) (val : Value) (hi : i ≠ a) (hj : j < 6) (hf : f < 6) : (w.setCell ⟨g, a * 6 + f, none⟩ val).cell? ⟨g, i * 6 + j, none⟩ = w.cell? ⟨g, i * 6 + j, none⟩ :=
  World.cell?_setCell_other _ _ _ _ (fun e => by simp at e <;> omega)
theorem set_near (w : World) (g a f j : Nat) (val : Value) (hj : f ≠ j) : (w.setCell ⟨g, a * 6 + f, none⟩ val).cell? ⟨g, a * 6 + j, none⟩ = w.cell? ⟨g, a * 6 + j, none⟩ :=
  World.cell?_setCell_other _ _ _ _ (fun e => by simp at e <;> omega)

section
variable {w3 w : World} {tv : Value} {l : List Nd} {n dim by_ : Int} {a g cap : Nat} {M : List Nat} {x : Nd} {vi vn : Value}

theorem EndC.rows (E : EndC w3 w tv l n dim a g cap M x vi vn) (p : Addr) (hp : p.block = g) (val : Value) : (Kd.int .i64).slice.At [] (w.setCell p val) [vi] x.ids ∧ (Kd.int .i32).slice.At [] (w.setCell p val) [vn] x.pl.normal := by
  have hgi : g ∉ ob vi := fun h => E.gM (by rw [E.eM]; simp [h])
  have hgn : g ∉ ob vn := fun h => E.gM (by rw [E.eM]; simp [h])
  refine ⟨(((E.ri.int_any (M' := [g])).upd (Upd.setCell (S := [g]) (by simp [hp]) val) (fun j hj => hj) (fun j hj hm => by simp at hm; subst hm; exact hgi hj) (M' := []) (by simp))).read (by simp), (((E.rn.int_any (M' := [g])).upd (Upd.setCell (S := [g]) (by simp [hp]) val) (fun j hj => hj) (fun j hj hm => by simp at hm; subst hm; exact hgn hj) (M' := []) (by simp))).read (by simp)⟩

theorem EndC.left (E : EndC w3 w tv l n dim a g cap M x vi vn) (hb : by_ ≠ 0) (hw : (Lit.int .i64 (x.left + by_)).wf = true) : Tail (w.setCell ⟨g, a * 6 + 4, none⟩ (.int .i64 (x.left + by_))) tv (.slice (some ⟨g, 0, none⟩) l.length cap) n dim ∧ Below w3.heap.size w3 (w.setCell ⟨g, a * 6 + 4, none⟩ (.int .i64 (x.left + by_))) := by
  obtain ⟨r1, r2⟩ := E.rows ⟨g, a * 6 + 4, none⟩ rfl (.int .i64 (x.left + by_))
  exact E.fin (y := { x with left := x.left + by_ }) (.left hb) (Upd.setCell (by simp) _) (fun i j hi hj => set_far w g a 4 i j _ hi hj (by decide)) ⟨r1, r2, E.wo, hw, E.wr⟩
    ((set_near w g a 4 0 _ (by decide)).trans E.c0) ((set_near w g a 4 1 _ (by decide)).trans E.c1) ((set_near w g a 4 2 _ (by decide)).trans E.c2) ((set_near w g a 4 3 _ (by decide)).trans E.c3) (World.cell?_setCell_same _ _ _ E.c4) ((set_near w g a 4 5 _ (by decide)).trans E.c5)
theorem EndC.right (E : EndC w3 w tv l n dim a g cap M x vi vn) (hb : by_ ≠ 0) (hw : (Lit.int .i64 (x.right + by_)).wf = true) : Tail (w.setCell ⟨g, a * 6 + 5, none⟩ (.int .i64 (x.right + by_))) tv (.slice (some ⟨g, 0, none⟩) l.length cap) n dim ∧ Below w3.heap.size w3 (w.setCell ⟨g, a * 6 + 5, none⟩ (.int .i64 (x.right + by_))) := by
  obtain ⟨r1, r2⟩ := E.rows ⟨g, a * 6 + 5, none⟩ rfl (.int .i64 (x.right + by_))
  exact E.fin (y := { x with right := x.right + by_ }) (.right hb) (Upd.setCell (by simp) _) (fun i j hi hj => set_far w g a 5 i j _ hi hj (by decide)) ⟨r1, r2, E.wo, E.wl, hw⟩
    ((set_near w g a 5 0 _ (by decide)).trans E.c0) ((set_near w g a 5 1 _ (by decide)).trans E.c1) ((set_near w g a 5 2 _ (by decide)).trans E.c2) ((set_near w g a 5 3 _ (by decide)).trans E.c3) ((set_near w g a 5 4 _ (by decide)).trans E.c4) (World.cell?_setCell_same _ _ _ E.c5)
theorem EndC.leaf (E : EndC w3 w tv l n dim a g cap M x vi vn) : Tail (w.setCell ⟨g, a * 6, none⟩ (.bool !x.leaf)) tv (.slice (some ⟨g, 0, none⟩) l.length cap) n dim ∧ Below w3.heap.size w3 (w.setCell ⟨g, a * 6, none⟩ (.bool !x.leaf)) := by
  obtain ⟨r1, r2⟩ := E.rows ⟨g, a * 6, none⟩ rfl (.bool !x.leaf)
  exact E.fin (y := { x with leaf := !x.leaf }) (by_ := 1) .leaf (Upd.setCell (by simp) _) (fun i j hi hj => set_far w g a 0 i j _ hi hj (by decide)) ⟨r1, r2, E.wo, E.wl, E.wr⟩
    (World.cell?_setCell_same _ _ _ E.c0) ((set_near w g a 0 1 _ (by decide)).trans E.c1) ((set_near w g a 0 2 _ (by decide)).trans E.c2) ((set_near w g a 0 3 _ (by decide)).trans E.c3) ((set_near w g a 0 4 _ (by decide)).trans E.c4) ((set_near w g a 0 5 _ (by decide)).trans E.c5)
theorem EndC.idsE (E : EndC w3 w tv l n dim a g cap M x vi vn) {o : Obj} {w5 : World} {v5 : Value} (hr : Row (Kd.int .i64) [] 3 w3.heap.size w5 v5 (x.ids ++ [by_])) (hu : Upd (ob vi) (w.alloc o) w5) (ho : ob v5 = ob vi ∨ ob v5 = [(w.alloc o).heap.size]) :
    Tail (w5.setCell ⟨g, a * 6 + 1, none⟩ v5) tv (.slice (some ⟨g, 0, none⟩) l.length cap) n dim ∧ Below w3.heap.size w3 (w5.setCell ⟨g, a * 6 + 1, none⟩ v5) := by
  have hgi : g ∉ ob vi := fun h => E.gM (by rw [E.eM]; simp [h])
  have hgn : g ∉ ob vn := fun h => E.gM (by rw [E.eM]; simp [h])
  have hg5 : g ∉ ob v5 := by
    rcases ho with e | e <;> rw [e]
    · exact hgi
    · have := E.gw; simp; omega
  have hul : Upd (ob vi) w w5 := (Upd.alloc _ w o).trans hu
  have hk : ∀ j, w5.cell? ⟨g, j, none⟩ = w.cell? ⟨g, j, none⟩ := fun j => hul.cell (a := ⟨g, j, none⟩) E.gw hgi
  have hrn : Row (Kd.int .i32) [] 21 w3.heap.size w5 vn x.pl.normal := ((E.rn.int_any (M' := ob vi)).upd hul (fun j hj => hj) (fun j hj hm => E.d j hm hj) (M' := []) (by simp))
  have r1 := (((hr.int_any (M' := [g])).upd (Upd.setCell (S := [g]) (p := ⟨g, a * 6 + 1, none⟩) (by simp) v5) (fun j hj => hj) (fun j hj hm => by simp at hm; subst hm; exact hg5 hj) (M' := []) (by simp))).read (by simp)
  have r2 := (((hrn.int_any (M' := [g])).upd (Upd.setCell (S := [g]) (p := ⟨g, a * 6 + 1, none⟩) (by simp) v5) (fun j hj => hj) (fun j hj hm => by simp at hm; subst hm; exact hgn hj) (M' := []) (by simp))).read (by simp)
  exact E.fin (y := { x with ids := x.ids ++ [by_] }) (by_ := by_) .ids ((hul.mono (fun k hk _ => by rw [E.eM]; simp [hk])).trans (Upd.setCell (by simp) _)) (fun i j hi hj => (set_far w5 g a 1 i j _ hi hj (by decide)).trans (hk _)) ⟨r1, r2, E.wo, E.wl, E.wr⟩
    ((set_near w5 g a 1 0 _ (by decide)).trans ((hk _).trans E.c0)) (World.cell?_setCell_same _ _ _ ((hk _).trans E.c1)) ((set_near w5 g a 1 2 _ (by decide)).trans ((hk _).trans E.c2)) ((set_near w5 g a 1 3 _ (by decide)).trans ((hk _).trans E.c3)) ((set_near w5 g a 1 4 _ (by decide)).trans ((hk _).trans E.c4)) ((set_near w5 g a 1 5 _ (by decide)).trans ((hk _).trans E.c5))
theorem EndC.normalE (E : EndC w3 w tv l n dim a g cap M x vi vn) {o : Obj} {w5 : World} {v5 : Value} (hr : Row (Kd.int .i32) [] 21 w3.heap.size w5 v5 (x.pl.normal ++ [0])) (hu : Upd (ob vn) (w.alloc o) w5) (ho : ob v5 = ob vn ∨ ob v5 = [(w.alloc o).heap.size]) :
    Tail (w5.setCell ⟨g, a * 6 + 2, none⟩ v5) tv (.slice (some ⟨g, 0, none⟩) l.length cap) n dim ∧ Below w3.heap.size w3 (w5.setCell ⟨g, a * 6 + 2, none⟩ v5) := by
  have hgi : g ∉ ob vi := fun h => E.gM (by rw [E.eM]; simp [h])
  have hgn : g ∉ ob vn := fun h => E.gM (by rw [E.eM]; simp [h])
  have hg5 : g ∉ ob v5 := by
    rcases ho with e | e <;> rw [e]
    · exact hgn
    · have := E.gw; simp; omega
  have hul : Upd (ob vn) w w5 := (Upd.alloc _ w o).trans hu
  have hk : ∀ j, w5.cell? ⟨g, j, none⟩ = w.cell? ⟨g, j, none⟩ := fun j => hul.cell (a := ⟨g, j, none⟩) E.gw hgn
  have hri : Row (Kd.int .i64) [] 3 w3.heap.size w5 vi x.ids := ((E.ri.int_any (M' := ob vn)).upd hul (fun j hj => hj) (fun j hj hm => E.d j hj hm) (M' := []) (by simp))
  have r1 := (((hri.int_any (M' := [g])).upd (Upd.setCell (S := [g]) (p := ⟨g, a * 6 + 2, none⟩) (by simp) v5) (fun j hj => hj) (fun j hj hm => by simp at hm; subst hm; exact hgi hj) (M' := []) (by simp))).read (by simp)
  have r2 := (((hr.int_any (M' := [g])).upd (Upd.setCell (S := [g]) (p := ⟨g, a * 6 + 2, none⟩) (by simp) v5) (fun j hj => hj) (fun j hj hm => by simp at hm; subst hm; exact hg5 hj) (M' := []) (by simp))).read (by simp)
  exact E.fin (y := { x with pl := ⟨x.pl.normal ++ [0], x.pl.off⟩ }) (by_ := 1) .normal ((hul.mono (fun k hk _ => by rw [E.eM]; simp [hk])).trans (Upd.setCell (by simp) _)) (fun i j hi hj => (set_far w5 g a 2 i j _ hi hj (by decide)).trans (hk _)) ⟨r1, r2, E.wo, E.wl, E.wr⟩
    ((set_near w5 g a 2 0 _ (by decide)).trans ((hk _).trans E.c0)) ((set_near w5 g a 2 1 _ (by decide)).trans ((hk _).trans E.c1)) (World.cell?_setCell_same _ _ _ ((hk _).trans E.c2)) ((set_near w5 g a 2 3 _ (by decide)).trans ((hk _).trans E.c3)) ((set_near w5 g a 2 4 _ (by decide)).trans ((hk _).trans E.c4)) ((set_near w5 g a 2 5 _ (by decide)).trans ((hk _).trans E.c5))
theorem EndC.cut (E : EndC w3 w tv l n dim a g cap M x vi vn) : Tail w tv (.slice (some ⟨g, 0, none⟩) a cap) n dim ∧ Below w3.heap.size w3 w := by
  have ha := (List.getElem?_eq_some_iff.1 E.hx).1
  refine ⟨tail_of (E.h3.below E.hb) (Kd.slice_take (E.hc.read E.hx E.wo E.wl E.wr) (Nat.le_of_lt ha)) (spoilt_take E.ck ha) (fun e => ?_) (fun z hz => ?_), E.hb⟩
  · have := congrArg List.length e
    rw [List.length_take] at this
    omega
  · have := E.ids z (List.mem_of_mem_take hz); omega
end

end Go.Proofs.Ytfkmkhojedfccaa
