/-
slices.Clone of numbers.
-/
import Derived.Test.YtglghgjbnoldaaaPlain
import Derived.Deep.DeepCutAuto
import Derived.Deep.CutBlock
import Derived.Lib.SliceRun
namespace Go.Proofs.Ytglghgjbnoldaaa
set_option linter.unusedVariables false
set_option linter.unusedSimpArgs false
open Go.RowKit

theorem Row.base {α : Type} {K : Kd α} {M : List Nat} {e : TypeId} {B B' : Nat} {w : World} {v : Value} {l : List α} (h : Row K M e B w v l) (hB : B' ≤ B) : Row K M e B' w v l := by
  obtain ⟨css, ⟨h1, h2⟩, h3, h4⟩ := h.out
  refine ⟨css, ⟨h1, ?_⟩, h3, h4⟩
  rcases h2 with h2 | ⟨g, cap, cur, e1, e2, e3⟩
  · exact .inl h2
  · exact .inr ⟨g, cap, cur, e1, Nat.le_trans hB e2, e3⟩

/-- A literal row of one number. -/
theorem one_at {k : IntKind} {N : List Nat} {w : World} {b : Nat} {x : Int} {t : TypeId} {fr : Nat × Nat} (h : w.heap[b]? = some (.cells #[.int k x] t fr)) (hn : b ∉ N) (hx : (Lit.int k x).wf = true) : (Kd.int k).slice.At N w [.slice (some ⟨b, 0, none⟩) 1 1] [x] :=
  ⟨⟨some ⟨b, 0, none⟩, 1, rfl, Nat.le_refl _, by simp [maxLen], fun i y hy => by
    cases i with
    | zero =>
      simp at hy; subst hy
      refine ⟨b, 0, rfl, ⟨block_lt h, hn⟩, block_lt h, [.int k x], ⟨rfl, hx⟩, fun j v hv => ?_⟩
      cases j with
      | zero => simp at hv; subst hv; simp [World.cell?, h]
      | succ j => simp at hv
    | succ i => simp at hy⟩⟩

theorem Row.int_any {k : IntKind} {M M' : List Nat} {e : TypeId} {B : Nat} {w : World} {v : Value} {l : List Int} (h : Row (Kd.int k) M e B w v l) : Row (Kd.int k) M' e B w v l := by
  obtain ⟨css, h1, h2, h3⟩ := h.out
  exact ⟨css, h1, h2, fun i cs x a b => ⟨at_int (h3 i cs x a b)⟩⟩

theorem A.infoInt : (Try.prog.info? 3).map (fun i => (i.zero, i.size, i.bytes)) = some (some (.int .i64 0), 1, 8) := by kernel_rfl

theorem choose_list {α β : Type} : ∀ (l : List α) (Q : Nat → α → β → Prop), (∀ i x, l[i]? = some x → ∃ y, Q i x y) → ∃ ys : List β, ys.length = l.length ∧ ∀ i x y, l[i]? = some x → ys[i]? = some y → Q i x y
  | [], Q, _ => ⟨[], rfl, by simp⟩
  | a :: l, Q, h => by
    obtain ⟨y, hy⟩ := h 0 a (by simp)
    obtain ⟨ys, h1, h2⟩ := choose_list l (fun i => Q (i + 1)) (fun i x hx => h (i + 1) x (by simpa using hx))
    refine ⟨y :: ys, by simp [h1], fun i x z hx hz => ?_⟩
    cases i with
    | zero => simp at hx hz; subst hx hz; exact hy
    | succ i => simp at hx hz; exact h2 i x z hx hz

theorem flatten_at {n : Nat} : ∀ (css : List (List Value)), (∀ cs ∈ css, cs.length = n) → ∀ (j : Nat) (u : Value), css.flatten[j]? = some u → ∃ (i k : Nat) (cs : List Value), css[i]? = some cs ∧ cs[k]? = some u ∧ j = i * n + k
  | [], _, j, u, h => by simp at h
  | c :: css, hl, j, u, h => by
    have hc := hl c (by simp)
    simp only [List.flatten_cons] at h
    by_cases hj : j < c.length
    · rw [List.getElem?_append_left hj] at h
      exact ⟨0, j, c, by simp, h, by simp⟩
    · rw [List.getElem?_append_right (by omega)] at h
      obtain ⟨i, k, cs, h1, h2, h3⟩ := flatten_at css (fun x hx => hl x (by simp [hx])) _ u h
      exact ⟨i + 1, k, cs, by simpa using h1, h2, by rw [Nat.add_mul]; omega⟩

theorem Kd.slice_cells {α : Type} {K : Kd α} {M : List Nat} {w : World} {a : Addr} {n cap : Nat} {l : List α} (h : K.slice.At M w [.slice (some a) n cap] l) :
    ∃ css : List (List Value), css.length = l.length ∧ (∀ (j : Nat) u, css.flatten[j]? = some u → w.cell? (a.add j) = some u) ∧ ∀ (i : Nat) cs x, css[i]? = some cs → l[i]? = some x → K.At M w cs x := by
  obtain ⟨ys, h1, h2⟩ := choose_list l (fun i x cs => K.At M w cs x ∧ ∀ j v, cs[j]? = some v → w.cell? (a.add (i * K.sz + j)) = some v) (fun i x hx => by
    obtain ⟨b, o, cap', hv, _, _, _, _, cs', hr, hc⟩ := Kd.slice_get h hx
    simp at hv
    obtain ⟨rfl, _, _⟩ := hv
    refine ⟨cs', hr, fun j v hj => ?_⟩
    have : (⟨b, o, none⟩ : Addr).add (i * K.sz + j) = ⟨b, o + i * K.sz + j, none⟩ := by unfold Addr.add; split <;> simp_all; omega
    rw [this]
    exact hc j v hj)
  have h3 : ∀ (i : Nat) cs x, ys[i]? = some cs → l[i]? = some x → K.At M w cs x := fun i cs x hi hx => (h2 i x cs hx hi).1
  refine ⟨ys, h1, fun j u hj => ?_, h3⟩
  obtain ⟨i, k, cs, e1, e2, rfl⟩ := flatten_at ys (row_len h1 h3) j u hj
  have hi := (List.getElem?_eq_some_iff.1 e1).1
  exact (h2 i _ cs (List.getElem?_eq_getElem (by omega)) e1).2 k u e2

theorem Kd.slice_take {α : Type} {K : Kd α} {N : List Nat} {w : World} {ao : Option Addr} {n cap : Nat} {l : List α} (h : K.slice.At N w [.slice ao n cap] l) {k : Nat} (hk : k ≤ l.length) : K.slice.At N w [.slice ao k cap] (l.take k) := by
  obtain ⟨ao', cap', e, h1, h2, h3⟩ := h.out
  simp at e
  obtain ⟨rfl, rfl, rfl⟩ := e
  have hl : (l.take k).length = k := by rw [List.length_take]; omega
  refine ⟨⟨ao, cap, by rw [hl], by rw [hl]; omega, h2, fun i x hx => ?_⟩⟩
  have hi := (List.getElem?_eq_some_iff.1 hx).1
  rw [hl] at hi
  rw [List.getElem?_take_of_lt hi] at hx
  exact h3 i x hx
theorem Kd.slice_drop {α : Type} {K : Kd α} {N : List Nat} {w : World} {ao : Option Addr} {n cap : Nat} {l : List α} (h : K.slice.At N w [.slice ao n cap] l) {k : Nat} (hk : k ≤ l.length) :
    K.slice.At N w [.slice (if cap = k then ao else ao.map (fun x => x.add (k * K.sz))) (n - k) (cap - k)] (l.drop k) := by
  obtain ⟨ao', cap', e, h1, h2, h3⟩ := h.out
  simp at e
  obtain ⟨rfl, rfl, rfl⟩ := e
  refine ⟨⟨_, cap - k, by rw [List.length_drop], by rw [List.length_drop]; omega, by omega, fun i x hx => ?_⟩⟩
  rw [List.getElem?_drop] at hx
  have hi := (List.getElem?_eq_some_iff.1 hx).1
  obtain ⟨b, o, ha, hF, hb, cs', hr, hc⟩ := h3 _ x hx
  refine ⟨b, o + k * K.sz, ?_, hF, hb, cs', hr, fun j v hv => ?_⟩
  · rw [if_neg (by omega), ha]
    simp [Addr.add]
  · have := hc j v hv
    rw [Nat.add_mul] at this
    rw [show o + k * K.sz + i * K.sz + j = o + (k * K.sz + i * K.sz) + j by omega]
    exact this

/-- A new row, empty: 'append([]T{}, ..)'. -/
theorem row_new {α : Type} {K : Kd α} {M : List Nat} {e : TypeId} {B N : Nat} {w : World} (h : w.heap[N]? = some (.cells #[] e)) (hB : B ≤ N) : Row K M e B w (.slice (some ⟨N, 0, none⟩) 0 0) [] :=
  ⟨[], ⟨by simp, .inr ⟨N, 0, #[], rfl, hB, h, Nat.le_refl _, by simp [maxLen], by simp, by simp⟩⟩, rfl, by simp⟩

/-- 'append' of what reads as a slice, onto an owned row: whatever it is. -/
theorem Row.appendAt {α : Type} {K : Kd α} {P : Program} {M : List Nat} {t ty e : TypeId} {B : Nat} {w : World} {v u : Value} {l l2 : List α} (h : Row K M e B w v l)
    (ht : P.underlying t = some (.slice e)) {i : TypeInfo} {z : Value} {bytes : Nat} (hi : P.info? e = some i) (hz : i.zero = some z) (hsize : i.size = K.sz) (hby : i.bytes = bytes) (hzs : z.cells.size = K.sz) (hsz : 0 < K.sz)
    (hu : K.slice.At (ob v ++ M) w [u] l2) (h63 : l.length + l2.length ≤ maxLen) (hbytes : (l.length + l2.length) * bytes ≤ 140737488355328) (hB : B ≤ w.heap.size) :
    ∃ v' w', (Builtin.append_ #[t, t] ty #[v, u]).run P w = .ok v' w' ∧ Row K M e B w' v' (l ++ l2) ∧ Upd (ob v) w w' ∧ (ob v' = ob v ∨ ob v' = [w.heap.size]) := by
  obtain ⟨ao, cap, rfl, hl, hcap⟩ := Kd.slice_form hu
  cases ao with
  | none =>
    have hl0 : l2 = [] := by
      cases l2 with
      | nil => rfl
      | cons x l => obtain ⟨b, o, c, hv, _⟩ := Kd.slice_get hu (i := 0) (x := x) rfl; simp at hv
    subst hl0
    refine ⟨v, w, ?_, by simpa using h, Upd.refl _ _, .inl rfl⟩
    rcases h.out with ⟨css, ⟨_, ⟨rfl, _⟩ | ⟨g, cp, cur, rfl, _, _, hnc, _⟩⟩, _⟩
    · simp [Builtin.append_, run_underlying ht, sizeOf, typeInfo, hi, Builtin.lenOf, Builtin.firstCells]
    · simp [Builtin.append_, run_underlying ht, sizeOf, typeInfo, hi, Builtin.lenOf, Builtin.firstCells, hnc, storeCells]
  | some a =>
    obtain ⟨css, hc1, hc2, hc3⟩ := Kd.slice_cells hu
    exact h.append ht hi hz hsize hby hzs hsz css hc1 hc2 hc3 h63 hbytes hB

/-- The same, as one operation of a region that draws its order. -/
theorem step_row_append {P : Program} {ops : Array Oper} {o : Oper} {a : Act} {w : World} {Kt : Act → World → Prop} {Q : Exit → Act → World → Prop} {E : Prop} (hg : o.guard = none) (s x : Operand) (t : TypeId)
    (hop : o.op = .call { callee := .builtin .append, args := #[s, x], argTypes := #[t, t] })
    {α : Type} {K : Kd α} {M : List Nat} {e : TypeId} {B : Nat} {v u : Value} {l l2 : List α} (hs : a.eval s = v) (hx : a.eval x = u) (h : Row K M e B w v l)
    (ht : P.underlying t = some (.slice e)) {i : TypeInfo} {z : Value} {bytes : Nat} (hi : P.info? e = some i) (hz : i.zero = some z) (hsize : i.size = K.sz) (hby : i.bytes = bytes) (hzs : z.cells.size = K.sz) (hsz : 0 < K.sz)
    (hu : K.slice.At (ob v ++ M) w [u] l2) (h63 : l.length + l2.length ≤ maxLen) (hbytes : (l.length + l2.length) * bytes ≤ 140737488355328) (hB : B ≤ w.heap.size)
    (hK : ∀ v' w', Row K M e B w' v' (l ++ l2) → Upd (ob v) w w' → (ob v' = ob v ∨ ob v' = [w.heap.size]) → Kt (a.put o.dst v') w') :
    if Region.wanted o (yielded ops a.tmps) = true then Oper.wp P o a w Kt Q else E := by
  have hw : Region.wanted o (yielded ops a.tmps) = true := by simp [Region.wanted, hg]
  rw [if_pos hw]
  obtain ⟨v', w', hrun, h1, h2, h3⟩ := h.appendAt (ty := o.type) ht hi hz hsize hby hzs hsz hu h63 hbytes hB
  unfold Oper.wp execOp
  simp only [hop, resolve, invoke, builtin, Sem.run_bind, Sem.run_pure, Result.andThen_ok, List.map_toArray, List.map_cons, List.map_nil, hs, hx, hrun]
  exact hK _ _ h1 h2 h3

set_option maxHeartbeats 1000000 in
set_option maxRecDepth 100000 in
theorem clone_int_calls (v : Value) (l : List Int) (M : List Nat) (w : World) (h : (Kd.int .i64).slice.At M w [v] l) (hlen : l.length ≤ 1099511627776) :
    Calls Try.prog 25 #[v] w fun e w' => ∃ v', e = .returned v' ∧ Below w.heap.size w w' ∧ Row (Kd.int .i64) [] 3 w.heap.size w' v' l := by
  obtain ⟨ao, cap, rfl, hl, hcap⟩ := Kd.slice_form h
  unfold maxLen at hcap
  have H := Lib.hid h
  clear h
  have HEQ : ∀ w, (binOp .eql 24 (.slice ao l.length cap) (.slice none 0 0)).run Try.prog w = .ok (.bool ao.isNone) w := fun w => Lib.run_eql_slice_nil w _ _ ao _ _ _ _ Try.underlying24
  cases ao with
  | none =>
    have hl0 : l = [] := by
      cases l with
      | nil => rfl
      | cons x l => obtain ⟨b, o, c, hv, _⟩ := Kd.slice_get H.out (i := 0) (x := x) rfl; simp at hv
    subst hl0
    simp only [Option.isNone_none, List.length_nil] at HEQ
    have hn := Lib.hid (Row.nil (Kd.int .i64) [] 3 w.heap.size w)
    go_enter Try.func25, Try.ntmps25
    go_wp2_with fail
    go_ret
    exact ⟨_, rfl, Below.refl _ _, hn.out⟩
  | some a =>
    simp only [Option.isNone_some] at HEQ
    obtain ⟨i0, hi, hz0, hz1, hz2⟩ := info_parts A.infoInt
    obtain ⟨css, hc1, hc2, hc3⟩ := Kd.slice_cells H.out
    obtain ⟨W1, hW1⟩ : ∃ W1, w.alloc (.cells #[] 3) = W1 := ⟨_, rfl⟩
    have hu1 : Upd [] w W1 := by rw [← hW1]; exact Upd.alloc [] w _
    have hrow : Row (Kd.int .i64) [] 3 w.heap.size W1 (.slice (some ⟨w.heap.size, 0, none⟩) 0 0) [] := by
      rw [← hW1]
      exact ⟨[], by show World.ownsRow _ _ _ 1 _ _ _; simpa using World.ownsRow_lit (base := w.heap.size) (e := 3) (size := 1) w #[] 0 (Nat.le_refl _) (by simp [maxLen]) (by simp), rfl, by simp⟩
    have hsz : W1.heap.size = w.heap.size + 1 := by rw [← hW1]; simp
    obtain ⟨v', w', hrun, hrow2, hu2, hob⟩ := hrow.append (P := Try.prog) (t := 24) (ty := 24) (l2 := l) (a := a) (c := cap) Try.underlying24 hi hz0 hz1 hz2 rfl (by decide) css hc1
      (fun j u hj => by
        obtain ⟨i, k, cs, e1, e2, rfl⟩ := flatten_at css (row_len hc1 hc3) j u hj
        have hi2 := (List.getElem?_eq_some_iff.1 e1).1
        obtain ⟨b, o, cap', hv, hb, _⟩ := Kd.slice_get H.out (List.getElem?_eq_getElem (show i < l.length by omega))
        simp at hv
        obtain ⟨rfl, _, _⟩ := hv
        rw [hu1.cell (by unfold Addr.add; split <;> simpa using hb) (by simp)]
        exact hc2 _ u hj)
      (fun i cs x h1 h2 => (hc3 i cs x h1 h2).upd hu1 (by simp) (fun k hk => by simp [ob, Value.ownBlock] at hk; exact .inr (by omega)))
      (by simp [maxLen]; omega) (by simp; omega) (by omega)
    rw [← hW1] at hrun
    have HRUN := Lib.hid hrun
    have HROW := Lib.hid hrow2
    have hob2 := hrow.ob_lt
    have HB := Lib.hid ((hu1.below).trans (hu2.belowB (by have := hu1.size; omega) (fun k hk => (hob2 k hk).1)))
    clear hrun hrow2 hu2 hob hrow hu1 hW1 hc1 hc2 hc3 hi hz0 hz1 hz2 hsz hob2
    go_enter Try.func25, Try.ntmps25
    go_wp2_with (at_builtin; refine append_step rfl _ _ _ rfl rfl rfl HRUN.out ?_)
    go_ret
    exact ⟨_, rfl, HB.out, by simpa using HROW.out⟩

end Go.Proofs.Ytglghgjbnoldaaa
