/-
shape.Walk: each place, and its depth.
-/
import Derived.Test.YtiplifkbegmeiaaIters
import Derived.Sort.QuietTacIn
namespace Go.Proofs.Ytiplifkbegmeiaa
set_option linter.unusedVariables false
set_option linter.unusedSimpArgs false
open Go.RowKit

/-- A kind that says nothing of memory: whoever turns whatever. -/
theorem Row.any {α : Type} {K : Kd α} (hF : ∀ {F F' : Nat → Prop} {w w' : World} {cs : List Value} {x : α}, K.rep F w cs x → K.rep F' w' cs x) {M M' : List Nat} {e : TypeId} {B : Nat} {w : World} {v : Value} {l : List α} (h : Row K M e B w v l) : Row K M' e B w v l := by
  obtain ⟨css, h1, h2, h3⟩ := h.out
  exact ⟨css, h1, h2, fun i cs x a b => ⟨hF (h3 i cs x a b).out⟩⟩
theorem Row.updAny {α : Type} {K : Kd α} (hF : ∀ {F F' : Nat → Prop} {w w' : World} {cs : List Value} {x : α}, K.rep F w cs x → K.rep F' w' cs x) {M M' S : List Nat} {e : TypeId} {B : Nat} {w w' : World} {v : Value} {l : List α} (h : Row K M e B w v l)
    (hu : Upd S w w') (ho : ∀ k, k ∈ ob v → k ∉ S) : Row K M' e B w' v l :=
  Row.upd (M := S ++ M') (Row.any hF h) hu (fun k hk => by simp [hk]) ho (fun k hk => .inl (by simp [hk]))

theorem append_stepIn {F : Fence} {n : Nat} {P : Program} {w : World} {ops : Array Oper} {rest : List Oper} {o : Oper} {a : Act} {Q : Exit → Act → World → Prop} (hgd : o.guard = none) (s x : Operand) (t : TypeId)
    (ho : o.op = .call { callee := .builtin .append, args := #[s, x], argTypes := #[t, t] }) {v u v' : Value} {w' : World} (hs : a.eval s = v) (hx : a.eval x = u)
    (hrun : (Builtin.append_ #[t, t] o.type #[v, u]).run P w = .ok v' w') (h : wpListIn F n P ops Q rest (a.put o.dst v') w') : wpListIn F n P ops Q (o :: rest) a w := by
  refine wpListIn_plain hgd fun K hK => ?_
  unfold Oper.wpIn
  refine ⟨?_, ?_⟩
  · simp [Oper.about, ho, resolve, Target.leads, Sem.run_pure]
  · rw [Oper.semAt_plain F _ _ (by rw [ho]; intro c hc'; cases hc')]
    simp [execOp, ho, resolve, invoke, builtin, hs, hx, hrun, Result.andThen]
    exact hK _ _ h

def popAt (k : Nat) (R : List (Int × Int)) (d : Int) : Int × List (Int × Int) :=
  match R.getLast? with
  | some r => if r.1 = (k : Int) then (r.2, R.dropLast) else (d, R)
  | none => (d, R)
/-- What shape.Walk tells from place k on: rights is what its stack holds. -/
def walkGo : List Nd → Nat → List (Int × Int) → Int → List (Int × Int)
  | [], _, _, _ => []
  | x :: l, k, R, d => ((k : Int), (popAt k R d).1) :: (if x.leaf then walkGo l (k + 1) (popAt k R d).2 (popAt k R d).1 else walkGo l (k + 1) ((popAt k R d).2 ++ [(x.right, (popAt k R d).1 + 1)]) ((popAt k R d).1 + 1))
def walkOf (l : List Nd) : List (Int × Int) := walkGo l 0 [] 0
theorem popAt_nil (k : Nat) (d : Int) : popAt k [] d = (d, []) := rfl
theorem popAt_eq {k : Nat} {R : List (Int × Int)} {r : Int × Int} {d : Int} (h : r.1 = (k : Int)) : popAt k (R ++ [r]) d = (r.2, R) := by simp [popAt, h]
theorem popAt_ne {k : Nat} {R : List (Int × Int)} {r : Int × Int} {d : Int} (h : ¬ r.1 = (k : Int)) : popAt k (R ++ [r]) d = (d, R ++ [r]) := by simp [popAt, h]
theorem walkGo_cons {x : Nd} {l : List Nd} {k : Nat} {R R' : List (Int × Int)} {d d' : Int} (h : popAt k R d = (d', R')) :
    walkGo (x :: l) k R d = ((k : Int), d') :: (if x.leaf then walkGo l (k + 1) R' d' else walkGo l (k + 1) (R' ++ [(x.right, d' + 1)]) (d' + 1)) := by simp [walkGo, h]

structure WInv (R : List (Int × Int)) (d : Int) (k : Nat) : Prop where
  d0 : 0 ≤ d
  dk : d ≤ k
  len : R.length ≤ k
  all : ∀ r ∈ R, 0 ≤ r.2 ∧ r.2 ≤ k
theorem WInv.nil : WInv [] 0 0 := ⟨by omega, by omega, by simp, by simp⟩
theorem WInv.pop {R : List (Int × Int)} {r : Int × Int} {d : Int} {k : Nat} (h : WInv (R ++ [r]) d k) : WInv R r.2 k :=
  ⟨(h.all r (by simp)).1, (h.all r (by simp)).2, by have := h.len; simp at this; omega, fun q hq => h.all q (by simp [hq])⟩
theorem WInv.succ {R : List (Int × Int)} {d : Int} {k : Nat} (h : WInv R d k) : WInv R d (k + 1) :=
  ⟨h.d0, by have := h.dk; omega, by have := h.len; omega, fun q hq => by have := h.all q hq; omega⟩
theorem WInv.push {R : List (Int × Int)} {d a : Int} {k : Nat} (h : WInv R d k) : WInv (R ++ [(a, d + 1)]) (d + 1) (k + 1) :=
  ⟨by have := h.d0; omega, by have := h.dk; omega, by have := h.len; simp; omega, fun q hq => by
    simp only [List.mem_append, List.mem_singleton] at hq
    rcases hq with hq | rfl
    · have := h.all q hq; omega
    · have := h.d0; have := h.dk; simp only; omega⟩

def valPair (W : World) (M : List Nat) (x : Int × Int) (args : Array Value) : Prop := args = #[.int .i64 x.1, .int .i64 x.2]

attribute [local go_sem] Oper.semAt_some

set_option maxHeartbeats 4000000 in
set_option maxRecDepth 100000 in
theorem walk_it (bx : Nat) (v : Value) (t : TypeId) (l : List Nd) (w : World) (hb : w.heap[bx]? = some (.cells #[v] t)) (N : List Nat) (hbN : bx ∉ N) (h : kNd.slice.At N w [v] l) (hs : l.length ≤ 1099511627776) :
    ItFrom Try.prog w N 85 #[.pointer (some ⟨bx, 0, none⟩)] (walkOf l) valPair := by
  intro W0 lp M0 hW hlp hM0 J Jx hJ hY hlpl hMl h0
  obtain ⟨ao, cap, rfl, hl, hcap⟩ := Kd.slice_form h
  have hbx := block_lt hb
  have D0 : kNd.slice.At (lp :: M0) W0 [.slice ao l.length cap] l := h.upd hW (fun k hk => hk) (fun k hk => by rcases List.mem_cons.1 hk with rfl | hk; exact .inr hlp; exact hM0 k hk)
  have B0 : W0.heap[bx]? = some (.cells #[.slice ao l.length cap] t) := (hW.block bx hbx hbN).trans hb
  have hs0 := hW.size
  unfold maxLen at hcap
  have c0 : W0.cell? ⟨bx, 0, none⟩ = some (.slice ao l.length cap) := by rw [cell_of_block B0]; rfl
  obtain ⟨i0, hi, hz0, hz1, hz2⟩ := info_parts A.infoRight
  have HI := Lib.hid hi
  have HZ0 := Lib.hid hz0
  have HZ1 := Lib.hid hz1
  have HZ2 := Lib.hid hz2
  have DD0 := Lib.hid D0
  have BB0 := Lib.hid B0
  have HJ := Lib.hid hJ
  have HY := Lib.hid hY
  have HM := Lib.hid hMl
  have HM0 := Lib.hid hM0
  have H0 := Lib.hid h0
  clear hi hz0 hz1 hz2 D0 B0 hJ hY h hb hMl hM0 h0 hW
  refine callsIn_of_wp Try.func85 rfl trivial ?_
  simp only [Try.ntmps85, List.size_toArray, List.length_cons, List.length_nil, Nat.reduceAdd, Nat.reduceSub, Array.replicate_succ, Array.replicate_zero, List.push_toArray, List.append_toArray, List.nil_append, List.cons_append]
  gi_wp2
  gi_loopw [10, 3, 4] (fun i v3 v4 wr => ∃ (k : Nat) (M : List Nat) (R : List (Int × Int)) (d : Int) (pre : List (Int × Int)), k ≤ l.length ∧ i = .int .i64 k ∧ v4 = .int .i64 d ∧ Hid (Row kRight [] 148 W0.heap.size wr v3 R) ∧
      Hid (∀ j, j ∈ ob v3 → j ∉ lp :: M) ∧ Hid (WInv R d k) ∧ Hid (walkOf l = pre ++ walkGo (l.drop k) k R d) ∧ Hid (J pre M wr) ∧ Hid (Upd (lp :: M0) W0 wr) ∧ Hid (∀ k, k ∈ M → k < wr.heap.size) ∧ Hid (∀ k, k ∈ M → k ∈ M0 ∨ W0.heap.size ≤ k) ∧ W0.heap.size ≤ wr.heap.size) (fun i _ _ _ => l.length - (intOf i).toNat)
  case atStart => exact ⟨0, M0, [], 0, [], Nat.zero_le _, rfl, rfl, Row.nil _ _ _ _ _, Lib.hid (by simp [ob, Value.ownBlock]), WInv.nil, rfl, H0.out, Upd.refl _ _, HM.out, (fun k hk => .inl hk), Nat.le_refl _⟩
  case round =>
    clear c0
    obtain ⟨k, M, R, d, pre, hk, rfl, rfl, hrow, hob, hinv, hgo, hj, hd, hm, hm0, hsz⟩ := hrel
    by_cases hlt : k < l.length
    · obtain ⟨x, hx⟩ : ∃ x, l[k]? = some x := ⟨_, List.getElem?_eq_getElem hlt⟩
      obtain ⟨b, o, c, vi, vn, hv, hbs, _, _, _, hn, c0, c1, c2, c3, c4, c5⟩ := nds_at (DD0.out.upd hd.out (fun k hk => hk) (M' := []) (by simp)) hx
      simp at hv
      obtain ⟨rfl, rfl⟩ := hv
      obtain ⟨ai, ci, rfl, _, _⟩ := slice_form' hn.ids
      obtain ⟨an, cn, rfl, _, _⟩ := slice_form' hn.normal
      have hxd : l.drop k = x :: l.drop (k + 1) := by rw [List.drop_eq_getElem_cons hlt, (List.getElem?_eq_some_iff.1 hx).2]
      rw [hxd] at hgo
      have hd0 := hinv.out.d0
      have hdk := hinv.out.dk
      obtain ⟨W1, hW1⟩ : ∃ W1, wr.alloc (.cells #[.bool x.leaf, .slice ai x.ids.length ci, .slice an x.pl.normal.length cn, .int .i64 x.pl.off, .int .i64 x.left, .int .i64 x.right] 58) = W1 := ⟨_, rfl⟩
      have hu1 : Upd [] wr W1 := by rw [← hW1]; exact Upd.alloc [] wr _
      have hz1 : W1.heap.size = wr.heap.size + 1 := by rw [← hW1]; simp
      have hbn : W1.heap[wr.heap.size]? = some (.cells #[.bool x.leaf, .slice ai x.ids.length ci, .slice an x.pl.normal.length cn, .int .i64 x.pl.off, .int .i64 x.left, .int .i64 x.right] 58) := by rw [← hW1]; exact Go.heap_alloc_new wr _
      have hj1 : J pre M W1 := HJ.out _ _ _ _ [] (by simp) hj.out hu1
      have hd1 : Upd (lp :: M0) W0 W1 := hd.out.trans' hu1 (by simp)
      have HROW1 := Lib.hid (Row.updAny (M' := []) (fun h => h) hrow.out hu1 (by simp))
      have HBN := Lib.hid hbn
      have HJ1 := Lib.hid hj1
      have HD1 := Lib.hid hd1
      have HML : Hid (∀ j, j ∈ M → j < W1.heap.size) := Lib.hid (fun j hj => by have := hm.out j hj; omega)
      clear hx hn hxd hj1 hd1 hbn hu1
      rcases (show R = [] ∨ ∃ R0 r, R = R0 ++ [r] by rcases List.eq_nil_or_concat R with h | ⟨a, b, h⟩; exact .inl h; exact .inr ⟨a, b, by rw [h, List.concat_eq_append]⟩) with rfl | ⟨R0, r, rfl⟩
      · rcases hrow.out.form with ⟨rfl, _⟩ | ⟨g, cg, rfl, _⟩
        · have HOB := hob
          have HINV := hinv
          have HGO2 := Lib.hid (hgo.out.trans (by rw [walkGo_cons (popAt_nil k d)]))
          obtain ⟨fn, tmps, assign, body, hy, hR⟩ := HY.out pre ((k : Int), d) _ M W1 #[.int .i64 k, .int .i64 d] HGO2.out HJ1.out rfl HML.out 0
          gi_wp2
          refine ⟨rfl, hR.mono ?_⟩
          rintro e w3 ⟨M', hU3, hM', hcase⟩
          have hz3 := hU3.size
          have hnotin : ∀ j, wr.heap.size ≤ j → j < W1.heap.size → j ∉ lp :: M := fun j h1 h2 hmem => by
            rcases List.mem_cons.1 hmem with rfl | hmem
            · omega
            · have := hm.out j hmem; omega
          have hb3 : w3.heap[wr.heap.size]? = _ := (hU3.block _ (by omega) (hnotin _ (by omega) (by omega))).trans HBN.out
          have HROW3 := Lib.hid (Row.updAny (M' := []) (fun h => h) HROW1.out hU3 HOB.out)
          have HD3 : Hid (Upd (lp :: M0) W0 w3) := Lib.hid (HD1.out.trans' hU3 (fun k hk => by
            rcases List.mem_cons.1 hk with rfl | hk
            · exact .inl (by simp)
            · rcases hm0.out k hk with h | h
              · exact .inl (by simp [h])
              · exact .inr h))
          have HM3 := Lib.hid (fun k hk => (hM' k hk).1)
          have HM4 : Hid (∀ k, k ∈ M' → k ∈ M0 ∨ W0.heap.size ≤ k) := Lib.hid (fun k hk => by
            rcases (hM' k hk).2 with h | h
            · exact hm0.out k h
            · exact .inr (by omega))
          have HOB3 : Hid (∀ j, j ∈ ob (Value.slice none 0 0) → j ∉ lp :: M') := Lib.hid (fun j hj hmem => by
            have h1 := HOB.out j hj
            have h2 := HROW1.out.ob_lt j hj
            rcases List.mem_cons.1 hmem with rfl | hmem
            · exact h1 (by simp)
            · rcases (hM' j hmem).2 with h | h
              · exact h1 (by simp [h])
              · omega)
          rcases hcase with ⟨rfl, hj3⟩ | ⟨rfl, hj3⟩
          · have HJ3 := Lib.hid hj3
            have g0 : w3.cell? ⟨wr.heap.size, 0, none⟩ = some (.bool x.leaf) := by rw [cell_of_block hb3]; rfl
            have g5 : w3.cell? ⟨wr.heap.size, 5, none⟩ = some (.int .i64 x.right) := by rw [cell_of_block hb3]; rfl
            have HB3 := Lib.hid hb3
            clear hU3 hM' hj3 hR hy hb3 hnotin
            cases hleaf : x.leaf with
            | true =>
              have HLEAF := Lib.hid hleaf
              rw [hleaf] at g0
              clear hleaf
              gi_wp2
              go_roundw
              case rel => exact ⟨k + 1, M', [], d, pre ++ [((k : Int), d)], by omega, by go_num, rfl, HROW3.out, HOB3.out, HINV.out.succ, Lib.hid (by rw [HGO2.out, if_pos HLEAF.out]; exact (List.append_assoc pre [((k : Int), d)] _).symm), HJ3.out, HD3.out, HM3.out, HM4.out, by omega⟩
              case measure => simp [intOf]; omega
            | false =>
              have HLEAF := Lib.hid hleaf
              rw [hleaf] at g0
              clear hleaf
              obtain ⟨W4, hW4⟩ : ∃ W4, w3.alloc (.cells #[.int .i64 x.right, .int .i64 (d + 1)] 148) = W4 := ⟨_, rfl⟩
              have hu4 : Upd [] w3 W4 := by rw [← hW4]; exact Upd.alloc [] _ _
              have hz4 : W4.heap.size = w3.heap.size + 1 := by rw [← hW4]; simp
              have hby : W4.heap[w3.heap.size]? = some (.cells #[.int .i64 x.right, .int .i64 (d + 1)] 148) := by
                rw [← hW4]; exact Go.heap_alloc_new w3 _
              have hrow4 := Row.updAny (M' := []) (fun h => h) HROW3.out hu4 (by simp)
              obtain ⟨v', w5, hrun, hrow5, hu5, hob5⟩ := Row.push (P := Try.prog) (t := 146) (ty := 146) (c := 1) hrow4 Try.underlying146 HI.out HZ0.out HZ1.out HZ2.out rfl (by decide) (b := w3.heap.size) [.int .i64 x.right, .int .i64 (d + 1)] (x.right, d + 1)
                (fun j u hj => by rw [cell_of_block hby]; simpa using hj) ⟨rfl⟩ (by have := HINV.out.len; unfold maxLen; omega) (by have := HINV.out.len; omega) (by omega)
              have hz5 := hu5.size
              have hu35 : Upd (ob (Value.slice none 0 0)) w3 w5 := (hu4.mono (by simp)).trans hu5
              have hout : ∀ j, j ∈ ob (Value.slice none 0 0) → W0.heap.size ≤ j ∧ j ∉ M' := fun j hj => ⟨(HROW1.out.ob_lt j hj).1, fun h => HOB3.out j hj (by simp [h])⟩
              have HJ5 := Lib.hid (HJ.out _ _ _ _ (ob (Value.slice none 0 0)) hout HJ3.out hu35)
              have HD5 : Hid (Upd (lp :: M0) W0 w5) := Lib.hid (HD3.out.trans' hu35 (fun j hj => .inr (hout j hj).1))
              have HROW5 := Lib.hid hrow5
              have HOB5 : Hid (∀ j, j ∈ ob v' → j ∉ lp :: M') := Lib.hid (fun j hj hmem => by
                rcases hob5 with e | e
                · rw [e] at hj; exact HOB3.out j hj hmem
                · rw [e] at hj
                  simp only [List.mem_singleton] at hj
                  rcases List.mem_cons.1 hmem with rfl | hmem
                  · omega
                  · have := HM3.out j hmem; omega)
              have HM5 : Hid (∀ k, k ∈ M' → k < w5.heap.size) := Lib.hid (fun j hj => by have := HM3.out j hj; omega)
              have HRUN := Lib.hid hrun
              rw [← hW4] at HRUN
              have HWF : W0.heap.size ≤ w5.heap.size := by omega
              clear hrun hrow5 hu5 hob5 hrow4 hby hu4 hW4 hz4 hz5 hu35 hout
              gi_wp2_with (gi_at_builtin; refine append_stepIn rfl _ _ _ rfl rfl rfl HRUN.out ?_)
              go_roundw
              case rel => exact ⟨k + 1, M', [] ++ [(x.right, d + 1)], d + 1, pre ++ [((k : Int), d)], by omega, by go_num, by go_num, HROW5.out, HOB5.out, HINV.out.push, Lib.hid (by rw [HGO2.out, if_neg (by rw [HLEAF.out]; simp)]; exact (List.append_assoc pre [((k : Int), d)] _).symm), HJ5.out, HD5.out, HM5.out, HM4.out, HWF⟩
              case measure => simp [intOf]; omega
          · have HJ3 := Lib.hid hj3
            clear hU3 hM' hj3 hR hy hb3 hnotin
            gi_wp2
            refine bodyPost_ret (results_none rfl _ _ _) rfl ?_
            exact ⟨⟨_, rfl⟩, M', .inr ⟨_, by rw [HGO2.out]; exact ⟨_, by rw [List.append_assoc]; rfl⟩, HJ3.out⟩⟩
        · have HOB := hob
          have HINV := hinv
          have HGO2 := Lib.hid (hgo.out.trans (by rw [walkGo_cons (popAt_nil k d)]))
          obtain ⟨fn, tmps, assign, body, hy, hR⟩ := HY.out pre ((k : Int), d) _ M W1 #[.int .i64 k, .int .i64 d] HGO2.out HJ1.out rfl HML.out 0
          gi_wp2
          refine ⟨rfl, hR.mono ?_⟩
          rintro e w3 ⟨M', hU3, hM', hcase⟩
          have hz3 := hU3.size
          have hnotin : ∀ j, wr.heap.size ≤ j → j < W1.heap.size → j ∉ lp :: M := fun j h1 h2 hmem => by
            rcases List.mem_cons.1 hmem with rfl | hmem
            · omega
            · have := hm.out j hmem; omega
          have hb3 : w3.heap[wr.heap.size]? = _ := (hU3.block _ (by omega) (hnotin _ (by omega) (by omega))).trans HBN.out
          have HROW3 := Lib.hid (Row.updAny (M' := []) (fun h => h) HROW1.out hU3 HOB.out)
          have HD3 : Hid (Upd (lp :: M0) W0 w3) := Lib.hid (HD1.out.trans' hU3 (fun k hk => by
            rcases List.mem_cons.1 hk with rfl | hk
            · exact .inl (by simp)
            · rcases hm0.out k hk with h | h
              · exact .inl (by simp [h])
              · exact .inr h))
          have HM3 := Lib.hid (fun k hk => (hM' k hk).1)
          have HM4 : Hid (∀ k, k ∈ M' → k ∈ M0 ∨ W0.heap.size ≤ k) := Lib.hid (fun k hk => by
            rcases (hM' k hk).2 with h | h
            · exact hm0.out k h
            · exact .inr (by omega))
          have HOB3 : Hid (∀ j, j ∈ ob (Value.slice (some ⟨g, 0, none⟩) ([] : List (Int × Int)).length cg) → j ∉ lp :: M') := Lib.hid (fun j hj hmem => by
            have h1 := HOB.out j hj
            have h2 := HROW1.out.ob_lt j hj
            rcases List.mem_cons.1 hmem with rfl | hmem
            · exact h1 (by simp)
            · rcases (hM' j hmem).2 with h | h
              · exact h1 (by simp [h])
              · omega)
          rcases hcase with ⟨rfl, hj3⟩ | ⟨rfl, hj3⟩
          · have HJ3 := Lib.hid hj3
            have g0 : w3.cell? ⟨wr.heap.size, 0, none⟩ = some (.bool x.leaf) := by rw [cell_of_block hb3]; rfl
            have g5 : w3.cell? ⟨wr.heap.size, 5, none⟩ = some (.int .i64 x.right) := by rw [cell_of_block hb3]; rfl
            have HB3 := Lib.hid hb3
            clear hU3 hM' hj3 hR hy hb3 hnotin
            cases hleaf : x.leaf with
            | true =>
              have HLEAF := Lib.hid hleaf
              rw [hleaf] at g0
              clear hleaf
              gi_wp2
              go_roundw
              case rel => exact ⟨k + 1, M', [], d, pre ++ [((k : Int), d)], by omega, by go_num, rfl, HROW3.out, HOB3.out, HINV.out.succ, Lib.hid (by rw [HGO2.out, if_pos HLEAF.out]; exact (List.append_assoc pre [((k : Int), d)] _).symm), HJ3.out, HD3.out, HM3.out, HM4.out, by omega⟩
              case measure => simp [intOf]; omega
            | false =>
              have HLEAF := Lib.hid hleaf
              rw [hleaf] at g0
              clear hleaf
              obtain ⟨W4, hW4⟩ : ∃ W4, w3.alloc (.cells #[.int .i64 x.right, .int .i64 (d + 1)] 148) = W4 := ⟨_, rfl⟩
              have hu4 : Upd [] w3 W4 := by rw [← hW4]; exact Upd.alloc [] _ _
              have hz4 : W4.heap.size = w3.heap.size + 1 := by rw [← hW4]; simp
              have hby : W4.heap[w3.heap.size]? = some (.cells #[.int .i64 x.right, .int .i64 (d + 1)] 148) := by
                rw [← hW4]; exact Go.heap_alloc_new w3 _
              have hrow4 := Row.updAny (M' := []) (fun h => h) HROW3.out hu4 (by simp)
              obtain ⟨v', w5, hrun, hrow5, hu5, hob5⟩ := Row.push (P := Try.prog) (t := 146) (ty := 146) (c := 1) hrow4 Try.underlying146 HI.out HZ0.out HZ1.out HZ2.out rfl (by decide) (b := w3.heap.size) [.int .i64 x.right, .int .i64 (d + 1)] (x.right, d + 1)
                (fun j u hj => by rw [cell_of_block hby]; simpa using hj) ⟨rfl⟩ (by have := HINV.out.len; unfold maxLen; omega) (by have := HINV.out.len; omega) (by omega)
              have hz5 := hu5.size
              have hu35 : Upd (ob (Value.slice (some ⟨g, 0, none⟩) ([] : List (Int × Int)).length cg)) w3 w5 := (hu4.mono (by simp)).trans hu5
              have hout : ∀ j, j ∈ ob (Value.slice (some ⟨g, 0, none⟩) ([] : List (Int × Int)).length cg) → W0.heap.size ≤ j ∧ j ∉ M' := fun j hj => ⟨(HROW1.out.ob_lt j hj).1, fun h => HOB3.out j hj (by simp [h])⟩
              have HJ5 := Lib.hid (HJ.out _ _ _ _ (ob (Value.slice (some ⟨g, 0, none⟩) ([] : List (Int × Int)).length cg)) hout HJ3.out hu35)
              have HD5 : Hid (Upd (lp :: M0) W0 w5) := Lib.hid (HD3.out.trans' hu35 (fun j hj => .inr (hout j hj).1))
              have HROW5 := Lib.hid hrow5
              have HOB5 : Hid (∀ j, j ∈ ob v' → j ∉ lp :: M') := Lib.hid (fun j hj hmem => by
                rcases hob5 with e | e
                · rw [e] at hj; exact HOB3.out j hj hmem
                · rw [e] at hj
                  simp only [List.mem_singleton] at hj
                  rcases List.mem_cons.1 hmem with rfl | hmem
                  · omega
                  · have := HM3.out j hmem; omega)
              have HM5 : Hid (∀ k, k ∈ M' → k < w5.heap.size) := Lib.hid (fun j hj => by have := HM3.out j hj; omega)
              have HRUN := Lib.hid hrun
              rw [← hW4] at HRUN
              have HWF : W0.heap.size ≤ w5.heap.size := by omega
              clear hrun hrow5 hu5 hob5 hrow4 hby hu4 hW4 hz4 hz5 hu35 hout
              gi_wp2_with (gi_at_builtin; refine append_stepIn rfl _ _ _ rfl rfl rfl HRUN.out ?_)
              go_roundw
              case rel => exact ⟨k + 1, M', [] ++ [(x.right, d + 1)], d + 1, pre ++ [((k : Int), d)], by omega, by go_num, by go_num, HROW5.out, HOB5.out, HINV.out.push, Lib.hid (by rw [HGO2.out, if_neg (by rw [HLEAF.out]; simp)]; exact (List.append_assoc pre [((k : Int), d)] _).symm), HJ5.out, HD5.out, HM5.out, HM4.out, HWF⟩
              case measure => simp [intOf]; omega
          · have HJ3 := Lib.hid hj3
            clear hU3 hM' hj3 hR hy hb3 hnotin
            gi_wp2
            refine bodyPost_ret (results_none rfl _ _ _) rfl ?_
            exact ⟨⟨_, rfl⟩, M', .inr ⟨_, by rw [HGO2.out]; exact ⟨_, by rw [List.append_assoc]; rfl⟩, HJ3.out⟩⟩
      · obtain ⟨r1, r2⟩ := r
        obtain ⟨g, cg, rfl, hg1, hg2, hg3, hg4, q1, q2⟩ := right_at HROW1.out
        have hRl := hinv.out.len
        simp only [List.length_append, List.length_cons, List.length_nil, Nat.zero_add] at hRl
        have hi1 : (R0.length : Int) < (R0.length : Int) + 1 := by omega
        have hi0 : (0 : Int) ≤ (R0.length : Int) := by omega
        simp only at q1 q2
        unfold maxLen at hg4
        by_cases hr1 : r1 = (k : Int)
        · have hHINV := Lib.hid (hinv.out.pop)
          have hnr : (r1 == (k : Int)) = true := by simpa using hr1
          have HR1 := Lib.hid hr1
          clear hr1
          have hcg : (R0.length : Int) ≤ (cg : Int) := by omega
          gi_wp2
          gi_quiet_th (fail)
          have hqU : Upd [] W1 (W1.drewN nq) := Upd.drewN [] W1 nq
          have hqz : (W1.drewN nq).heap.size = W1.heap.size := rfl
          have HROWP := Lib.hid (Row.updAny (M' := []) (fun h => h) HROW1.out.pop hqU (by simp))
          have HBNP := Lib.hid (show (W1.drewN nq).heap[wr.heap.size]? = _ from HBN.out)
          have HJP := Lib.hid (HJ.out _ _ _ _ [] (by simp) HJ1.out hqU)
          have HDP : Hid (Upd (lp :: M0) W0 (W1.drewN nq)) := Lib.hid (HD1.out.trans' hqU (by simp))
          have HMLP : Hid (∀ j, j ∈ M → j < (W1.drewN nq).heap.size) := Lib.hid HML.out
          have HOBP : Hid (∀ j, j ∈ ob (Value.slice (some ⟨g, 0, none⟩) R0.length cg) → j ∉ lp :: M) := Lib.hid (fun j hj => hob.out j hj)
          generalize W1.drewN nq = W2 at hqU hqz HROWP HBNP HJP HDP HMLP ⊢
          have HROW1 := HROWP
          have HBN := HBNP
          have HJ1 := HJP
          have HD1 := HDP
          have HML := HMLP
          have HOB := HOBP
          have HINV := hHINV
          have hd0 := hHINV.out.d0
          have hdk := hHINV.out.dk
          clear q1 q2
          have HGO2 := Lib.hid (hgo.out.trans (by rw [walkGo_cons (popAt_eq (r := (r1, r2)) HR1.out)]))
          obtain ⟨fn, tmps, assign, body, hy, hR⟩ := HY.out pre ((k : Int), r2) _ M W2 #[.int .i64 k, .int .i64 r2] HGO2.out HJ1.out rfl HML.out 0
          gi_wp2
          refine ⟨rfl, hR.mono ?_⟩
          rintro e w3 ⟨M', hU3, hM', hcase⟩
          have hz3 := hU3.size
          have hnotin : ∀ j, wr.heap.size ≤ j → j < W2.heap.size → j ∉ lp :: M := fun j h1 h2 hmem => by
            rcases List.mem_cons.1 hmem with rfl | hmem
            · omega
            · have := hm.out j hmem; omega
          have hb3 : w3.heap[wr.heap.size]? = _ := (hU3.block _ (by omega) (hnotin _ (by omega) (by omega))).trans HBN.out
          have HROW3 := Lib.hid (Row.updAny (M' := []) (fun h => h) HROW1.out hU3 HOB.out)
          have HD3 : Hid (Upd (lp :: M0) W0 w3) := Lib.hid (HD1.out.trans' hU3 (fun k hk => by
            rcases List.mem_cons.1 hk with rfl | hk
            · exact .inl (by simp)
            · rcases hm0.out k hk with h | h
              · exact .inl (by simp [h])
              · exact .inr h))
          have HM3 := Lib.hid (fun k hk => (hM' k hk).1)
          have HM4 : Hid (∀ k, k ∈ M' → k ∈ M0 ∨ W0.heap.size ≤ k) := Lib.hid (fun k hk => by
            rcases (hM' k hk).2 with h | h
            · exact hm0.out k h
            · exact .inr (by omega))
          have HOB3 : Hid (∀ j, j ∈ ob (Value.slice (some ⟨g, 0, none⟩) R0.length cg) → j ∉ lp :: M') := Lib.hid (fun j hj hmem => by
            have h1 := HOB.out j hj
            have h2 := HROW1.out.ob_lt j hj
            rcases List.mem_cons.1 hmem with rfl | hmem
            · exact h1 (by simp)
            · rcases (hM' j hmem).2 with h | h
              · exact h1 (by simp [h])
              · omega)
          rcases hcase with ⟨rfl, hj3⟩ | ⟨rfl, hj3⟩
          · have HJ3 := Lib.hid hj3
            have g0 : w3.cell? ⟨wr.heap.size, 0, none⟩ = some (.bool x.leaf) := by rw [cell_of_block hb3]; rfl
            have g5 : w3.cell? ⟨wr.heap.size, 5, none⟩ = some (.int .i64 x.right) := by rw [cell_of_block hb3]; rfl
            have HB3 := Lib.hid hb3
            clear hU3 hM' hj3 hR hy hb3 hnotin
            cases hleaf : x.leaf with
            | true =>
              have HLEAF := Lib.hid hleaf
              rw [hleaf] at g0
              clear hleaf
              gi_wp2
              go_roundw
              case rel => exact ⟨k + 1, M', R0, r2, pre ++ [((k : Int), r2)], by omega, by go_num, rfl, HROW3.out, HOB3.out, HINV.out.succ, Lib.hid (by rw [HGO2.out, if_pos HLEAF.out]; exact (List.append_assoc pre [((k : Int), r2)] _).symm), HJ3.out, HD3.out, HM3.out, HM4.out, by omega⟩
              case measure => simp [intOf]; omega
            | false =>
              have HLEAF := Lib.hid hleaf
              rw [hleaf] at g0
              clear hleaf
              obtain ⟨W4, hW4⟩ : ∃ W4, w3.alloc (.cells #[.int .i64 x.right, .int .i64 (r2 + 1)] 148) = W4 := ⟨_, rfl⟩
              have hu4 : Upd [] w3 W4 := by rw [← hW4]; exact Upd.alloc [] _ _
              have hz4 : W4.heap.size = w3.heap.size + 1 := by rw [← hW4]; simp
              have hby : W4.heap[w3.heap.size]? = some (.cells #[.int .i64 x.right, .int .i64 (r2 + 1)] 148) := by
                rw [← hW4]; exact Go.heap_alloc_new w3 _
              have hrow4 := Row.updAny (M' := []) (fun h => h) HROW3.out hu4 (by simp)
              obtain ⟨v', w5, hrun, hrow5, hu5, hob5⟩ := Row.push (P := Try.prog) (t := 146) (ty := 146) (c := 1) hrow4 Try.underlying146 HI.out HZ0.out HZ1.out HZ2.out rfl (by decide) (b := w3.heap.size) [.int .i64 x.right, .int .i64 (r2 + 1)] (x.right, r2 + 1)
                (fun j u hj => by rw [cell_of_block hby]; simpa using hj) ⟨rfl⟩ (by have := HINV.out.len; unfold maxLen; omega) (by have := HINV.out.len; omega) (by omega)
              have hz5 := hu5.size
              have hu35 : Upd (ob (Value.slice (some ⟨g, 0, none⟩) R0.length cg)) w3 w5 := (hu4.mono (by simp)).trans hu5
              have hout : ∀ j, j ∈ ob (Value.slice (some ⟨g, 0, none⟩) R0.length cg) → W0.heap.size ≤ j ∧ j ∉ M' := fun j hj => ⟨(HROW1.out.ob_lt j hj).1, fun h => HOB3.out j hj (by simp [h])⟩
              have HJ5 := Lib.hid (HJ.out _ _ _ _ (ob (Value.slice (some ⟨g, 0, none⟩) R0.length cg)) hout HJ3.out hu35)
              have HD5 : Hid (Upd (lp :: M0) W0 w5) := Lib.hid (HD3.out.trans' hu35 (fun j hj => .inr (hout j hj).1))
              have HROW5 := Lib.hid hrow5
              have HOB5 : Hid (∀ j, j ∈ ob v' → j ∉ lp :: M') := Lib.hid (fun j hj hmem => by
                rcases hob5 with e | e
                · rw [e] at hj; exact HOB3.out j hj hmem
                · rw [e] at hj
                  simp only [List.mem_singleton] at hj
                  rcases List.mem_cons.1 hmem with rfl | hmem
                  · omega
                  · have := HM3.out j hmem; omega)
              have HM5 : Hid (∀ k, k ∈ M' → k < w5.heap.size) := Lib.hid (fun j hj => by have := HM3.out j hj; omega)
              have HRUN := Lib.hid hrun
              rw [← hW4] at HRUN
              have HWF : W0.heap.size ≤ w5.heap.size := by omega
              clear hrun hrow5 hu5 hob5 hrow4 hby hu4 hW4 hz4 hz5 hu35 hout
              gi_wp2_with (gi_at_builtin; refine append_stepIn rfl _ _ _ rfl rfl rfl HRUN.out ?_)
              go_roundw
              case rel => exact ⟨k + 1, M', R0 ++ [(x.right, r2 + 1)], r2 + 1, pre ++ [((k : Int), r2)], by omega, by go_num, by go_num, HROW5.out, HOB5.out, HINV.out.push, Lib.hid (by rw [HGO2.out, if_neg (by rw [HLEAF.out]; simp)]; exact (List.append_assoc pre [((k : Int), r2)] _).symm), HJ5.out, HD5.out, HM5.out, HM4.out, HWF⟩
              case measure => simp [intOf]; omega
          · have HJ3 := Lib.hid hj3
            clear hU3 hM' hj3 hR hy hb3 hnotin
            gi_wp2
            refine bodyPost_ret (results_none rfl _ _ _) rfl ?_
            exact ⟨⟨_, rfl⟩, M', .inr ⟨_, by rw [HGO2.out]; exact ⟨_, by rw [List.append_assoc]; rfl⟩, HJ3.out⟩⟩
        · have HR1 := Lib.hid hr1
          have hnr : (r1 == (k : Int)) = false := by simpa using hr1
          clear hr1
          have HOB := hob
          have HINV := hinv
          have HGO2 := Lib.hid (hgo.out.trans (by rw [walkGo_cons (popAt_ne HR1.out)]))
          obtain ⟨fn, tmps, assign, body, hy, hR⟩ := HY.out pre ((k : Int), d) _ M W1 #[.int .i64 k, .int .i64 d] HGO2.out HJ1.out rfl HML.out 0
          gi_wp2
          refine ⟨rfl, hR.mono ?_⟩
          rintro e w3 ⟨M', hU3, hM', hcase⟩
          have hz3 := hU3.size
          have hnotin : ∀ j, wr.heap.size ≤ j → j < W1.heap.size → j ∉ lp :: M := fun j h1 h2 hmem => by
            rcases List.mem_cons.1 hmem with rfl | hmem
            · omega
            · have := hm.out j hmem; omega
          have hb3 : w3.heap[wr.heap.size]? = _ := (hU3.block _ (by omega) (hnotin _ (by omega) (by omega))).trans HBN.out
          have HROW3 := Lib.hid (Row.updAny (M' := []) (fun h => h) HROW1.out hU3 HOB.out)
          have HD3 : Hid (Upd (lp :: M0) W0 w3) := Lib.hid (HD1.out.trans' hU3 (fun k hk => by
            rcases List.mem_cons.1 hk with rfl | hk
            · exact .inl (by simp)
            · rcases hm0.out k hk with h | h
              · exact .inl (by simp [h])
              · exact .inr h))
          have HM3 := Lib.hid (fun k hk => (hM' k hk).1)
          have HM4 : Hid (∀ k, k ∈ M' → k ∈ M0 ∨ W0.heap.size ≤ k) := Lib.hid (fun k hk => by
            rcases (hM' k hk).2 with h | h
            · exact hm0.out k h
            · exact .inr (by omega))
          have HOB3 : Hid (∀ j, j ∈ ob (Value.slice (some ⟨g, 0, none⟩) (R0.length + 1) cg) → j ∉ lp :: M') := Lib.hid (fun j hj hmem => by
            have h1 := HOB.out j hj
            have h2 := HROW1.out.ob_lt j hj
            rcases List.mem_cons.1 hmem with rfl | hmem
            · exact h1 (by simp)
            · rcases (hM' j hmem).2 with h | h
              · exact h1 (by simp [h])
              · omega)
          rcases hcase with ⟨rfl, hj3⟩ | ⟨rfl, hj3⟩
          · have HJ3 := Lib.hid hj3
            have g0 : w3.cell? ⟨wr.heap.size, 0, none⟩ = some (.bool x.leaf) := by rw [cell_of_block hb3]; rfl
            have g5 : w3.cell? ⟨wr.heap.size, 5, none⟩ = some (.int .i64 x.right) := by rw [cell_of_block hb3]; rfl
            have HB3 := Lib.hid hb3
            clear hU3 hM' hj3 hR hy hb3 hnotin
            cases hleaf : x.leaf with
            | true =>
              have HLEAF := Lib.hid hleaf
              rw [hleaf] at g0
              clear hleaf
              gi_wp2
              go_roundw
              case rel => exact ⟨k + 1, M', (R0 ++ [(r1, r2)]), d, pre ++ [((k : Int), d)], by omega, by go_num, rfl, HROW3.out, HOB3.out, HINV.out.succ, Lib.hid (by rw [HGO2.out, if_pos HLEAF.out]; exact (List.append_assoc pre [((k : Int), d)] _).symm), HJ3.out, HD3.out, HM3.out, HM4.out, by omega⟩
              case measure => simp [intOf]; omega
            | false =>
              have HLEAF := Lib.hid hleaf
              rw [hleaf] at g0
              clear hleaf
              obtain ⟨W4, hW4⟩ : ∃ W4, w3.alloc (.cells #[.int .i64 x.right, .int .i64 (d + 1)] 148) = W4 := ⟨_, rfl⟩
              have hu4 : Upd [] w3 W4 := by rw [← hW4]; exact Upd.alloc [] _ _
              have hz4 : W4.heap.size = w3.heap.size + 1 := by rw [← hW4]; simp
              have hby : W4.heap[w3.heap.size]? = some (.cells #[.int .i64 x.right, .int .i64 (d + 1)] 148) := by
                rw [← hW4]; exact Go.heap_alloc_new w3 _
              have hrow4 := Row.updAny (M' := []) (fun h => h) HROW3.out hu4 (by simp)
              obtain ⟨v', w5, hrun, hrow5, hu5, hob5⟩ := Row.push (P := Try.prog) (t := 146) (ty := 146) (c := 1) hrow4 Try.underlying146 HI.out HZ0.out HZ1.out HZ2.out rfl (by decide) (b := w3.heap.size) [.int .i64 x.right, .int .i64 (d + 1)] (x.right, d + 1)
                (fun j u hj => by rw [cell_of_block hby]; simpa using hj) ⟨rfl⟩ (by have := HINV.out.len; unfold maxLen; omega) (by have := HINV.out.len; omega) (by omega)
              have hz5 := hu5.size
              have hu35 : Upd (ob (Value.slice (some ⟨g, 0, none⟩) (R0.length + 1) cg)) w3 w5 := (hu4.mono (by simp)).trans hu5
              have hout : ∀ j, j ∈ ob (Value.slice (some ⟨g, 0, none⟩) (R0.length + 1) cg) → W0.heap.size ≤ j ∧ j ∉ M' := fun j hj => ⟨(HROW1.out.ob_lt j hj).1, fun h => HOB3.out j hj (by simp [h])⟩
              have HJ5 := Lib.hid (HJ.out _ _ _ _ (ob (Value.slice (some ⟨g, 0, none⟩) (R0.length + 1) cg)) hout HJ3.out hu35)
              have HD5 : Hid (Upd (lp :: M0) W0 w5) := Lib.hid (HD3.out.trans' hu35 (fun j hj => .inr (hout j hj).1))
              have HROW5 := Lib.hid hrow5
              have HOB5 : Hid (∀ j, j ∈ ob v' → j ∉ lp :: M') := Lib.hid (fun j hj hmem => by
                rcases hob5 with e | e
                · rw [e] at hj; exact HOB3.out j hj hmem
                · rw [e] at hj
                  simp only [List.mem_singleton] at hj
                  rcases List.mem_cons.1 hmem with rfl | hmem
                  · omega
                  · have := HM3.out j hmem; omega)
              have HM5 : Hid (∀ k, k ∈ M' → k < w5.heap.size) := Lib.hid (fun j hj => by have := HM3.out j hj; omega)
              have HRUN := Lib.hid hrun
              rw [← hW4] at HRUN
              have HWF : W0.heap.size ≤ w5.heap.size := by omega
              clear hrun hrow5 hu5 hob5 hrow4 hby hu4 hW4 hz4 hz5 hu35 hout
              gi_wp2_with (gi_at_builtin; refine append_stepIn rfl _ _ _ rfl rfl rfl HRUN.out ?_)
              go_roundw
              case rel => exact ⟨k + 1, M', (R0 ++ [(r1, r2)]) ++ [(x.right, d + 1)], d + 1, pre ++ [((k : Int), d)], by omega, by go_num, by go_num, HROW5.out, HOB5.out, HINV.out.push, Lib.hid (by rw [HGO2.out, if_neg (by rw [HLEAF.out]; simp)]; exact (List.append_assoc pre [((k : Int), d)] _).symm), HJ5.out, HD5.out, HM5.out, HM4.out, HWF⟩
              case measure => simp [intOf]; omega
          · have HJ3 := Lib.hid hj3
            clear hU3 hM' hj3 hR hy hb3 hnotin
            gi_wp2
            refine bodyPost_ret (results_none rfl _ _ _) rfl ?_
            exact ⟨⟨_, rfl⟩, M', .inr ⟨_, by rw [HGO2.out]; exact ⟨_, by rw [List.append_assoc]; rfl⟩, HJ3.out⟩⟩
    · gi_wp2
      go_end0
      have hkl : k = l.length := by omega
      subst hkl
      have e := hgo.out
      rw [List.drop_length] at e
      simp only [walkGo, List.append_nil] at e
      exact ⟨⟨_, rfl⟩, M, .inl (by rw [e]; exact hj.out)⟩

end Go.Proofs.Ytiplifkbegmeiaa
