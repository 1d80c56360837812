/-
slices.Collect and slices.Sorted of the keys of a map from strings to strings.
-/
import Derived.Test.YteafbhpjjibdeaaKeys
import Derived.Test.YteafbhpjjibdeaaStrs
import Derived.Test.YteafbhpjjibdeaaEnds
import Derived.Test.YteafbhpjjibdeaaWalk
namespace Go.Proofs.Yteafbhpjjibdeaa
set_option linter.unusedVariables false
set_option linter.unusedSimpArgs false
open Go.RowKit

attribute [local go_sem] Oper.semAt_some

theorem A.infoStr : (Try.prog.info? 9).map (fun i => (i.zero, i.size, i.bytes)) = some (some (.string ⟨#[]⟩), 1, 16) := by kernel_rfl

theorem one_str {N : List Nat} {w : World} {b : Nat} {x : ByteArray} {t : TypeId} {fr : Nat × Nat} (h : w.heap[b]? = some (.cells #[.string x] t fr)) (hn : b ∉ N) (hx : x.size ≤ maxLen) : Kd.str.slice.At N w [.slice (some ⟨b, 0, none⟩) 1 1] [x] :=
  ⟨⟨some ⟨b, 0, none⟩, 1, rfl, Nat.le_refl _, by simp [maxLen], fun i y hy => by
    cases i with
    | zero =>
      simp at hy; subst hy
      refine ⟨b, 0, rfl, ⟨block_lt h, hn⟩, block_lt h, [.string x], ⟨rfl, hx⟩, fun j v hv => ?_⟩
      cases j with
      | zero => simp at hv; subst hv; rw [cell_of_block h]; rfl
      | succ j => simp at hv
    | succ i => simp at hy⟩⟩

theorem nodup_sub_len {α : Type} : ∀ (l K : List α), l.Nodup → (∀ y ∈ l, y ∈ K) → l.length ≤ K.length
  | [], _, _, _ => by simp
  | x :: l, K, hn, hs => by
    obtain ⟨h1, h2⟩ := List.nodup_cons.1 hn
    obtain ⟨a, b, rfl⟩ := List.append_of_mem (hs x (by simp))
    have := nodup_sub_len l (a ++ b) h2 (fun y hy => by
      have := hs y (by simp [hy])
      simp only [List.mem_append, List.mem_cons] at this ⊢
      rcases this with h | rfl | h
      · exact .inl h
      · exact absurd hy h1
      · exact .inr h)
    simp only [List.length_append, List.length_cons] at this ⊢
    omega

theorem Row.str_upd {M M' S : List Nat} {e : TypeId} {B : Nat} {w w' : World} {v : Value} {l : List ByteArray} (h : Row Kd.str M e B w v l) (hu : Upd S w w') (ho : ∀ k, k ∈ ob v → k ∉ S) : Row Kd.str M' e B w' v l :=
  Row.updAny (fun h => h) h hu ho

set_option maxHeartbeats 4000000 in
set_option maxRecDepth 100000 in
theorem appendSeq_str_calls (gf : FuncId) (lb : Array Value) (K : List ByteArray) (w : World) (eg : ∀ args w, (callFunc gf args).run Try.prog w = .ok (.enter gf args) w)
    (N : List Nat) (hit : ItFromG Try.prog w N gf lb (NxK K) (DnK K) valStr) (hk : ∀ x ∈ K, x.size ≤ maxLen) (hlen : K.length ≤ 1099511627776) :
    Calls Try.prog 77 #[.slice none 0 0, .func (.func gf) #[] lb] w fun e w' => ∃ v' pre, e = .returned v' ∧ Below w.heap.size w w' ∧ pre.Perm K ∧ Row Kd.str [] 9 w.heap.size w' v' pre := by
  obtain ⟨W0, hW0⟩ : ∃ W0, w.alloc (.cells #[.slice none 0 0] 74) = W0 := ⟨_, rfl⟩
  have hu0 : Upd [] w W0 := by rw [← hW0]; exact Upd.alloc [] w _
  have hr0 : W0.heap[w.heap.size]? = some (.cells #[.slice none 0 0] 74) := by rw [← hW0]; exact Go.heap_alloc_new w _
  have hz0 : W0.heap.size = w.heap.size + 1 := by rw [← hW0]; simp
  have HIT := Lib.hid hit
  have EG := Lib.hid eg
  have HWF := Lib.hid hk
  have HU0 := Lib.hid hu0
  have HR0 := Lib.hid hr0
  clear hit eg hk hu0 hr0
  refine calls_of_wp_marks Try.func77 rfl ?_
  simp only [Try.ntmps77, List.size_toArray, List.length_cons, List.length_nil, Nat.reduceAdd, Nat.reduceSub, Array.replicate_succ, Array.replicate_zero, List.push_toArray, List.append_toArray, List.nil_append, List.cons_append]
  go_wp2_with fail
  clear hW0
  refine wp_rangeG (Nx := NxK K) (Dn := DnK K) (val := valStr) [w.heap.size] rfl EG.out (fun W hu hsz => ?_)
    (fun pre M W => ∃ v', M = w.heap.size :: ob v' ∧ W.heap[w.heap.size]? = some (.cells #[v'] 74) ∧ Row Kd.str [] 9 W0.heap.size W v' pre ∧ Upd [w.heap.size] W0 W)
    (fun c pre M W => False) ?_ ?_ ?_ ?_ ?_ ?_ ?_ ?_ ?_
  · exact HIT.out W _ _ ((HU0.out.trans hu).mono (by simp)) (by omega) (fun k hk => .inr (by simp at hk; omega))
  · rintro pre M W W' S0 hS0 ⟨v', rfl, a3, a4, a5⟩ hu
    exact ⟨v', rfl, upd_far hu a3 (fun h => (hS0 _ h).2 (by simp)), a4.str_upd hu (fun k hk h => (hS0 k h).2 (by simp [hk])), a5.trans' hu (fun k hk => .inr (hS0 k hk).1)⟩
  · rintro c pre M W W' S0 hS0 h _
    exact h.elim
  · rintro M W W' x args hv hu
    exact hv
  · rintro W M x args hv
    rw [hv]
    rfl
  · exact ⟨_, rfl, HR0.out, Row.nil _ _ _ _ _, Upd.refl _ _⟩
  · simp
    omega
  · rintro l0 pre y M W0' W args hxs ⟨v', rfl, a3, a4, a5⟩ hv _ hl1 hl2 hl3 hM
    have hv : args = #[.string y] := hv
    subst hv
    have hyw : y.size ≤ maxLen := HWF.out y (hxs.2 y (by simp))
    have hpre : pre.length < K.length := by have := nodup_sub_len _ _ hxs.1 hxs.2; simp at this; omega
    obtain ⟨i0, hi, hy0, hy1, hy2⟩ := info_parts A.infoStr
    obtain ⟨av, cv, rfl, hcv1, hcv2⟩ := row_form a4
    have hzW := a5.size
    have hob := a4.ob_lt
    obtain ⟨W1, hW1⟩ : ∃ W1, W.alloc (.cells #[.string y] 9) = W1 := ⟨_, rfl⟩
    have hu1 : Upd [] W W1 := by rw [← hW1]; exact Upd.alloc [] W _
    have hone : W1.heap[W.heap.size]? = some (.cells #[.string y] 9) := by rw [← hW1]; exact Go.heap_alloc_new W _
    have hz1' : W1.heap.size = W.heap.size + 1 := by rw [← hW1]; simp
    obtain ⟨v2, W2, hrun, hr2, hu2, hob2⟩ := (a4.upd hu1 (by simp) (by simp) (M' := []) (by simp)).appendAt (P := Try.prog) (t := 74) (ty := 74) (u := .slice (some ⟨W.heap.size, 0, none⟩) 1 1) (l2 := [y]) Try.underlying74 hi hy0 hy1 hy2 rfl (by decide)
      (one_str hone (fun hm => by
        rw [List.append_nil] at hm
        have := (hob _ hm).2
        omega) hyw)
      (by simp [maxLen]; omega) (by simp; omega) (by omega)
    obtain ⟨a2, c2, rfl, _, _⟩ := row_form hr2
    have hl3' : (pre ++ [y]).length = pre.length + 1 := by simp
    rw [hl3'] at hrun hr2 hob2
    have hzo : w.heap.size ∉ ob (.slice av pre.length cv) := fun h => by have := (hob _ h).1; omega
    have e2 : W2.heap[w.heap.size]? = some (.cells #[.slice av pre.length cv] 74) := upd_far hu2 (upd_far hu1 a3 (by simp)) hzo
    have hc : W.cell? ⟨w.heap.size, 0, none⟩ = some (.slice av pre.length cv) := by rw [cell_of_block a3]; rfl
    have hc2 : W2.cell? ⟨w.heap.size, 0, none⟩ = some (.slice av pre.length cv) := by rw [cell_of_block e2]; rfl
    have hf2 : W2.frozen? ⟨w.heap.size, 0, none⟩ = false := frozen_of_block e2
    have h3 := heap_setCell_same W2 w.heap.size 0 _ _ (.slice a2 (pre.length + 1) c2) e2
    have hu3 : Upd [w.heap.size] W2 (W2.setCell ⟨w.heap.size, 0, none⟩ (.slice a2 (pre.length + 1) c2)) := Upd.setCell (by simp) _
    have hob3 := hr2.ob_lt
    have hu12 : Upd (ob (.slice av pre.length cv)) W W2 := (hu1.mono (by simp)).trans hu2
    have hfin : Upd (w.heap.size :: ob (.slice av pre.length cv)) W (W2.setCell ⟨w.heap.size, 0, none⟩ (.slice a2 (pre.length + 1) c2)) ∧ ∃ M', (∀ k, k ∈ M' → k < (W2.setCell ⟨w.heap.size, 0, none⟩ (.slice a2 (pre.length + 1) c2)).heap.size ∧ (k ∈ w.heap.size :: ob (.slice av pre.length cv) ∨ W.heap.size ≤ k)) ∧
        ∃ v', M' = w.heap.size :: ob v' ∧ (W2.setCell ⟨w.heap.size, 0, none⟩ (.slice a2 (pre.length + 1) c2)).heap[w.heap.size]? = some (.cells #[v'] 74) ∧ Row Kd.str [] 9 W0.heap.size (W2.setCell ⟨w.heap.size, 0, none⟩ (.slice a2 (pre.length + 1) c2)) v' (pre ++ [y]) ∧ Upd [w.heap.size] W0 (W2.setCell ⟨w.heap.size, 0, none⟩ (.slice a2 (pre.length + 1) c2)) := by
      refine ⟨(hu12.mono (fun k hk _ => List.mem_cons_of_mem _ hk)).trans (hu3.mono (by simp)), _, ?_, .slice a2 (pre.length + 1) c2, rfl, by simpa using h3, ?_, ?_⟩
      · intro k hk
        have hsz2 := hu12.size
        rcases List.mem_cons.1 hk with rfl | hk
        · exact ⟨by have := block_lt h3; exact this, .inl (by simp)⟩
        · have h1 := hob3 k hk
          refine ⟨by have := hu3.size; omega, ?_⟩
          rcases hob2 with h | h
          · rw [h] at hk; exact .inl (List.mem_cons_of_mem _ hk)
          · rw [h] at hk; simp at hk; exact .inr (by omega)
      · exact hr2.str_upd hu3 (fun k hk h => by have := (hob3 k hk).1; simp at h; omega)
      · exact (a5.trans' hu12 (fun k hk => .inr (hob k hk).1)).trans hu3
    have HFIN := Lib.hid hfin
    have HRUN := Lib.hid hrun
    clear hxs a3 a4 a5 hl3 hM hyw hob hu1 hone hrun hr2 hu2 hob2 hl3' hzo e2 h3 hu3 hob3 hu12 hfin hi hy0 hy1 hy2 hz1'
    gi_wp2
    refine ⟨trivial, ?_⟩
    gi_wp2_with (gi_at_builtin; refine append_stepIn rfl _ _ _ rfl rfl rfl HRUN.out ?_)
    obtain ⟨f1, M', f2, f3⟩ := HFIN.out
    rw [hz0] at f3
    exact ⟨f1, M', fun k hk => by have := f2 k hk; simpa using this, f3⟩
  · rintro pre M W7 hdn ⟨v', rfl, a3, a4, a5⟩ hM hK
    simp only [Exit.inBlock, Exit.then]
    go_at_K
    obtain ⟨av, cv, rfl, hcv1, hcv2⟩ := row_form a4
    have hob := a4.ob_lt
    have hz7 := a5.size
    have c0 : W7.cell? ⟨w.heap.size, 0, none⟩ = some (.slice av pre.length cv) := by rw [cell_of_block a3]; rfl
    have HB7 := Lib.hid ((HU0.out.below.mono (Nat.le_refl _)).trans (a5.belowB (by omega) (by simp)))
    have HK := Lib.hid hK
    have HROW := Lib.hid a4
    have HNM := Lib.hid hM
    have HDN := Lib.hid hdn
    have hz := HU0.out.size
    clear a3 a4 a5 hM hK hdn
    go_wp2_with fail
    refine end_marks HK.out (results_tmp rfl _ _ _) ⟨_, pre, by first | rfl | simp, ?_, HDN.out, ?_⟩
    · exact HB7.out.trans ((Upd.putObj (S := [W0.heap.size]) (by simp) _).belowB (by omega) (by simp; omega))
    · have := HROW.out.str_upd (M' := []) (Upd.putObj (w := W7) (S := [W0.heap.size]) (m := W0.heap.size) (by simp) (.deferred none)) (fun k hk h => by simp at h; subst h; exact HNM.out (List.mem_cons_of_mem _ hk))
      exact this.base (by omega)
  · rintro c pre M W h
    exact h.elim

theorem collect_str_calls (gf : FuncId) (lb : Array Value) (K : List ByteArray) (w : World) (eg : ∀ args w, (callFunc gf args).run Try.prog w = .ok (.enter gf args) w)
    (N : List Nat) (hit : ItFromG Try.prog w N gf lb (NxK K) (DnK K) valStr) (hk : ∀ x ∈ K, x.size ≤ maxLen) (hlen : K.length ≤ 1099511627776) :
    Calls Try.prog 63 #[.func (.func gf) #[] lb] w fun e w' => ∃ v' pre, e = .returned v' ∧ Below w.heap.size w w' ∧ pre.Perm K ∧ Row Kd.str [] 9 w.heap.size w' v' pre := by
  have H := Lib.hid (appendSeq_str_calls gf lb K w eg N hit hk hlen)
  clear hit hk eg
  go_enter Try.func63, Try.ntmps63
  go_wp2_with fail
  refine H.out.mono ?_
  rintro e w1 ⟨v1, pre, rfl, hb1, hp1, hr1⟩
  have HB1 := Lib.hid hb1
  have HR1 := Lib.hid hr1
  have HP1 := Lib.hid hp1
  clear hb1 hr1 hp1
  go_wp2_with fail
  go_ret
  exact ⟨_, pre, rfl, HB1.out, HP1.out, HR1.out⟩

/-- Names in rising order. -/
def sortedNames (K : List ByteArray) : List ByteArray := ofBs ((bsOf K).mergeSort leB)

theorem flat_str : ∀ l : List ByteArray, (l.map (fun x => [Value.string x])).flatten = l.map Value.string
  | [] => rfl
  | x :: l => by simp [flat_str l]
theorem row_owns {B : Nat} {w : World} {v : Value} {l : List ByteArray} (h : Row Kd.str [] 9 B w v l) : w.ownsRow B 9 1 v l.length ((bsOf l).map encStr) := by
  obtain ⟨css, h1, h2, h3⟩ := h.out
  have e : css.flatten = (bsOf l).map encStr := by
    rw [enc_bs, ← flat_str]
    congr 1
    apply List.ext_getElem?
    intro i
    rcases Nat.lt_or_ge i css.length with hi | hi
    · have hi2 : i < l.length := by omega
      have := (h3 i _ _ (List.getElem?_eq_getElem hi) (List.getElem?_eq_getElem hi2)).out.1
      rw [List.getElem?_eq_getElem hi, this, List.getElem?_map, List.getElem?_eq_getElem hi2]
      rfl
    · rw [List.getElem?_eq_none hi, List.getElem?_eq_none (by simp; omega)]
  rw [← e]
  exact h1

theorem owns_read {B : Nat} {w : World} {v : Value} {l : List (List UInt8)} (h : w.ownsRow B 9 1 v l.length (l.map encStr)) (hs : ∀ x ∈ l, x.length ≤ maxLen) (M : List Nat) (hM : ∀ k, k ∈ M → k < B) : Kd.str.slice.At M w [v] (ofBs l) := by
  have hol : (ofBs l).length = l.length := by simp [ofBs]
  rcases h.2 with ⟨rfl, h0⟩ | ⟨g, cap, cur, rfl, hb, hg, h1, h2, h3, h4⟩
  · have e0 : l = [] := List.eq_nil_of_length_eq_zero h0
    subst e0
    exact Kd.slice_nil Kd.str M _ none 0 (by simp [maxLen])
  · have hgl : g < w.heap.size := (h.lt g rfl).2
    refine ⟨⟨some ⟨g, 0, none⟩, cap, by rw [hol], by rw [hol]; omega, h2, fun i x hx => ?_⟩⟩
    have hi := (List.getElem?_eq_some_iff.1 hx).1
    rw [hol] at hi
    refine ⟨g, 0, rfl, ⟨hgl, fun hm => by have := hM g hm; omega⟩, hgl, [.string x], ⟨rfl, ?_⟩, fun j u hj => ?_⟩
    · unfold ofBs at hx
      rw [List.getElem?_map, List.getElem?_eq_getElem hi] at hx
      simp at hx
      subst hx
      have := hs _ (List.getElem_mem hi)
      show l[i].toArray.size ≤ maxLen
      rw [List.size_toArray]
      exact this
    · cases j with
      | succ j => simp at hj
      | zero =>
        simp at hj
        subst hj
        have := h.cellAt i (by omega)
        simp only [Kd.str, Nat.mul_one, Nat.add_zero, Nat.zero_add]
        rw [this]
        unfold ofBs at hx
        rw [List.getElem?_map] at hx ⊢
        cases hq : l[i]? with
        | none => rw [hq] at hx; cases hx
        | some y => rw [hq] at hx; simp at hx; subst hx; rfl

theorem sorted_str_calls (gf : FuncId) (lb : Array Value) (K : List ByteArray) (w : World) (eg : ∀ args w, (callFunc gf args).run Try.prog w = .ok (.enter gf args) w)
    (N : List Nat) (hit : ItFromG Try.prog w N gf lb (NxK K) (DnK K) valStr) (hk : ∀ x ∈ K, x.size ≤ maxLen) (hlen : K.length ≤ 1099511627776) (M : List Nat) (hM : ∀ k, k ∈ M → k < w.heap.size) :
    Calls Try.prog 53 #[.func (.func gf) #[] lb] w fun e w' => ∃ v', e = .returned v' ∧ Below w.heap.size w w' ∧ Kd.str.slice.At M w' [v'] (sortedNames K) := by
  have H := Lib.hid (collect_str_calls gf lb K w eg N hit hk hlen)
  have HKS := Lib.hid hk
  have HM := Lib.hid hM
  clear hit hk eg hM
  go_enter Try.func53, Try.ntmps53
  go_wp2_with fail
  refine H.out.mono ?_
  rintro e w1 ⟨v1, pre, rfl, hb1, hp1, hr1⟩
  have HB1 := Lib.hid hb1
  have hbl : (bsOf pre).length = pre.length := by simp [bsOf]
  have hpl := hp1.length_eq
  have how := row_owns hr1
  rw [← hbl] at how
  have HS := Lib.hid (sort_str_calls v1 (bsOf pre) w.heap.size w1 how (by omega))
  have HOB := Lib.hid (fun k hk => (hr1.ob_lt k hk).1)
  have hpp : (bsOf pre).mergeSort leB = (bsOf K).mergeSort leB := mergeSort_of_perm (hp1.map _)
  have HPP := Lib.hid hpp
  have HPL := Lib.hid hpl
  clear hb1 hr1 hp1 how hpp hpl
  go_wp2_with fail
  refine HS.out.mono ?_
  rintro e w2 ⟨rfl, hu2, hr2⟩
  have HB2 := Lib.hid (HB1.out.trans (hu2.belowB HB1.out.size HOB.out))
  rw [HPP.out, show (bsOf pre).length = ((bsOf K).mergeSort leB).length by rw [List.length_mergeSort]; simp [bsOf, HPL.out]] at hr2
  have HR2 := Lib.hid (owns_read hr2 (fun x hx => by
    rw [List.mem_mergeSort] at hx
    obtain ⟨s, hs, rfl⟩ := List.mem_map.1 hx
    show s.data.toList.length ≤ maxLen
    rw [Array.length_toList]
    exact HKS.out s hs) M HM.out)
  clear hu2 hr2 HS
  go_wp2_with fail
  go_ret
  exact ⟨_, rfl, HB2.out, HR2.out⟩

theorem maps_keys_calls (m : Nat) (es : Array MapEntry) (clock : Nat) (L : List (ByteArray × ByteArray)) (w : World) (hm : w.heap[m]? = some (.map es clock)) (hr : MapRep es clock L) (N : List Nat) (hN : ∀ k, k ∈ N → k < w.heap.size) (h2 : m ∉ N) :
    Calls Try.prog 54 #[.map (some m)] w fun e w' => ∃ bx, e = .returned (.func (.func 64) #[] #[.pointer (some ⟨bx, 0, none⟩)]) ∧ Below w.heap.size w w' ∧
      ItFromG Try.prog w' N 64 #[.pointer (some ⟨bx, 0, none⟩)] (NxK (L.map (·.1))) (DnK (L.map (·.1))) valStr := by
  have hit : ∀ W t, Upd [] w W → W.heap[w.heap.size]? = some (.cells #[.map (some m)] t) → ItFromG Try.prog W N 64 #[.pointer (some ⟨w.heap.size, 0, none⟩)] (NxK (L.map (·.1))) (DnK (L.map (·.1))) valStr := fun W t hu hb =>
    keys_it w.heap.size m t es clock L W hb (upd_far hu hm (by simp)) hr N (fun h => by have := hN _ h; omega) h2
  have HIT := Lib.hid hit
  have HB := Lib.hid (fun o => (Below.refl _ w).alloc (Nat.le_refl _) o)
  clear hit hm hr hN h2
  go_enter Try.func54, Try.ntmps54
  go_wp2_with fail
  go_ret
  exact ⟨_, rfl, HB.out _, HIT.out _ _ (Upd.alloc [] w _) (Go.heap_alloc_new w _)⟩

end Go.Proofs.Yteafbhpjjibdeaa
