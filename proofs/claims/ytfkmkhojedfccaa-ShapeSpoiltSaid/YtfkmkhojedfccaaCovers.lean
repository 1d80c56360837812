/-
marks.Covers.
-/
import Derived.Test.YtfkmkhojedfccaaIters
import Derived.Test.YtfkmkhojedfccaaMarks
namespace Go.Proofs.Ytfkmkhojedfccaa
set_option linter.unusedVariables false
set_option linter.unusedSimpArgs false
open Go.RowKit

/-- Covers: each of n in one list, once. -/
def coversGo (n : Nat) : List Int → List Int → Option (List Int)
  | S, [] => some S
  | S, x :: l => if addsTo n S x then coversGo n (S ++ [x]) l else none
theorem coversGo_append (n : Nat) : ∀ (S a b : List Int), coversGo n S (a ++ b) = (coversGo n S a).bind (fun S => coversGo n S b)
  | S, [], b => rfl
  | S, x :: a, b => by
    simp only [List.cons_append, coversGo]
    split
    · exact coversGo_append n _ a b
    · rfl
theorem coversGo_none {n : Nat} {S T : List Int} {x rest : List Int} {j : Nat} {y : Int} (h : coversGo n S (x.take j) = some T) (hy : x[j]? = some y) (ha : addsTo n T y = false) : coversGo n S (x ++ rest) = none := by
  have hj := (List.getElem?_eq_some_iff.1 hy)
  have e : x ++ rest = x.take j ++ (y :: (x.drop (j + 1) ++ rest)) := by
    rw [← List.cons_append, ← List.append_assoc]
    congr 1
    obtain ⟨h1, h2⟩ := hj
    rw [← h2, ← List.drop_eq_getElem_cons h1, List.take_append_drop]
  rw [e, coversGo_append, h]
  simp [coversGo, ha]
theorem coversGo_snoc {n : Nat} {S T : List Int} {x : List Int} {j : Nat} {y : Int} (h : coversGo n S (x.take j) = some T) (hy : x[j]? = some y) (ha : addsTo n T y = true) : coversGo n S (x.take (j + 1)) = some (T ++ [y]) := by
  rw [take_snoc' hy, coversGo_append, h]
  simp [coversGo, ha]
def covers (k : Int) (xs : List (List Int)) : Bool := match coversGo k.toNat [] xs.flatten with
  | some S => decide (S.length = k.toNat)
  | none => false

attribute [local go_sem] Oper.semAt_some

set_option maxHeartbeats 4000000 in
set_option maxRecDepth 100000 in
theorem covers_calls (k : Int) (hk : k ≤ 1099511627776) (gf : FuncId) (lb : Array Value) (xs : List (List Int)) (w : World) (eg : ∀ args w, (callFunc gf args).run Try.prog w = .ok (.enter gf args) w)
    (N : List Nat) (hit : ItFrom Try.prog w N gf lb xs valInts) :
    Calls Try.prog 59 #[.int .i64 k, .func (.func gf) #[] lb] w fun e w' => e = .returned (.bool (covers k xs)) ∧ Below w.heap.size w w' := by
  have HIT := Lib.hid hit
  have EG := Lib.hid eg
  obtain ⟨W0, hW0⟩ : ∃ W0, w.alloc (.cells #[.bool false] 4) = W0 := ⟨_, rfl⟩
  have hnew := marks_new_calls k hk W0
  have HN := Lib.hid hnew
  have hu0 : Upd [] w W0 := by rw [← hW0]; exact Upd.alloc [] w _
  have hr0 : W0.heap[w.heap.size]? = some (.cells #[.bool false] 4) := by rw [← hW0]; exact Go.heap_alloc_new w _
  have HU0 := Lib.hid hu0
  have HR0 := Lib.hid hr0
  generalize hres : covers k xs = res
  have HRES := Lib.hid hres
  clear hnew hit eg hu0 hr0 hres
  refine calls_of_wp_marks Try.func59 rfl ?_
  simp only [Try.ntmps59, List.size_toArray, List.length_cons, List.length_nil, Nat.reduceAdd, Nat.reduceSub, Array.replicate_succ, Array.replicate_zero, List.push_toArray, List.append_toArray, List.nil_append, List.cons_append]
  go_wp2_with fail
  refine HN.out.mono ?_
  rintro e w1 ⟨p, g, rfl, hb1, hset, hp, hg⟩
  have hz0 := HU0.out.size
  have hz00 := block_lt HR0.out
  have hr1 : w1.heap[w.heap.size]? = some (.cells #[.bool false] 4) := (hb1.block _ (block_lt HR0.out)).trans HR0.out
  obtain ⟨W2, hW2⟩ : ∃ W2, w1.alloc (.cells #[.pointer (some ⟨p, 0, none⟩)] 160) = W2 := ⟨_, rfl⟩
  have hu2 : Upd [] w1 W2 := by rw [← hW2]; exact Upd.alloc [] w1 _
  have hr2 := upd_far hu2 hr1 (by simp)
  have hset2 := hset.upd hu2 (by simp) (by simp)
  have hbx2 : W2.heap[w1.heap.size]? = some (.cells #[.pointer (some ⟨p, 0, none⟩)] 160) := by rw [← hW2]; exact Go.heap_alloc_new w1 _
  have hbelow : Below w.heap.size w W2 := (HU0.out.below.trans (hb1.mono hz0)).trans (hu2.below.mono (by have := hb1.size; omega))
  have HBW := Lib.hid hbelow
  have HR2 := Lib.hid hr2
  have HS2 := Lib.hid hset2
  have HBX := Lib.hid hbx2
  have hz1 := hb1.size
  have hz2 := hu2.size
  have hpl := block_lt hset2.hp
  have hrl := block_lt hr2
  have hbl := block_lt hbx2
  have hpw : p < w1.heap.size := block_lt hset.hp
  have hgw : g < w1.heap.size := by obtain ⟨ws, t, h1, _⟩ := hset.hg; exact block_lt h1
  have hrw : w.heap.size < w1.heap.size := block_lt hr1
  clear hr1 hu2 hr2 hset2 hbx2 hbelow hset hb1
  go_wp2_with fail
  have hlt1 : w.heap.size < W2.heap.size := hrl
  refine wp_range (xs := xs) (val := valInts) [w.heap.size, p, g] rfl EG.out (fun W hu hsz => ?_)
    (fun pre M W => M = [w.heap.size, p, g] ∧ ∃ S, coversGo k.toNat [] pre.flatten = some S ∧ IsSet W p g k.toNat S ∧ W.heap[w.heap.size]? = some (.cells #[.bool false] 4) ∧
      W.heap[w1.heap.size]? = some (.cells #[.pointer (some ⟨p, 0, none⟩)] 160) ∧ Below w.heap.size w W)
    (fun c pre M W => c = .ret ∧ M = [w.heap.size, p, g] ∧ res = false ∧ W.heap[w.heap.size]? = some (.cells #[.bool false] 4) ∧ Below w.heap.size w W) ?_ ?_ ?_ ?_ ?_ ?_ ?_ ?_ ?_
  · exact HIT.out W _ _ (Upd.ofBelow (HBW.out.trans (hu.below.mono (by omega))) N) (by omega) (fun k hk => .inr (by simp at hk; omega))
  · rintro pre M W W' S hS ⟨rfl, S0, a1, a2, a3, a4, a5⟩ hu
    have hgl := (a2.hg)
    refine ⟨rfl, S0, a1, a2.upd hu (fun h => (hS _ h).2 (by simp)) (fun h => (hS _ h).2 (by simp)), upd_far hu a3 (fun h => (hS _ h).2 (by simp)), upd_far hu a4 (fun h => by have := (hS _ h).1; omega), ?_⟩
    exact a5.trans (hu.belowB a5.size (fun k hk => by have := (hS k hk).1; omega))
  · rintro c pre M W W' S hS ⟨rfl, rfl, a1, a3, a5⟩ hu
    exact ⟨rfl, rfl, a1, upd_far hu a3 (fun h => (hS _ h).2 (by simp)), a5.trans (hu.belowB a5.size (fun k hk => by have := (hS k hk).1; omega))⟩
  · rintro M W W' x args ⟨v, rfl, hv⟩ hu
    exact ⟨v, rfl, hv.upd hu (by simp) (fun k hk => .inl hk)⟩
  · rintro W M x args ⟨v, rfl, hv⟩
    rfl
  · exact ⟨rfl, [], rfl, HS2.out, HR2.out, HBX.out, HBW.out⟩
  · have hgl : g < W2.heap.size := by obtain ⟨ws, t, h1, _⟩ := HS2.out.hg; exact block_lt h1
    simp
    omega
  · rintro l pre x rest M W0' W args hxs ⟨rfl, S0, a1, a2, a3, a4, a5⟩ ⟨v, rfl, hv⟩ _ hl1 hl2 hl3 hM
    have HXS := Lib.hid hxs
    have A1 := Lib.hid a1
    have A2 := Lib.hid a2
    have A3 := Lib.hid a3
    have A4 := Lib.hid a4
    have A5 := Lib.hid a5
    have HV := Lib.hid hv
    have HL3 := Lib.hid hl3
    have HMM := Lib.hid hM
    clear hxs a1 a2 a3 a4 a5 hv hl3 hM
    gi_wp2
    refine ⟨trivial, ?_⟩
    obtain ⟨ao, cap, rfl, hl5, hl6⟩ := Kd.slice_form HV.out
    unfold maxLen at hl6
    gi_wp2
    have hfar : ∀ wr, Upd [p, g] W wr → wr.heap[w.heap.size]? = some (.cells #[.bool false] 4) ∧ wr.heap[w1.heap.size]? = some (.cells #[.pointer (some ⟨p, 0, none⟩)] 160) ∧ Below w.heap.size w wr ∧
        Upd [w.heap.size, p, g] W wr ∧ ∀ k, (k = w.heap.size ∨ k = p ∨ k = g) → k < wr.heap.size := fun wr hu =>
      ⟨upd_far hu A3.out (by simp; omega), upd_far hu A4.out (by simp; omega), A5.out.trans (hu.belowB A5.out.size (by simp; omega)), hu.mono (by simp), fun k hk => by
        have := hu.size
        have := HMM.out k (by simpa using hk)
        omega⟩
    have HFAR := Lib.hid hfar
    clear hfar
    gi_loopw [15] (fun i wr => ∃ (j : Nat) (S : List Int), j ≤ x.length ∧ i = .int .i64 j ∧ Hid (coversGo k.toNat S0 (x.take j) = some S) ∧ Hid (IsSet wr p g k.toNat S) ∧ Hid (Upd [p, g] W wr)) (fun i _ => x.length - (intOf i).toNat)
    case atStart => exact ⟨0, S0, Nat.zero_le _, rfl, rfl, A2.out, Upd.refl _ _⟩
    case round =>
      obtain ⟨j, S, hj, rfl, hgo, hS, hU⟩ := hrel
      have hb5 : wr.cell? ⟨w1.heap.size, 0, none⟩ = some (.pointer (some ⟨p, 0, none⟩)) := by
        rw [cell_of_block (HFAR.out _ hU.out).2.1]; rfl
      by_cases hlt : j < x.length
      · obtain ⟨y, hy⟩ : ∃ y, x[j]? = some y := ⟨_, List.getElem?_eq_getElem hlt⟩
        obtain ⟨b, o, c, hv, hb, _, _, _, hc, _⟩ := ints_at (HV.out.upd hU.out (M' := []) (by simp) (by simp)) hy
        simp at hv
        obtain ⟨rfl, rfl⟩ := hv
        have HADD := Lib.hid (marks_add_calls p g k.toNat S y wr hS.out)
        have HY := Lib.hid hy
        clear hy
        cases hadd : addsTo k.toNat S y with
        | false =>
          rw [hadd] at HADD
          simp only [Bool.false_eq_true, if_false] at HADD
          have HN2 := Lib.hid (coversGo_none (rest := rest.flatten) hgo.out HY.out hadd)
          clear hadd
          gi_wp2
          refine ⟨trivial, rfl, (calls_round HADD.out).mono ?_⟩
          rintro e w3 ⟨rfl, hu3, hs3⟩
          have hu4 := hU.out.trans hu3
          have HF := Lib.hid (HFAR.out _ hu4)
          have hr4 : w3.cell? ⟨w.heap.size, 0, none⟩ = some (.bool false) := by rw [cell_of_block HF.out.1]; rfl
          have hr5 : w3.frozen? ⟨w.heap.size, 0, none⟩ = false := frozen_of_block HF.out.1
          have hfin : res = false := by
            rw [← HRES.out]
            unfold covers
            rw [HXS.out, List.flatten_append, List.flatten_cons, coversGo_append, A1.out]
            simp only [Option.bind_some]
            rw [HN2.out]
          have HFIN := Lib.hid hfin
          clear hu3 hs3 hu4 hfin
          gi_wp2
          obtain ⟨f1, f2, f3, f4, f5⟩ := HF.out
          refine ⟨f4.trans (Upd.setCell (by simp) _), _, (fun k hk => ⟨f5 k (by simpa using hk), .inl (by simpa using hk)⟩), rfl, HFIN.out, ?_, f3.setCell (Nat.le_refl _) _⟩
          have := heap_setCell_same w3 w.heap.size 0 _ _ (.bool false) f1
          simpa using this
        | true =>
          rw [hadd] at HADD
          simp only [if_true] at HADD
          have HN2 := Lib.hid (coversGo_snoc hgo.out HY.out hadd)
          clear hadd
          gi_wp2
          refine ⟨trivial, rfl, (calls_round HADD.out).mono ?_⟩
          rintro e w3 ⟨rfl, hu3, hs3⟩
          have HU3 := Lib.hid (hU.out.trans hu3)
          have HS3 := Lib.hid hs3
          clear hu3 hs3
          gi_wp2
          go_roundw
          case rel => exact ⟨j + 1, S ++ [y], by omega, by go_num, HN2.out, HS3.out, HU3.out⟩
          case measure => simp [intOf]; omega
      · gi_wp2
        have hjl : j = x.length := by omega
        subst hjl
        have hg5 := hgo.out
        rw [List.take_length] at hg5
        obtain ⟨f1, f2, f3, f4, f5⟩ := HFAR.out _ hU.out
        exact ⟨f4, _, (fun k hk => ⟨f5 k (by simpa using hk), .inl (by simpa using hk)⟩), rfl, S, by rw [coversGo_append, A1.out]; exact hg5, hS.out, f1, f2, f3⟩
  · rintro M W ⟨rfl, S0, a1, a2, a3, a4, a5⟩ hM hK
    have hb5 : W.cell? ⟨w1.heap.size, 0, none⟩ = some (.pointer (some ⟨p, 0, none⟩)) := by rw [cell_of_block a4]; rfl
    have hr5 : W.frozen? ⟨w.heap.size, 0, none⟩ = false := frozen_of_block a3
    have hr4 : W.cell? ⟨w.heap.size, 0, none⟩ = some (.bool false) := by rw [cell_of_block a3]; rfl
    have hm : max k 0 = (k.toNat : Int) := by omega
    have HLEN := Lib.hid (marks_len_calls p g k.toNat S0 W a2)
    have HKK := Lib.hid hK
    have hfin : ((S0.length : Int) == (k.toNat : Int)) = res := by
      rw [← HRES.out]
      unfold covers
      rw [a1]
      show ((S0.length : Int) == (k.toNat : Int)) = decide (S0.length = k.toNat)
      rw [Bool.eq_iff_iff]
      simp only [beq_iff_eq, decide_eq_true_eq]
      omega
    have e : ∀ z : Int, z = max k 0 → ((S0.length : Int) == z) = res := fun z hz => by rw [hz, hm]; exact hfin
    have HE := Lib.hid e
    clear e
    have HFIN := Lib.hid hfin
    have A3 := Lib.hid a3
    have A5 := Lib.hid a5
    clear hfin hK a1 a2 a3 a4 a5
    simp only [Exit.inBlock, Exit.then]
    go_at_K
    go_wp2_with fail
    refine HLEN.out.mono ?_
    rintro e w' ⟨rfl, rfl⟩
    go_wp2_with fail
    all_goals
      first
        | rw [HE.out k (by omega)]
        | rw [HE.out 0 (by omega)]
      have hz3 := A5.out.size
      have hset3 := heap_setCell_same W w.heap.size 0 _ _ (.bool res) A3.out
      have hK3 : (W.setCell ⟨w.heap.size, 0, none⟩ (.bool res)).heap[W2.heap.size]? = some (.deferred (some [])) := (Below.heap_setCell _ _ _ _ (by simp only; omega)).trans HKK.out
      have hbf := A5.out.setCell (p := ⟨w.heap.size, 0, none⟩) (Nat.le_refl _) (.bool res)
      generalize W.setCell ⟨w.heap.size, 0, none⟩ (.bool res) = W3 at *
      have hbl : Below w.heap.size w (W3.putObj W2.heap.size (.deferred none)) := hbf.trans ((Upd.putObj (S := [W2.heap.size]) (by simp) _).belowB (by have := hbf.size; omega) (by simp; omega))
      have hc3 : (W3.putObj W2.heap.size (.deferred none)).cell? ⟨w.heap.size, 0, none⟩ = some (.bool res) := by
        rw [cell_of_block ((World.putObj_heap_other (by omega)).trans hset3)]; rfl
      exact end_marks hK3 (v := .bool res) (results_cellb rfl Try.underlying4 _ _ rfl hc3) ⟨rfl, hbl⟩
  · rintro c pre M W hpre ⟨rfl, rfl, rfl, a3, a5⟩ hM hK
    go_wp2_with fail
    have hbl : Below w.heap.size w (W.putObj W2.heap.size (.deferred none)) := a5.trans ((Upd.putObj (S := [W2.heap.size]) (by simp) _).belowB a5.size (by simp; omega))
    have hc3 : (W.putObj W2.heap.size (.deferred none)).cell? ⟨w.heap.size, 0, none⟩ = some (.bool false) := by
      rw [cell_of_block ((World.putObj_heap_other (by omega)).trans a3)]; rfl
    exact end_marks hK (v := .bool false) (results_cellb rfl Try.underlying4 _ _ rfl hc3) ⟨rfl, hbl⟩

end Go.Proofs.Ytfkmkhojedfccaa
