/-
shape's iterators: Leaves, Walk.
-/
import Derived.Test.YtfkmkhojedfccaaShape
import Derived.Test.YtfkmkhojedfccaaClone
import Derived.Test.YtfkmkhojedfccaaRange
namespace Go.Proofs.Ytfkmkhojedfccaa
set_option linter.unusedVariables false
set_option linter.unusedSimpArgs false
open Go.RowKit

def leavesOf (l : List Nd) : List (List Int) := (l.filter (·.leaf)).map (·.ids)
theorem leavesOf_snoc (l : List Nd) (x : Nd) : leavesOf (l ++ [x]) = if x.leaf then leavesOf l ++ [x.ids] else leavesOf l := by
  unfold leavesOf
  rw [List.filter_append, List.map_append]
  cases h : x.leaf <;> simp [h]

def valInts (W : World) (M : List Nat) (x : List Int) (args : Array Value) : Prop := ∃ v, args = #[v] ∧ (Kd.int .i64).slice.At M W [v] x

attribute [local go_sem] Oper.semAt_some

set_option maxHeartbeats 2000000 in
set_option maxRecDepth 100000 in
theorem leaves_it (bx : Nat) (v : Value) (t : TypeId) (l : List Nd) (w : World) (hb : w.heap[bx]? = some (.cells #[v] t)) (N : List Nat) (hbN : bx ∉ N) (h : kNd.slice.At N w [v] l) (hs : ∀ x ∈ l, x.ids.length ≤ 1099511627776) :
    ItFrom Try.prog w N 93 #[.pointer (some ⟨bx, 0, none⟩)] (leavesOf l) valInts := by
  intro W0 lp M0 hW hlp hM0 J Jx hJ hY hlpl hMl h0
  obtain ⟨ao, cap, rfl, hl, hcap⟩ := Kd.slice_form h
  have hbx := block_lt hb
  have D0 : kNd.slice.At (lp :: M0) W0 [.slice ao l.length cap] l := h.upd hW (fun k hk => hk) (fun k hk => by rcases List.mem_cons.1 hk with rfl | hk; exact .inr hlp; exact hM0 k hk)
  have B0 : W0.heap[bx]? = some (.cells #[.slice ao l.length cap] t) := (hW.block bx hbx hbN).trans hb
  have hs0 := hW.size
  unfold maxLen at hcap
  have c0 : W0.cell? ⟨bx, 0, none⟩ = some (.slice ao l.length cap) := by rw [cell_of_block B0]; rfl
  have DD0 := Lib.hid D0
  have BB0 := Lib.hid B0
  have HS := Lib.hid hs
  have HJ := Lib.hid hJ
  have HY := Lib.hid hY
  have HM := Lib.hid hMl
  have HM0 := Lib.hid hM0
  have H0 := Lib.hid h0
  clear D0 B0 hs hJ hY h hb hMl hM0 h0 hW
  refine callsIn_of_wp Try.func93 rfl trivial ?_
  simp only [Try.ntmps93, List.size_toArray, List.length_cons, List.length_nil, Nat.reduceAdd, Nat.reduceSub, Array.replicate_succ, Array.replicate_zero, List.push_toArray, List.append_toArray, List.nil_append, List.cons_append]
  gi_wp2
  gi_loopw [7] (fun i wr => ∃ (k : Nat) (M : List Nat), k ≤ l.length ∧ i = .int .i64 k ∧ Hid (J (leavesOf (l.take k)) M wr) ∧ Hid (kNd.slice.At (lp :: M) wr [.slice ao l.length cap] l) ∧ Hid (∀ k, k ∈ M → k < wr.heap.size) ∧ Hid (∀ k, k ∈ M → k ∈ N ∨ w.heap.size ≤ k) ∧ W0.heap.size ≤ wr.heap.size) (fun i _ => l.length - (intOf i).toNat)
  case atStart => exact ⟨0, M0, Nat.zero_le _, rfl, H0.out, DD0.out, HM.out, HM0.out, Nat.le_refl _⟩
  case round =>
    clear c0
    obtain ⟨k, M, hk, rfl, hj, hd, hm, hm0, hsz⟩ := hrel
    by_cases hlt : k < l.length
    · obtain ⟨x, hx⟩ : ∃ x, l[k]? = some x := ⟨_, List.getElem?_eq_getElem hlt⟩
      obtain ⟨b, o, c, vi, vn, hv, hbs, _, _, _, hn, c0, c1, c2, c3, c4, c5⟩ := nds_at hd.out hx
      simp at hv
      obtain ⟨rfl, rfl⟩ := hv
      obtain ⟨ai, ci, rfl, _, _⟩ := slice_form' hn.ids
      obtain ⟨an, cn, rfl, _, _⟩ := slice_form' hn.normal
      obtain ⟨W1, hW1⟩ : ∃ W1, wr.alloc (.cells #[.bool x.leaf, .slice ai x.ids.length ci, .slice an x.pl.normal.length cn, .int .i64 x.pl.off, .int .i64 x.left, .int .i64 x.right] 48) = W1 := ⟨_, rfl⟩
      have hu1 : Upd [] wr W1 := by rw [← hW1]; exact Upd.alloc [] wr _
      have hz1 : W1.heap.size = wr.heap.size + 1 := by rw [← hW1]; simp
      have hbn : W1.heap[wr.heap.size]? = some (.cells #[.bool x.leaf, .slice ai x.ids.length ci, .slice an x.pl.normal.length cn, .int .i64 x.pl.off, .int .i64 x.left, .int .i64 x.right] 48) := by rw [← hW1]; exact Go.heap_alloc_new wr _
      have g0 : W1.cell? ⟨wr.heap.size, 0, none⟩ = some (.bool x.leaf) := by rw [cell_of_block hbn]; rfl
      have g1 : W1.cell? ⟨wr.heap.size, 1, none⟩ = some (.slice ai x.ids.length ci) := by rw [cell_of_block hbn]; rfl
      have hni : (Kd.int .i64).slice.At (lp :: M) W1 [.slice ai x.ids.length ci] x.ids := hn.ids.upd hu1 (by simp) (fun k hk => .inl hk)
      have hcl := clone_int_calls _ _ _ _ hni (HS.out x (List.mem_of_getElem? hx))
      have HCL := Lib.hid hcl
      clear hcl hni hbn
      have hj1 : J (leavesOf (l.take k)) M W1 := HJ.out _ _ _ _ [] (by simp) hj.out hu1
      have hd1 := hd.out.upd hu1 (by simp) (M' := lp :: M) (fun k hk => .inl hk)
      have HX := Lib.hid hx
      have htk : leavesOf (l.take (k + 1)) = if x.leaf then leavesOf (l.take k) ++ [x.ids] else leavesOf (l.take k) := by rw [take_snoc' hx, leavesOf_snoc]
      cases hleaf : x.leaf with
      | false =>
        rw [hleaf] at c0 hW1 htk g0
        simp only [Bool.false_eq_true, if_false] at htk
        have HTK := Lib.hid htk
        have HJ1 := Lib.hid hj1
        have HD1 := Lib.hid hd1
        clear hx hleaf htk hj1 hd1 hn hu1 hd
        gi_wp2
        refine ⟨by first | trivial | exact fun _ _ => trivial, ?_⟩
        go_at_K
        gi_wp2
        refine ⟨by first | trivial | exact fun _ _ => trivial, ?_⟩
        go_at_K
        gi_wp2
        go_roundw
        case rel => exact ⟨k + 1, M, by omega, by go_num, by rw [HTK.out]; exact HJ1.out, HD1.out, fun j hj => by have := hm.out j hj; omega, hm0.out, by omega⟩
        case measure => simp [intOf]; omega
      | true =>
        rw [hleaf] at c0 hW1 htk g0
        gi_wp2
        simp only [if_true] at htk
        have HTK := Lib.hid htk
        have hrest : ∃ rest, leavesOf l = leavesOf (l.take k) ++ x.ids :: rest := by
          refine ⟨leavesOf (l.drop (k + 1)), ?_⟩
          have : leavesOf l = leavesOf (l.take (k + 1)) ++ leavesOf (l.drop (k + 1)) := by
            unfold leavesOf
            rw [← List.map_append, ← List.filter_append, List.take_append_drop]
          rw [this, htk]
          simp
        obtain ⟨rest, hrest⟩ := hrest
        have HR := Lib.hid hrest
        have HJ1 := Lib.hid hj1
        have HD1 := Lib.hid hd1
        have HU1 := Lib.hid hu1
        clear hx hleaf htk hj1 hd1 hn hu1 hd hrest
        refine ⟨trivial, rfl, ?_⟩
        refine (calls_in HCL.out).mono ?_
        rintro e w2 ⟨v', rfl, hb2, hrow⟩
        have hu2 : Upd [] W1 w2 := Upd.ofBelow hb2 []
        have hrow1 := hrow.ob_lt
        have hml : ∀ k, k ∈ lp :: M → k < W1.heap.size := by
          intro j hj
          rcases List.mem_cons.1 hj with rfl | hj
          · omega
          · have := hm.out j hj; omega
        have hval : valInts w2 (lp :: M) x.ids #[v'] := by
          exact ⟨v', rfl, (hrow.int_any (M' := lp :: M)).read (fun k hk h2 => by have := (hrow1 k hk).1; have := hml k h2; omega)⟩
        have hj2 : J (leavesOf (l.take k)) M w2 := HJ.out _ _ _ _ [] (by simp) HJ1.out hu2
        obtain ⟨fn, tmps, assign, body, hy, hR⟩ := HY.out _ _ _ M w2 _ HR.out hj2 hval (fun k hk => by have := hm.out k hk; have := hb2.size; omega) 0
        clear hval hj2 hrow
        gi_wp2
        refine ⟨rfl, hR.mono ?_⟩
        rintro e w3 ⟨M', hU3, hM', hcase⟩
        have hz3 := hU3.size
        have hz2 := hb2.size
        have HD3 := Lib.hid ((HD1.out.below hb2).upd hU3 (fun k hk => hk) (M' := lp :: M') (fun k hk => by
          rcases List.mem_cons.1 hk with rfl | hk
          · exact .inl (by simp)
          · rcases (hM' k hk).2 with h | h
            · exact .inl (by simp [h])
            · exact .inr h))
        have HM3 := Lib.hid (fun k hk => (hM' k hk).1)
        have HM4 : Hid (∀ k, k ∈ M' → k ∈ N ∨ w.heap.size ≤ k) := Lib.hid (fun k hk => by
          rcases (hM' k hk).2 with h | h
          · exact hm0.out k h
          · exact .inr (by omega))
        rcases hcase with ⟨rfl, hj3⟩ | ⟨rfl, hj3⟩
        · have HJ3 := Lib.hid hj3
          clear hU3 hM' hj3 hR hy hb2 hu2
          gi_wp2
          go_roundw
          case rel => exact ⟨k + 1, M', by omega, by go_num, by rw [HTK.out]; exact HJ3.out, HD3.out, HM3.out, HM4.out, by omega⟩
          case measure => simp [intOf]; omega
        · have HJ3 := Lib.hid hj3
          clear hU3 hM' hj3 hR hy hb2 hu2
          gi_wp2
          refine bodyPost_ret (results_none rfl _ _ _) rfl ?_
          exact ⟨⟨_, rfl⟩, M', .inr ⟨_, by rw [HR.out]; exact ⟨rest, by simp⟩, HJ3.out⟩⟩
    · gi_wp2
      go_end0
      have hkl : k = l.length := by omega
      subst hkl
      rw [List.take_length] at hj
      exact ⟨⟨_, rfl⟩, M, .inl hj.out⟩

theorem shape_leaves_calls (v : Value) (l : List Nd) (M : List Nat) (w : World) (h : kNd.slice.At M w [v] l) (hM : ∀ k, k ∈ M → k < w.heap.size) (hs : ∀ x ∈ l, x.ids.length ≤ 1099511627776) :
    Calls Try.prog 60 #[v] w fun e w' => ∃ bx, e = .returned (.func (.func 93) #[] #[.pointer (some ⟨bx, 0, none⟩)]) ∧ Below w.heap.size w w' ∧
      ItFrom Try.prog w' M 93 #[.pointer (some ⟨bx, 0, none⟩)] (leavesOf l) valInts := by
  have hit : ∀ W t, Upd [] w W → W.heap[w.heap.size]? = some (.cells #[v] t) → ItFrom Try.prog W M 93 #[.pointer (some ⟨w.heap.size, 0, none⟩)] (leavesOf l) valInts := fun W t hu hb =>
    leaves_it w.heap.size v t l W hb M (fun hm => by have := hM _ hm; omega) (h.upd hu (by simp) (fun k hk => .inl hk)) hs
  obtain ⟨ao, cap, rfl, _, _⟩ := Kd.slice_form h
  have HIT := Lib.hid hit
  have hb1 := below_alloc1 w
  have HB := Lib.hid hb1
  clear hit h hs hb1 hM
  go_enter Try.func60, Try.ntmps60
  go_wp2_with fail
  go_ret
  exact ⟨_, rfl, HB.out _, HIT.out _ _ (Upd.alloc [] w _) (Go.heap_alloc_new w _)⟩

end Go.Proofs.Ytfkmkhojedfccaa
