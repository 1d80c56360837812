/-
topk.Of: the first few of what an iterator tells.
-/
import Derived.Test.YtglghgjbnoldaaaSelL
import Derived.Test.YtglghgjbnoldaaaEach
namespace Go.Proofs.Ytglghgjbnoldaaa.E3
set_option linter.unusedVariables false
set_option linter.unusedSimpArgs false
open Go.RowKit Go.Proofs.Ytglghgjbnoldaaa

theorem iterO_of_S {α : Type} {P : Program} {gf : FuncId} {lb : Array Value} {l : Nat} {W0 : World} {M : List Nat} {xs : List α} {val : World → List Nat → α → Array Value → Prop} (h : IterS P gf lb l W0 M xs val) : IterO P gf lb l W0 [] M (fun _ => True) xs val := by
  intro J Jx hJ hJx hY hl hM h0
  refine (h J Jx (fun pre M W W' S hS => hJ pre M W W' S (fun k hk => ⟨.inl (hS k hk).1, (hS k hk).2⟩)) (fun pre M W W' S hS => hJx pre M W W' S (fun k hk => ⟨.inl (hS k hk).1, (hS k hk).2⟩)) hY hl hM h0).mono ?_
  rintro e W' ⟨h1, M', h2 | h2⟩
  · exact ⟨h1, M', .inl ⟨h2, trivial⟩⟩
  · exact ⟨h1, M', .inr h2⟩
theorem row_ok {M : List Nat} {e : TypeId} {B : Nat} {w : World} {v : Value} {l : List Tk} (h : Row tkE.kd M e B w v l) : ∀ x ∈ l, tkE.ok x := fun x hx => by
  obtain ⟨i, hi, rfl⟩ := List.getElem_of_mem hx
  obtain ⟨_, _, cs, _, _, _, _, _, ha, _⟩ := h.get (List.getElem?_eq_getElem hi)
  exact (Flat.at_ ha).2
theorem Kept.chosen {most : Int} {xs : List Rs} {l : List Tk} (h : Kept most xs l) : Chosen most xs ((desc l).reverse.map rs) :=
  h.done ((List.reverse_perm _).trans (desc_perm l)) (List.pairwise_reverse.2 (desc_sorted l))

attribute [local go_sem] Oper.semAt_some

set_option maxHeartbeats 4000000 in
set_option maxRecDepth 100000 in
theorem topk_of_calls (most : Int) (gf : FuncId) (lb : Array Value) (xs : List Rs) (w : World) (N : List Nat) (eg : ∀ args w, (callFunc gf args).run Try.prog w = .ok (.enter gf args) w) (hit : ItFromS Try.prog w N gf lb xs valRs)
    (hok : ∀ x ∈ xs, rsE.ok x) (hn : xs.length ≤ 1048576) (hm : (Lit.int .i64 most).wf = true) :
    Calls Try.prog 28 #[.func (.func 29) #[] #[], .int .i64 most, .func (.func gf) #[] lb] w fun e w' => ∃ v' out, e = .returned v' ∧ Row rsE.kd [] 42 w.heap.size w' v' out ∧ Chosen most xs out ∧ Below w.heap.size w w' := by
  have HIT := Lib.hid hit
  have EG := Lib.hid eg
  have HOK := Lib.hid hok
  have HNEW := Lib.hid (sel_new_calls most w)
  clear hit eg hok
  refine calls_of_wp_marks Try.func28 rfl ?_
  simp only [Try.ntmps28, List.size_toArray, List.length_cons, List.length_nil, Nat.reduceAdd, Nat.reduceSub, Array.replicate_succ, Array.replicate_zero, List.push_toArray, List.append_toArray, List.nil_append, List.cons_append]
  go_wp2_with fail
  refine HNEW.out.mono ?_
  rintro e w1 ⟨sp, sb, h, rfl, hs1, hb1⟩
  obtain ⟨W2, hW2⟩ : ∃ W2, w1.alloc (.cells #[.pointer (some ⟨sp, 0, none⟩)] 78) = W2 := ⟨_, rfl⟩
  have u2 : Upd [] w1 W2 := by rw [← hW2]; exact Upd.alloc [] w1 _
  have HSX : Hid (W2.heap[w1.heap.size]? = some (.cells #[.pointer (some ⟨sp, 0, none⟩)] 78)) := Lib.hid (by rw [← hW2]; exact Go.heap_alloc_new w1 _)
  have hz2 : W2.heap.size = w1.heap.size + 1 := by rw [← hW2]; simp
  have HS2 := Lib.hid (hs1.upd u2 (by simp) (by simp) (by simp) (by simp))
  have HB2 := Lib.hid (hb1.trans (u2.below.mono hb1.size))
  have hls := block_lt hs1.hs
  have hlb := block_lt hs1.hb
  have hlh := block_lt hs1.hh.hd
  have hBs := hs1.Bs
  have hBb := hs1.Bb
  have hBh := hs1.hh.le
  have hw1 : w.heap.size ≤ w1.heap.size := hb1.size
  clear hs1 hb1 u2 HNEW
  go_wp2_with fail
  clear hW2
  refine wp_rangeO (xs := xs) (val := valRs) [sp, h] [] (fun _ => True) (by simp) (fun _ _ _ _ _ _ => trivial) rfl EG.out (fun W hu hsz => ?_)
    (fun pre M W => ∃ v1 l1, M = sp :: h :: ob v1 ∧ IsSel W w.heap.size sp sb h most pre.length v1 l1 ∧ Kept most pre l1 ∧ W.heap[w1.heap.size]? = some (.cells #[.pointer (some ⟨sp, 0, none⟩)] 78) ∧ Below w.heap.size w W ∧ w1.heap.size ∉ ob v1)
    (fun c pre M W => False) ?_ ?_ ?_ ?_ ?_ ?_ ?_ ?_
  · refine iterO_of_S (HIT.out W _ _ (Upd.ofBelow (HB2.out.trans (hu.below.mono HB2.out.size)) N) (by have := HB2.out.size; omega) (fun k hk => .inr (by simp at hk; omega)))
  · rintro pre M W W' T hT ⟨v1, l1, rfl, a1, a2, a3, a4, a5⟩ hu
    have hT1 : ∀ k, k ∈ T → W2.heap.size ≤ k := fun k hk => by rcases (hT k hk).1 with h | h; exact h; simp at h
    exact ⟨v1, l1, rfl, a1.upd hu (fun h => (hT _ h).2 (by simp)) (fun h => by have := hT1 _ h; omega) (fun h => (hT _ h).2 (by simp)) (fun k hk h => (hT k h).2 (by simp [hk])), a2, upd_far hu a3 (fun h => by have := hT1 _ h; omega), a4.trans (hu.belowB a4.size (fun k hk => by have := hT1 k hk; omega)), a5⟩
  · rintro c pre M W W' T hT hh _
    exact hh.elim
  · rintro W M x args hv
    rw [hv]
    rfl
  · exact ⟨.slice none 0 0, [], rfl, HS2.out, Kept.start _, HSX.out, HB2.out, by simp [ob, Value.ownBlock]⟩
  · simp
    omega
  · rintro l0 pre y rest M W args hxs ⟨v1, l1, rfl, a1, a2, a3, a4, a5⟩ hv _ hl1 hl2 hl3 hM
    have hv : args = #[rsV y] := hv
    subst hv
    have hy := HOK.out y (by rw [hxs]; simp)
    have hpre : pre.length ≤ 1048576 := by rw [hxs] at hn; simp at hn; omega
    obtain ⟨X1, hX1⟩ : ∃ X1, W.alloc (.cells #[.int .i64 y.id, .int .i64 y.far] 42) = X1 := ⟨_, rfl⟩
    have v1u : Upd [] W X1 := by rw [← hX1]; exact Upd.alloc [] W _
    have he1 : X1.heap[W.heap.size]? = some (.cells #[.int .i64 y.id, .int .i64 y.far] 42) := by rw [← hX1]; exact Go.heap_alloc_new W _
    have A1 := Lib.hid a1
    have A2 := Lib.hid a2
    have A3 := Lib.hid a3
    have A4 := Lib.hid a4
    have HSE := Lib.hid a5
    have HV1 := Lib.hid v1u
    have HE1 := Lib.hid he1
    have HL3 := Lib.hid hl3
    have HMM := Lib.hid hM
    have HY := Lib.hid hy
    have HZX : Hid (X1.heap.size = W.heap.size + 1) := Lib.hid (by rw [← hX1]; simp)
    clear hxs a1 a2 a3 a4 a5 v1u he1 hl3 hM hy
    unfold rsV
    gi_wp2
    refine ⟨HV1.out, fun X0 hul hzl => ?_⟩
    have hl0 : ∀ k, k ∈ sp :: h :: ob v1 → k ∉ [l0] := fun k hk hm => by simp at hm; subst hm; exact HL3.out hk
    have S0 := (A1.out.upd HV1.out (by simp) (by simp) (by simp) (by simp)).upd hul (hl0 _ (by simp)) (by simp; omega) (hl0 _ (by simp)) (fun k hk => hl0 k (by simp [hk]))
    have hs0 := upd_far hul (upd_far HV1.out A3.out (by simp)) (by simp; omega)
    have he0 := upd_far hul HE1.out (by simp; omega)
    have cs : X0.cell? ⟨w1.heap.size, 0, none⟩ = some (.pointer (some ⟨sp, 0, none⟩)) := by rw [cell_of_block hs0]; rfl
    have e0 : X0.cell? ⟨W.heap.size, 0, none⟩ = some (.int .i64 y.id) := by rw [cell_of_block he0]; rfl
    have e1 : X0.cell? ⟨W.heap.size, 1, none⟩ = some (.int .i64 y.far) := by rw [cell_of_block he0]; rfl
    have HOF := Lib.hid (offer_calls w.heap.size sp sb h most v1 l1 y pre X0 S0 A2.out HY.out hpre hm)
    have HS0 := Lib.hid S0
    have HSX0 := Lib.hid hs0
    have HBX : Hid (Below w.heap.size w X0) := Lib.hid ((A4.out.trans (HV1.out.belowB A4.out.size (by simp))).trans (hul.belowB (by have := A4.out.size; have := HZX.out; omega) (by simp; omega)))
    have HWX : Hid (W.heap.size ≤ X0.heap.size) := Lib.hid (by have := HZX.out; omega)
    clear S0 hs0 he0 hl0 hul hzl
    gi_wp2
    refine ⟨trivial, rfl, (calls_round HOF.out).mono ?_⟩
    rintro e w5 ⟨⟨bb, rfl⟩, v5, l5, hS5, hK5, hU5, hO5⟩
    have HS5 := Lib.hid hS5
    have HK5 := Lib.hid hK5
    have HU5 := Lib.hid hU5
    have HO5 := Lib.hid hO5
    clear hS5 hK5 hU5 hO5 HOF
    gi_wp2
    have hse : w1.heap.size ∉ sp :: h :: ob v1 := fun hm => by
      have hbl := block_lt A3.out
      rcases List.mem_cons.1 hm with e | hm
      · omega
      · rcases List.mem_cons.1 hm with e | hm
        · omega
        · exact HSE.out hm
    refine ⟨HU5.out, sp :: h :: ob v5, fun k hk => ?_, v5, rfl, l5, HS5.out, HK5.out, upd_far HU5.out HSX0.out hse, HBX.out.trans (HU5.out.belowB HBX.out.size (fun k hk => ?_)), fun hm => by
      rcases HO5.out _ hm with h1 | h1
      · exact HSE.out h1
      · have := block_lt A3.out; have := HWX.out; omega⟩
    · have hsz := HU5.out.size
      rcases List.mem_cons.1 hk with rfl | hk
      · exact ⟨by have := block_lt HS5.out.hs; exact this, .inl (.inl rfl)⟩
      · rcases List.mem_cons.1 hk with rfl | hk
        · exact ⟨by have := block_lt HS5.out.hh.hd; exact this, .inl (.inr (.inl rfl))⟩
        · refine ⟨(HS5.out.hh.row.ob_lt k hk).2, ?_⟩
          rcases HO5.out k hk with h1 | h1
          · exact .inl (.inr (.inr h1))
          · exact .inr (Nat.le_trans HWX.out h1)
    · rcases List.mem_cons.1 hk with rfl | hk
      · exact hBs
      · rcases List.mem_cons.1 hk with rfl | hk
        · exact hBh
        · exact (A1.out.hh.row.ob_lt k hk).1
  · rintro M W7 ⟨v1, l1, rfl, a1, a2, a3, a4, _⟩ _ hM hK
    simp only [Exit.inBlock, Exit.then]
    go_at_K
    have HLS := Lib.hid (sel_list_calls w.heap.size sp sb h most xs.length v1 l1 W7 a1 (by have := a2.le; omega) (row_ok a1.hh.row))
    have c7 : W7.cell? ⟨w1.heap.size, 0, none⟩ = some (.pointer (some ⟨sp, 0, none⟩)) := by rw [cell_of_block a3]; rfl
    have HC := Lib.hid a2.chosen
    generalize (desc l1).reverse.map rs = out at HLS HC
    have A4 := Lib.hid a4
    have HK := Lib.hid hK
    have HMN := Lib.hid hM
    have HH1 : Hid (w.heap.size ≤ h ∧ ∀ k, k ∈ ob v1 → w.heap.size ≤ k) := Lib.hid ⟨a1.hh.le, fun k hk => (a1.hh.row.ob_lt k hk).1⟩
    have hD := block_lt hK
    clear a1 a2 a3 a4 hK hM
    go_wp2_with fail
    refine HLS.out.mono ?_
    rintro e w8 ⟨v8, rfl, hr8, hb8⟩
    obtain ⟨a8, c8, rfl, _, _⟩ := row_form hr8
    have HR8 := Lib.hid hr8
    have HB8 := Lib.hid (A4.out.trans (hb8.belowB A4.out.size (fun k hk => by
      rcases List.mem_cons.1 hk with rfl | hk
      · exact HH1.out.1
      · exact HH1.out.2 k hk)))
    have HK8 := Lib.hid (upd_far hb8 HK.out (fun hm => HMN.out (List.mem_cons_of_mem _ hm)))
    rw [hz2] at HK8 hD
    clear hb8 hr8 c7
    go_wp2_with fail
    have hr8 := HR8.out.ob_lt
    refine end_marks HK8.out (results_tmp rfl _ _ _) ⟨_, _, by first | rfl | simp, ?_, HC.out, ?_⟩
    · exact (((HR8.out.flat_any (M' := [w1.heap.size + 1])).upd (Upd.putOne _) (fun k hk => hk) (fun k hk h => by simp at h; subst h; have := (hr8 _ hk).1; omega) (M' := []) (by simp))).base A4.out.size
    · exact HB8.out.trans ((Upd.putOne (m := w1.heap.size + 1) _).belowB HB8.out.size (by simp; omega))
  · rintro c pre M W hpre hh
    exact hh.elim

end Go.Proofs.Ytglghgjbnoldaaa.E3
