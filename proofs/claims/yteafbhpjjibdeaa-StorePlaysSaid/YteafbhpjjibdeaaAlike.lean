/-
Whether a store has the document's files: it has.
-/
import Derived.Test.YteafbhpjjibdeaaPlaysP
import Derived.Deep.RegionHeld3
namespace Go.Proofs.Yteafbhpjjibdeaa
set_option linter.unusedVariables false
set_option linter.unusedSimpArgs false
open Go.RowKit

attribute [local go_sem] Oper.semAt_some

theorem files_list (L : List (ByteArray × ByteArray)) : filesOf L = (listOf L).map (fun x => (x.1, (x.2.size : Int))) := by
  unfold filesOf listOf
  rw [List.map_map]
  exact List.map_congr_left (fun n _ => rfl)

theorem RB.finF {t : TypeId} {w0 w wk : World} {n : Nat} (h : RB t w wk) (hn : w.heap.size = n) (h0 : Below w0.heap.size w0 w) {b : Bool} {P : Program} {fn : Func} {tmps : Array Value} {p : Tmp} (hr : fn.results = #[.cell p t]) (hu : P.underlying t = some .bool) (hp : tmps.getD p undef = .pointer (some ⟨n, 0, none⟩))
    (Ds : List (Nat × Array Value)) (hK : ∀ D ∈ Ds, n < D.1 ∧ wk.heap[D.1]? = some (.deferred (some []))) (hd : (Ds.map (·.1)).Nodup) :
    LeavesInM Fence.wide 0 P fn tmps (fun e w' => e = .returned (.bool b) ∧ Below w0.heap.size w0 w') (Ds.map fun D => { target := .collected D.1, args := D.2 }) .returning (wk.setCell ⟨n, 0, none⟩ (.bool b)) := by
  subst hn
  exact h.finW h0 hr hu hp Ds hK hd

set_option maxHeartbeats 8000000 in
set_option maxRecDepth 100000 in
theorem alike_calls (p m : Nat) (v : Value) (L : List (ByteArray × ByteArray)) (w : World) (hs : IsStore w p m L) (hfc : FineC L) (h : kFile.slice.At [] w [v] (listOf L)) :
    Calls Try.prog 36 #[.pointer (some ⟨p, 0, none⟩), v] w fun e w' => e = .returned (.bool true) ∧ Below w.heap.size w w' := by
  obtain ⟨ao, cap, rfl, hl, hcap⟩ := Kd.slice_form h
  unfold maxLen at hcap
  have hpl := block_lt hs.blk
  have hml : m < w.heap.size := by obtain ⟨_, _, h1, _⟩ := hs.map; exact block_lt h1
  have hfl := files_list L
  have hsum := fsum_list hfc
  have hlen := list_len hfc
  have hlc := hfc.len
  have hfew := hs.few
  obtain ⟨R, hR⟩ : ∃ R, listOf L = R := ⟨_, rfl⟩
  rw [hR] at h hl hfl hsum hlen
  rw [hR]
  have HR := Lib.hid hR
  clear hR
  obtain ⟨W0, hW0⟩ : ∃ W0, (w.alloc (.cells #[.pointer (some ⟨p, 0, none⟩)] 47)).alloc (.cells #[.slice ao R.length cap] 49) = W0 := ⟨_, rfl⟩
  have hu0 : Upd [] w W0 := by rw [← hW0]; exact (Upd.alloc [] w _).trans (Upd.alloc [] _ _)
  have hp0 : W0.heap[w.heap.size]? = some (.cells #[.pointer (some ⟨p, 0, none⟩)] 47) := by rw [← hW0]; exact alloc2_fst w _ _
  have hl0 : W0.heap[w.heap.size + 1]? = some (.cells #[.slice ao R.length cap] 49) := by rw [← hW0]; exact alloc2_snd w _ _
  have hz0 : W0.heap.size = w.heap.size + 2 := by rw [← hW0]; simp
  obtain ⟨W1, hW1⟩ : ∃ W1, W0.alloc (.cells #[.bool false] 4) = W1 := ⟨_, rfl⟩
  have hrb1 : RB 4 W0 W1 := by rw [← hW1]; exact RB.start _ W0
  obtain ⟨W2, hW2⟩ : ∃ W2, W1.alloc (.cells #[.int .i64 0] 3) = W2 := ⟨_, rfl⟩
  have hu12 : Upd [] W1 W2 := by rw [← hW2]; exact Upd.alloc [] W1 _
  have hn2 : W2.heap[W1.heap.size]? = some (.cells #[.int .i64 0] 3) := by rw [← hW2]; exact Go.heap_alloc_new W1 _
  have hz1 : W1.heap.size = w.heap.size + 3 := by rw [← hW1]; simp [hz0]
  have hz2 : W2.heap.size = w.heap.size + 4 := by rw [← hW2]; simp [hz1]
  have hu02 : Upd [] w W2 := (hu0.trans (Upd.ofBelow hrb1.below [])).trans hu12
  have hn2' : W2.heap[w.heap.size + 3]? = some (.cells #[.int .i64 0] 3) := by rw [← hz1]; exact hn2
  have hp2 := upd_far ((Upd.ofBelow hrb1.below []).trans hu12) hp0 (by simp)
  have hl2 := upd_far ((Upd.ofBelow hrb1.below []).trans hu12) hl0 (by simp)
  have RB2 := Lib.hid (hrb1.upd hu12 (by simp))
  have HS2 := Lib.hid (hs.upd hu02 (by simp) (by simp))
  have H2 := Lib.hid (h.upd hu02 (by simp) (M' := [w.heap.size + 3]) (by simp))
  have hfc2 := files_calls p m L W2 HS2.out (fun y hy => by have := hfc.ok y hy; unfold fname at this; simp at this; unfold maxLen; omega) (by omega) [w.heap.size + 3] (by simp; omega) (by simp; omega) (by simp; omega)
  rw [hfl] at hfc2
  have cP2 : W2.cell? ⟨w.heap.size, 0, none⟩ = some (.pointer (some ⟨p, 0, none⟩)) := by rw [cell_of_block hp2]; rfl
  have HB0 := Lib.hid hu0.below
  have HFC := Lib.hid hfc
  have HFL := Lib.hid hfl
  have HP2 := Lib.hid hp2
  have HL2 := Lib.hid hl2
  have HN2 := Lib.hid hn2'
  rw [← hW2, ← hW1, ← hW0] at hfc2 cP2
  have HFI := Lib.hid hfc2
  have HWE : Hid ((((w.alloc (.cells #[.pointer (some ⟨p, 0, none⟩)] 47)).alloc (.cells #[.slice ao R.length cap] 49)).alloc (.cells #[.bool false] 4)).alloc (.cells #[.int .i64 0] 3) = W2) := Lib.hid (by rw [hW0, hW1, hW2])
  have hRl : R.length ≤ 16 := by omega
  have HSUM := Lib.hid hsum
  have hR16 : fsum R ≤ 16777216 := by omega
  clear hlen hsum
  clear h hs hfc hu0 hp0 hl0 hrb1 hu12 hn2 hu02 hn2' hp2 hl2 hfc2 hW0 hW1 hW2 hfl
  refine calls_of_wp_marks Try.func36 rfl ?_
  simp only [Try.ntmps36, List.size_toArray, List.length_cons, List.length_nil, Nat.reduceAdd, Nat.reduceSub, Array.replicate_succ, Array.replicate_zero, List.push_toArray, List.append_toArray, List.nil_append, List.cons_append]
  go_wp2_with fail
  refine HFI.out.mono ?_
  rw [HWE.out]
  rintro e w6 ⟨bf, rfl, hb6, hit⟩
  have hz6 := hb6.size
  have RB6 := Lib.hid (RB2.out.call hb6)
  have HS6 := Lib.hid (HS2.out.upd (Upd.ofBelow hb6 []) (by simp) (by simp))
  have H6 := Lib.hid (H2.out.below hb6)
  have HP6 := Lib.hid ((hb6.block _ (by omega)).trans HP2.out)
  have HL6 := Lib.hid ((hb6.block _ (by omega)).trans HL2.out)
  have HN6 := Lib.hid ((hb6.block _ (by omega)).trans HN2.out)
  have HIT := Lib.hid hit
  clear hb6 hit HFI cP2
  go_wp2_with fail
  refine wp_range (xs := R.map (fun x => (x.1, (x.2.size : Int)))) (val := valFile) [w.heap.size + 3] rfl (enters_it Try.func51 rfl rfl) (fun W hu hsz => ?_)
    (fun pre M W => M = [w.heap.size + 3] ∧ W.heap[w.heap.size + 3]? = some (.cells #[.int .i64 pre.length] 3) ∧ Upd [w.heap.size + 3] w6 W)
    (fun c pre M W => False) ?_ ?_ ?_ ?_ ?_ ?_ ?_ ?_ ?_
  · exact HIT.out W _ _ (hu.mono (by simp)) (by omega) (fun k hk => .inl hk)
  · rintro pre M W W' S hS ⟨rfl, a3, a5⟩ hu
    exact ⟨rfl, upd_far hu a3 (fun h => (hS _ h).2 (by simp)), a5.trans' hu (fun k hk => .inr (hS k hk).1)⟩
  · rintro c pre M W W' S hS h _
    exact h.elim
  · rintro M W W' x args hv hu
    exact hv
  · rintro W M x args hv
    rw [hv]
    rfl
  · exact ⟨rfl, HN6.out, Upd.refl _ _⟩
  · simp
    omega
  · rintro l0 pre y rest M W0' W args hxs ⟨rfl, a3, a5⟩ hv _ hl1 hl2 hl3 hM
    have hv : args = #[.string y.1, .int .i64 y.2] := hv
    subst hv
    have hy : (R.map (fun x => (x.1, (x.2.size : Int))))[pre.length]? = some y := by rw [hxs]; simp
    rw [List.getElem?_map] at hy
    obtain ⟨z, hz, rfl⟩ := Option.map_eq_some_iff.1 hy
    have hpl := (List.getElem?_eq_some_iff.1 hz).1
    have hff : ffind L z.1 = (z.2, 0) := by
      have hzm := List.mem_of_getElem? hz
      rw [← HR.out] at hzm
      have h1 := (listOf_perm HFC.out.nd).mem_iff.1 hzm
      have h2 := sfind_mem HFC.out.nd z h1
      have h3 := HFC.out.ok z.1 (List.mem_map_of_mem h1)
      simp [ffind, h2, h3]
    obtain ⟨b, o, c', hvv, _, _, d0, d1, _⟩ := file_at (H6.out.upd a5 (fun k hk => hk) (M' := []) (by simp)) hz
    simp at hvv
    obtain ⟨rfl, rfl⟩ := hvv
    have hrd := read_calls z.1 W p m L (HS6.out.upd a5 (by simp; omega) (by simp; omega))
    rw [hff] at hrd
    have HRD := Lib.hid hrd
    have hc : W.cell? ⟨w.heap.size + 3, 0, none⟩ = some (.int .i64 pre.length) := by rw [cell_of_block a3]; rfl
    have hf : W.frozen? ⟨w.heap.size + 3, 0, none⟩ = false := frozen_of_block a3
    have hcp : W.cell? ⟨w.heap.size, 0, none⟩ = some (.pointer (some ⟨p, 0, none⟩)) := by rw [cell_of_block (upd_far a5 HP6.out (by simp))]; rfl
    have hcl : W.cell? ⟨w.heap.size + 1, 0, none⟩ = some (.slice (some ⟨b, o, none⟩) R.length cap) := by rw [cell_of_block (upd_far a5 HL6.out (by simp))]; rfl
    have A3 := Lib.hid a3
    have A5 := Lib.hid a5
    have hi1 : (pre.length : Int) < (R.length : Int) := by omega
    have hi2 : (pre.length : Int) ≤ 16 := by omega
    clear hxs a3 a5 hl3 hM hy hz hff hrd
    gi_wp2
    refine ⟨trivial, ?_⟩
    gi_wp2
    refine ⟨rfl, (calls_round HRD.out).mono ?_⟩
    rintro e w' ⟨rfl, rfl⟩
    gi_wp2
    have h3 := heap_setCell_same W (w.heap.size + 3) 0 _ _ (.int .i64 ((pre.length : Int) + 1)) A3.out
    have hU : Upd [w.heap.size + 3] W (W.setCell ⟨w.heap.size + 3, 0, none⟩ (.int .i64 ((pre.length : Int) + 1))) := Upd.setCell (by simp) _
    exact ⟨hU, _, (fun k hk => ⟨by simp at hk; subst hk; exact block_lt A3.out, .inl (by simpa using hk)⟩), rfl, by simpa using h3, A5.out.trans hU⟩
  · rintro M W7 ⟨rfl, a3, a5⟩ hM hK
    simp only [Exit.inBlock, Exit.then]
    go_at_K
    rw [List.length_map] at a3
    have RB7 := Lib.hid (RB6.out.upd a5 (by simp; omega))
    have HS7 := Lib.hid (HS6.out.upd a5 (by simp; omega) (by simp; omega))
    have H7 := Lib.hid (H6.out.upd a5 (fun k hk => hk) (M' := []) (by simp))
    have hc : W7.cell? ⟨w.heap.size + 3, 0, none⟩ = some (.int .i64 R.length) := by rw [cell_of_block a3]; rfl
    have hcp : W7.cell? ⟨w.heap.size, 0, none⟩ = some (.pointer (some ⟨p, 0, none⟩)) := by rw [cell_of_block (upd_far a5 HP6.out (by simp))]; rfl
    have hcl : W7.cell? ⟨w.heap.size + 1, 0, none⟩ = some (.slice ao R.length cap) := by rw [cell_of_block (upd_far a5 HL6.out (by simp))]; rfl
    have KS : Hid (∀ W, Upd [w.heap.size + 2] W7 W → W.cell? ⟨w.heap.size + 3, 0, none⟩ = some (.int .i64 R.length) ∧ W.cell? ⟨w.heap.size, 0, none⟩ = some (.pointer (some ⟨p, 0, none⟩)) ∧ W.cell? ⟨w.heap.size + 1, 0, none⟩ = some (.slice ao R.length cap)) := Lib.hid (fun W hu =>
      ⟨(hu.cell (a := ⟨w.heap.size + 3, 0, none⟩) (cell_lt hc) (by simp)).trans hc, (hu.cell (a := ⟨w.heap.size, 0, none⟩) (cell_lt hcp) (by simp)).trans hcp, (hu.cell (a := ⟨w.heap.size + 1, 0, none⟩) (cell_lt hcl) (by simp)).trans hcl⟩)
    have HBY : Hid (∀ W, Upd [] W7 W → Calls Try.prog 38 #[.pointer (some ⟨p, 0, none⟩)] W fun e w' => e = .returned (.int .i64 (fsum R)) ∧ Upd [] W7 w') := Lib.hid (fun W hu => by
      refine (bytes_calls W p m L (HS7.out.upd hu (by simp) (by simp))).mono ?_
      rintro e w' ⟨rfl, rfl⟩
      exact ⟨by rw [HSUM.out], hu⟩)
    have HRB : Hid (∀ W, Upd [] W7 W → Calls Try.prog 49 #[.slice ao R.length cap] W fun e w' => e = .returned (.int .i64 (fsum R)) ∧ Upd [] W7 w') := Lib.hid (fun W hu => by
      refine (ref_bytes_calls _ R [] W (H7.out.upd hu (by simp) (M' := []) (by simp)) (by omega)).mono ?_
      rintro e w' ⟨rfl, rfl⟩
      exact ⟨rfl, hu⟩)
    have HK7 := Lib.hid hK
    have hlt7 := block_lt hK
    obtain ⟨FF, hFF⟩ : ∃ FF : Int, (fsum R : Int) = FF := ⟨_, rfl⟩
    rw [hFF] at HBY HRB
    have hne : (FF == FF) = true := by simp
    clear a3 a5 hM hK hFF
    go_wp2_with fail
    go_region_held3 (fun w' => w'.cell? ⟨w.heap.size + 3, 0, none⟩ = some (.int .i64 R.length) ∧ w'.cell? ⟨w.heap.size, 0, none⟩ = some (.pointer (some ⟨p, 0, none⟩)) ∧ w'.cell? ⟨w.heap.size + 1, 0, none⟩ = some (.slice ao R.length cap))
      (first | exact KS.out _ ((hY.mono (by simp)).trans (Upd.setCell (by simp) _)) | exact KS.out _ (hY.mono (by simp)) | exact KS.out _ (hX.mono (by simp)) | exact KS.out _ (Upd.drewN _ W7 _))
      (first
        | (go_at_call 38
           refine (HBY.out _ (Upd.drewN [] W7 _)).mono ?_
           rintro e wX ⟨rfl, hX⟩)
        | (go_at_call 49
           refine (HRB.out _ hX).mono ?_
           rintro e wY ⟨rfl, hY⟩
           have RBY := Lib.hid (RB7.out.upd hY (by simp))
           have HKY := Lib.hid (upd_far hY HK7.out (by simp))
           have cY := RBY.out.c
           have fY := RBY.out.f
           rw [hz0] at cY fY))
    go_wp2_with fail
    exact RBY.out.finF hz0 HB0.out rfl Try.underlying4 rfl [(_, _)] (by simp; exact ⟨by omega, HKY.out⟩) (by simp)
  · rintro c pre M W hpre h
    exact h.elim

end Go.Proofs.Yteafbhpjjibdeaa
