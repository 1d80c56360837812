/-
search.step.
-/
import Derived.Test.YtiplifkbegmeiaaSeaW
namespace Go.Proofs.Ytiplifkbegmeiaa
set_option linter.unusedVariables false
set_option linter.unusedSimpArgs false
open Go.RowKit

set_option maxHeartbeats 1000000 in
theorem walk_step_none (B q h : Nat) (hv : Value) (p : Nat) (leaf depth : Int) (vT vv : Value) (s : St) (hl : List Tk) (w : World) (H : IsW w B q h hv p leaf depth vT vv s hl) (h0 : s.tasks = []) :
    Calls Try.prog 30 #[.pointer (some ⟨q, 0, none⟩)] w fun e w' => e = .returned (.tuple #[.slice none 0 0, .bool false, .bool false]) ∧ Below w.heap.size w w' := by
  obtain ⟨c3, c4, c5, c6, c7⟩ := w_cells H
  have hl0 : hl = [] := by have := H.perm; rw [h0] at this; exact this.eq_nil
  subst hl0
  have HP := Lib.hid (pop_none B _ _ h w H.heap)
  clear c3 c4 c6 c7 H h0
  go_enter Try.func30, Try.ntmps30
  go_wp2_with fail
  refine HP.out.mono ?_
  rintro e w1 ⟨rfl, hb1⟩
  have HB1 := Lib.hid hb1
  clear hb1 HP
  go_wp2_with fail
  refine bodyPost_ret (results_tmp3 rfl _ _ _) rfl ?_
  exact ⟨rfl, HB1.out.alloc HB1.out.size _⟩

def StepPost (T : List (List Nd)) (v : List Int) (s : St) (M : List Nat) (B q h : Nat) (hv : Value) (p : Nat) (leaf depth : Int) (vT vv : Value) (w : World) (e : Ending) (w' : World) : Prop :=
  ∃ hv' hl', IsW w' B q h hv' p leaf depth vT vv (stepS T v s) hl' ∧ Upd (q :: h :: ob hv) w w' ∧ (∀ k, k ∈ ob hv' → k ∈ ob hv ∨ w.heap.size ≤ k) ∧
    ((∃ ids vi, outS T s = some ids ∧ e = .returned (.tuple #[vi, .bool true, .bool true]) ∧ (Kd.int .i64).slice.At M w' [vi] ids) ∨ (outS T s = none ∧ e = .returned (.tuple #[.slice none 0 0, .bool false, .bool true])))

set_option maxHeartbeats 4000000 in
set_option maxRecDepth 100000 in
theorem walk_step_some (B q gh : Nat) (hv : Value) (p : Nat) (leaf depth dim : Int) (vT vv : Value) (T : List (List Nd)) (v : List Int) (s : St) (trs : List Tr) (hl : List Tk) (M : List Nat) (w : World) (H : IsW w B q gh hv p leaf depth vT vv s hl)
    (hT : kNd.slice.slice.At M w [vT] T) (hvv : (Kd.int .i32).slice.At M w [vv] v) (hM1 : q ∈ M) (hM2 : gh ∈ M) (hM3 : ∀ k, k ∈ ob hv → k ∈ M) (hB : B ≤ w.heap.size) (ok : StOk T dim s trs) (hvb : Bd21 v) (h0 : 0 < s.tasks.length)
    (hn : s.next + 2 ≤ 1099511627776) (hst : s.steps ≤ 1099511627776) (hlen : s.tasks.length + 2 ≤ 1099511627776) :
    Calls Try.prog 30 #[.pointer (some ⟨q, 0, none⟩)] w (StepPost T v s M B q gh hv p leaf depth vT vv w) := by
  obtain ⟨c3, c4, c5, c6, c7⟩ := w_cells H
  have hll : hl.length = s.tasks.length := H.perm.length_eq
  obtain ⟨m, hm⟩ : ∃ m, hl.length = m + 1 := ⟨hl.length - 1, by omega⟩
  have HP := Lib.hid (pop_some B gh hv hl m hm ahead ahead_asym ahead_negt ahead_irr w H.heap (by omega) (first_ok _ w) H.good)
  obtain ⟨ST, hST⟩ : ∃ N : Int, (s.steps : Int) = N := ⟨_, rfl⟩
  have st0 : 0 ≤ ST := by omega
  have st1 : ST ≤ 1099511627776 := by omega
  have HST := Lib.hid hST
  have HH := Lib.hid H
  have HT := Lib.hid hT
  have HV := Lib.hid hvv
  have HOK := Lib.hid ok
  have HVB := Lib.hid hvb
  have HM3 := Lib.hid hM3
  have HN := Lib.hid hn
  have HLEN := Lib.hid hlen
  have HSTL := Lib.hid hst
  have H00 := Lib.hid h0
  have hobl := H.heap.row.ob_lt
  have hql := block_lt H.hd
  clear c3 c4 c6 c7 H hT hvv ok hvb hM3 hn hlen hst h0 hm hll hST
  go_enter Try.func30, Try.ntmps30
  go_wp2_with fail
  refine HP.out.mono ?_
  rintro e w1 ⟨tk, rfl, htk, v', l', hheap', hperm', hgood', hmin', hu', hob'⟩
  clear HP c5
  -- which task it is
  have hfu := first_unique HOK.out.ord (hperm'.trans HH.out.perm) (fun y hy => hmin' y (HH.out.perm.symm.subset hy)) H00.out
  have hbx : bestIx s.tasks < s.tasks.length := bestTo_lt _ _ H00.out
  have hgt : s.tasks[bestIx s.tasks]? = some tk := by
    rw [hfu.1]
    simp [List.getD_eq_getElem?_getD, hbx]
  obtain ⟨tr, htr⟩ : ∃ tr, trs[bestIx s.tasks]? = some tr := ⟨_, List.getElem?_eq_getElem (by rw [HOK.out.len]; exact hbx)⟩
  obtain ⟨k, a, lst, x, e1, e2, hk, hx, hnode, hcase⟩ := tk_node (HOK.out.ok _ _ _ hgt htr)
  have hlo := (HOK.out.ok _ _ _ hgt htr).lo
  have hhi := (HOK.out.ok _ _ _ hgt htr).hi
  have HFU := Lib.hid hfu
  have HND := Lib.hid hnode
  obtain ⟨tm, ts, tt, ta⟩ := tk
  simp only at e1 e2 hlo hhi
  subst e1 e2
  -- the world behind Pop
  obtain ⟨W2, hW2⟩ : ∃ W2, w1.alloc (.cells #[.int .i64 tm, .int .i64 ts, .int .i64 (k : Int), .int .i64 (a : Int)] 102) = W2 := ⟨_, rfl⟩
  have hu2 : Upd [] w1 W2 := by rw [← hW2]; exact Upd.alloc [] w1 _
  have hy2 : W2.heap[w1.heap.size]? = some (.cells #[.int .i64 tm, .int .i64 ts, .int .i64 (k : Int), .int .i64 (a : Int)] 102) := by rw [← hW2]; exact Go.heap_alloc_new w1 _
  have hqn : q ∉ gh :: ob hv := by
    intro hm
    rcases List.mem_cons.1 hm with hm | hm
    · exact HH.out.qh hm
    · exact HH.out.qv hm
  have hq2 := upd_far hu2 ((hu'.block q hql hqn).trans HH.out.hd) (by simp)
  have hu02 : Upd (gh :: ob hv) w W2 := hu'.trans (hu2.mono (by simp))
  have d6 : W2.cell? ⟨q, 6, none⟩ = some (.int .i64 ST) := by rw [cell_of_block hq2, ← HST.out]; rfl
  have f6 : W2.frozen? ⟨q, 6, none⟩ = false := frozen_of_block hq2
  have hw1s : w.heap.size ≤ w1.heap.size := hu'.size
  have hw1q : q < w1.heap.size := Nat.lt_of_lt_of_le hql hu'.size
  obtain ⟨W3, hW3⟩ : ∃ W3, W2.setCell ⟨q, 6, none⟩ (.int .i64 (ST + 1)) = W3 := ⟨_, rfl⟩
  have hu3 : Upd [q] W2 W3 := by rw [← hW3]; exact Upd.setCell (by simp) _
  have hq3 : W3.heap[q]? = some (.cells #[.pointer (some ⟨p, 0, none⟩), .int .i64 leaf, .int .i64 depth, vT, vv, .pointer (some ⟨gh, 0, none⟩), .int .i64 (ST + 1), .int .i64 (s.next : Int)] 77) := by
    rw [← hW3]; exact (heap_setCell_same W2 q 6 _ _ _ hq2).trans (by simp)
  have hy3 := upd_far hu3 hy2 (by simp; omega)
  have hu03 : Upd (q :: gh :: ob hv) w W3 := (hu02.mono (fun j hj _ => by simp at hj ⊢; exact .inr hj)).trans (hu3.mono (by simp))
  have hSM : ∀ j, j ∈ q :: gh :: ob hv → j ∈ M := fun j hj => by
    rcases List.mem_cons.1 hj with rfl | hj
    · exact hM1
    · rcases List.mem_cons.1 hj with rfl | hj
      · exact hM2
      · exact HM3.out j hj
  have HT3 := Lib.hid (HT.out.upd hu03 hSM (fun j hj => .inl hj))
  have HV3 := Lib.hid (HV.out.upd hu03 hSM (fun j hj => .inl hj))
  have hheap3 := hheap'.upd (hu2.mono (T := [q]) (by simp) |>.trans hu3) (by simpa using fun e => HH.out.qh e.symm) (fun j hj hm => by simp at hm; subst hm; rw [hob'] at hj; exact HH.out.qv hj)
  have HW3 : Hid (IsW W3 B q gh v' p leaf depth vT vv ⟨without s.tasks (bestIx s.tasks), s.steps + 1, s.next⟩ l') := Lib.hid ⟨by rw [hq3, ← HST.out]; simp, hheap3, hfu.2, hgood', HH.out.qh, by rw [hob']; exact HH.out.qv, HH.out.le⟩
  have HU03 := Lib.hid hu03
  have HOB' := Lib.hid hob'
  -- the node
  obtain ⟨bT, oT, cT, vi, hvT, hbT, _, _, _, cT0, hlst⟩ := lists_at HT3.out hk
  subst hvT
  obtain ⟨bN, oN, cN, vi2, vn, hvN, hbN, _, _, _, hnd, n0, n1, n2, n3, n4, n5⟩ := nds_at hlst hx
  subst hvN
  obtain ⟨ai, ci, rfl, _, _⟩ := slice_form' hnd.ids
  obtain ⟨an, cn, rfl, _, _⟩ := slice_form' hnd.normal
  have kl := (List.getElem?_eq_some_iff.1 hk).1
  have al := (List.getElem?_eq_some_iff.1 hx).1
  have k0 : (0 : Int) ≤ (k : Int) := by omega
  have k1 : (k : Int) < (T.length : Int) := by omega
  have a0 : (0 : Int) ≤ (a : Int) := by omega
  have a1 : (a : Int) < (lst.length : Int) := by omega
  have s3 : W3.cell? ⟨q, 3, none⟩ = some (.slice (some ⟨bT, oT, none⟩) T.length cT) := by rw [cell_of_block hq3]; rfl
  have y2 : W3.cell? ⟨w1.heap.size, 2, none⟩ = some (.int .i64 (k : Int)) := by rw [cell_of_block hy3]; rfl
  have y3 : W3.cell? ⟨w1.heap.size, 3, none⟩ = some (.int .i64 (a : Int)) := by rw [cell_of_block hy3]; rfl
  have CB : Hid (∀ W, Upd [] W3 W → (W.cell? ⟨q, 3, none⟩ = some (.slice (some ⟨bT, oT, none⟩) T.length cT) ∧ W.cell? ⟨w1.heap.size, 2, none⟩ = some (.int .i64 (k : Int)) ∧ W.cell? ⟨w1.heap.size, 3, none⟩ = some (.int .i64 (a : Int)) ∧ W.cell? ⟨bT, oT + k, none⟩ = some (.slice (some ⟨bN, oN, none⟩) lst.length cN) ∧
      W.cell? ⟨bN, oN + a * 6, none⟩ = some (.bool x.leaf) ∧ W.cell? ⟨bN, oN + a * 6 + 1, none⟩ = some (.slice ai x.ids.length ci) ∧ W.cell? ⟨bN, oN + a * 6 + 2, none⟩ = some (.slice an x.pl.normal.length cn) ∧ W.cell? ⟨bN, oN + a * 6 + 3, none⟩ = some (.int .i64 x.pl.off) ∧ W.cell? ⟨bN, oN + a * 6 + 4, none⟩ = some (.int .i64 x.left) ∧ W.cell? ⟨bN, oN + a * 6 + 5, none⟩ = some (.int .i64 x.right))) := Lib.hid (fun W hW =>
    ⟨(hW.cell (block_lt hq3) (by simp)).trans s3, (hW.cell (block_lt hy3) (by simp)).trans y2, (hW.cell (block_lt hy3) (by simp)).trans y3, (hW.cell hbT (by simp)).trans cT0, (hW.cell hbN (by simp)).trans n0, (hW.cell hbN (by simp)).trans n1, (hW.cell hbN (by simp)).trans n2, (hW.cell hbN (by simp)).trans n3, (hW.cell hbN (by simp)).trans n4, (hW.cell hbN (by simp)).trans n5⟩)
  have HNDR := Lib.hid hnd
  have HY3 := Lib.hid hy3
  have HQ3 := Lib.hid hq3
  have HCS := Lib.hid hcase
  clear hfu hgt htr hnode hperm' hgood' hmin' hu' hob' hheap' hheap3 hu2 hy2 hq2 hu02 hu3 hq3 hy3 hu03 hSM hk hx hnd hcase hlst cT0 n0 n1 n2 n3 n4 n5 s3 y2 y3 kl al hbx HT HV hqn
  go_wp2_with fail
  go_region_held3 (fun w' => w'.cell? ⟨q, 3, none⟩ = some (.slice (some ⟨bT, oT, none⟩) T.length cT) ∧ w'.cell? ⟨w1.heap.size, 2, none⟩ = some (.int .i64 (k : Int)) ∧ w'.cell? ⟨w1.heap.size, 3, none⟩ = some (.int .i64 (a : Int)) ∧ w'.cell? ⟨bT, oT + k, none⟩ = some (.slice (some ⟨bN, oN, none⟩) lst.length cN) ∧
      w'.cell? ⟨bN, oN + a * 6, none⟩ = some (.bool x.leaf) ∧ w'.cell? ⟨bN, oN + a * 6 + 1, none⟩ = some (.slice ai x.ids.length ci) ∧ w'.cell? ⟨bN, oN + a * 6 + 2, none⟩ = some (.slice an x.pl.normal.length cn) ∧ w'.cell? ⟨bN, oN + a * 6 + 3, none⟩ = some (.int .i64 x.pl.off) ∧ w'.cell? ⟨bN, oN + a * 6 + 4, none⟩ = some (.int .i64 x.left) ∧ w'.cell? ⟨bN, oN + a * 6 + 5, none⟩ = some (.int .i64 x.right))
    (first | exact CB.out _ (Upd.drewN [] W3 1) | exact CB.out _ ((Upd.drewN [] W3 1).trans (Upd.alloc [] _ _)) | exact CB.out _ ((Upd.alloc [] _ _).trans (Upd.drewN [] _ 1)) | go_keep)
    (fail)
  have HTK := Lib.hid htk
  clear htk
  generalize hW4 : World.drew _ = W4
  have hu4 : Upd [] W3 W4 := by rw [← hW4]; exact (Upd.alloc [] W3 _).trans (Upd.drew [] _)
  have hz4 : W4.heap[W3.heap.size]? = some (.cells #[.bool x.leaf, .slice ai x.ids.length ci, .slice an x.pl.normal.length cn, .int .i64 x.pl.off, .int .i64 x.left, .int .i64 x.right] 58) := by rw [← hW4]; exact Go.heap_alloc_new W3 _
  have HU4 := Lib.hid hu4
  have HZ4 := Lib.hid hz4
  have HY4 := Lib.hid (upd_far hu4 HY3.out (by simp))
  have HW4 := Lib.hid (HW3.out.upd hu4 (by simp) (by simp) (by simp))
  have HND4 := Lib.hid (HNDR.out.below hu4.below)
  have HV4 := Lib.hid (HV3.out.below hu4.below)
  clear hW4 hW3 hW2 hu4
  rcases HCS.out with ⟨hlf, -⟩ | ⟨hlf, ta2, tb2, -, hpl, -, -, -, -⟩
  · have b0 : W4.cell? ⟨W3.heap.size, 0, none⟩ = some (.bool true) := by rw [cell_of_block hz4, hlf]; rfl
    have b1 : W4.cell? ⟨W3.heap.size, 1, none⟩ = some (.slice ai x.ids.length ci) := by rw [cell_of_block hz4]; rfl
    have HLF := Lib.hid hlf
    clear hz4 hlf
    go_wp2_with fail
    refine bodyPost_ret (results_tmp3 rfl _ _ _) rfl ?_
    have hn' : nodeOf T (s.tasks.getD (bestIx s.tasks) tk00) = x := by rw [← HFU.out.1]; exact HND.out
    refine ⟨v', l', HW4.out.same ?_, (HU03.out.trans (HU4.out.mono (by simp))), fun j hj => .inl (by rw [HOB'.out] at hj; exact hj), .inl ⟨x.ids, _, ?_, rfl, HND4.out.ids⟩⟩
    · unfold stepS
      simp only [hn', HLF.out, if_true]
    · unfold outS
      simp only [hn', HLF.out, if_true]
  · have HLF := Lib.hid hlf
    have HMG : Hid (∀ W, Upd [] W4 W → Calls Try.prog 53 #[.agg #[.slice an x.pl.normal.length cn, .int .i64 x.pl.off], vv] W fun e w' => e = .returned (.int .i64 (marg x.pl v)) ∧ Below W.heap.size W w') :=
      Lib.hid (fun W hW => margin_calls _ _ x.pl v dim M W (HND4.out.normal.below hW.below) (HV4.out.below hW.below) hpl HVB.out)
    have hmb := marg_bd hpl HVB.out
    obtain ⟨MG, hMG⟩ : ∃ g, marg x.pl v = g := ⟨_, rfl⟩
    rw [hMG] at HMG hmb
    have HMGE := Lib.hid hMG
    obtain ⟨mg0, mg1⟩ := hmb
    have b0 : W4.cell? ⟨W3.heap.size, 0, none⟩ = some (.bool false) := by rw [cell_of_block hz4, hlf]; rfl
    have CB4 : Hid (∀ W, Upd [] W4 W → W.cell? ⟨W3.heap.size, 2, none⟩ = some (.slice an x.pl.normal.length cn) ∧ W.cell? ⟨W3.heap.size, 3, none⟩ = some (.int .i64 x.pl.off) ∧ W.cell? ⟨q, 4, none⟩ = some vv) := Lib.hid (fun W hW => by
      have h1 := upd_far hW HZ4.out (by simp)
      obtain ⟨_, c4, _⟩ := w_cells (HW4.out.upd hW (by simp) (by simp) (by simp))
      exact ⟨by rw [cell_of_block h1]; rfl, by rw [cell_of_block h1]; rfl, c4⟩)
    obtain ⟨av, cv, rfl, _, _⟩ := Kd.slice_form HV4.out
    obtain ⟨m1, hm1⟩ : ∃ y, min tm (-MG) = y := ⟨_, rfl⟩
    obtain ⟨m2, hm2⟩ : ∃ y, min tm MG = y := ⟨_, rfl⟩
    have HM1 := Lib.hid hm1
    have HM2 := Lib.hid hm2
    have wfm1 : (Lit.int .i64 m1).wf = true := int64_wf (by omega) (by omega)
    have wfm2 : (Lit.int .i64 m2).wf = true := int64_wf (by omega) (by omega)
    have HWF := Lib.hid (And.intro wfm1 wfm2)
    clear hz4 hlf hpl hMG hm1 hm2 wfm1 wfm2
    go_wp2_with fail
    go_region_held3 (fun w' => w'.cell? ⟨W3.heap.size, 2, none⟩ = some (.slice an x.pl.normal.length cn) ∧ w'.cell? ⟨W3.heap.size, 3, none⟩ = some (.int .i64 x.pl.off) ∧ w'.cell? ⟨q, 4, none⟩ = some (.slice av v.length cv))
      (first | exact CB4.out _ HU5.out | exact CB4.out _ (Upd.drewN [] W4 1) | go_keep)
      (first
        | (go_at_call 53
           refine (HMG.out _ (Upd.drewN [] W4 _)).mono ?_
           rintro e w5 ⟨rfl, hb5⟩
           have HU5 : Hid (Upd [] W4 w5) := Lib.hid ((Upd.drewN [] W4 1).trans (Upd.ofBelow hb5 []))
           clear hb5))
    have HW5 := Lib.hid (HW4.out.upd HU5.out (by simp) (by simp) (by simp))
    have HY5 := Lib.hid (upd_far HU5.out HY4.out (by simp))
    have HZ5 := Lib.hid (upd_far HU5.out HZ4.out (by simp))
    have hz5 : w.heap.size ≤ w5.heap.size := Nat.le_trans HU03.out.size (Nat.le_trans HU4.out.size HU5.out.size)
    have HP1 : Hid (∀ y, y = m1 → Calls Try.prog 51 #[.pointer (some ⟨q, 0, none⟩), .int .i64 y, .int .i64 (k : Int), .int .i64 x.left] w5 fun e w' => e = .returned (.tuple #[]) ∧
        ∃ hv' hl', IsW w' B q gh hv' p leaf depth (.slice (some ⟨bT, oT, none⟩) T.length cT) (.slice av v.length cv) ⟨without s.tasks (bestIx s.tasks) ++ [⟨m1, (s.next : Int), (k : Int), x.left⟩], s.steps + 1, s.next + 1⟩ hl' ∧ Upd (q :: gh :: ob v') w5 w' ∧ (∀ k, k ∈ ob hv' → k ∈ ob v' ∨ w5.heap.size ≤ k)) := Lib.hid (by
      rintro y rfl
      have hwl : (without s.tasks (bestIx s.tasks)).length ≤ s.tasks.length := by rw [without_erase]; exact (List.eraseIdx_sublist _ _).length_le
      exact walk_push_calls B q gh v' p leaf depth _ _ ⟨without s.tasks (bestIx s.tasks), s.steps + 1, s.next⟩ l' y (k : Int) x.left w5 HW5.out (Nat.le_trans hB hz5) HWF.out.1 HTK.out.2.2.1 HND4.out.wl (by have := HN.out; simp only; omega) (by have := HLEN.out; simp only; omega))
    have t0 : w5.cell? ⟨w1.heap.size, 0, none⟩ = some (.int .i64 tm) := by rw [cell_of_block HY5.out]; rfl
    have t2 : w5.cell? ⟨w1.heap.size, 2, none⟩ = some (.int .i64 (k : Int)) := by rw [cell_of_block HY5.out]; rfl
    have z4 : w5.cell? ⟨W3.heap.size, 4, none⟩ = some (.int .i64 x.left) := by rw [cell_of_block HZ5.out]; rfl
    clear HMG CB4 b0
    go_wp2_with fail
    all_goals
      refine (HP1.out _ (by have := HM1.out; omega)).mono ?_
      rintro e w6 ⟨rfl, hv1, hl1, hw6, hu6, ho6⟩
      have hn1 : w1.heap.size ∉ q :: gh :: ob v' := by
        intro hm
        rcases List.mem_cons.1 hm with hm | hm
        · omega
        · rcases List.mem_cons.1 hm with hm | hm
          · have := block_lt HH.out.heap.hd; omega
          · rw [HOB'.out] at hm; have := (hobl _ hm).2; omega
      have hn3 : W3.heap.size ∉ q :: gh :: ob v' := by
        have h3 := HU03.out.size
        intro hm
        rcases List.mem_cons.1 hm with hm | hm
        · omega
        · rcases List.mem_cons.1 hm with hm | hm
          · have := block_lt HH.out.heap.hd; omega
          · rw [HOB'.out] at hm; have := (hobl _ hm).2; omega
      have HY6 := Lib.hid (upd_far hu6 HY5.out hn1)
      have HZ6 := Lib.hid (upd_far hu6 HZ5.out hn3)
      have HU6 : Hid (Upd (q :: gh :: ob hv) w w6) := Lib.hid ((((HU03.out.trans (HU4.out.mono (by simp))).trans (HU5.out.mono (by simp)))).trans (by rw [← HOB'.out]; exact hu6))
      have HOB6 : Hid (∀ j, j ∈ ob hv1 → j ∈ ob hv ∨ w.heap.size ≤ j) := Lib.hid (fun j hj => by
        rcases ho6 j hj with h | h
        · rw [HOB'.out] at h; exact .inl h
        · exact .inr (by omega))
      have HP2 : Hid (∀ y, y = m2 → Calls Try.prog 51 #[.pointer (some ⟨q, 0, none⟩), .int .i64 y, .int .i64 (k : Int), .int .i64 x.right] w6 fun e w' => e = .returned (.tuple #[]) ∧
          ∃ hv' hl', IsW w' B q gh hv' p leaf depth (.slice (some ⟨bT, oT, none⟩) T.length cT) (.slice av v.length cv) (stepS T v s) hl' ∧ Upd (q :: gh :: ob hv1) w6 w' ∧ (∀ k, k ∈ ob hv' → k ∈ ob hv1 ∨ w6.heap.size ≤ k)) := Lib.hid (by
        rintro y rfl
        have hwl : (without s.tasks (bestIx s.tasks)).length ≤ s.tasks.length := by rw [without_erase]; exact (List.eraseIdx_sublist _ _).length_le
        refine (walk_push_calls B q gh hv1 p leaf depth _ _ ⟨without s.tasks (bestIx s.tasks) ++ [⟨m1, (s.next : Int), (k : Int), x.left⟩], s.steps + 1, s.next + 1⟩ hl1 y (k : Int) x.right w6 hw6 (Nat.le_trans hB (Nat.le_trans hz5 hu6.size)) HWF.out.2 HTK.out.2.2.1 HND4.out.wr (by have := HN.out; simp only; omega) (by have := HLEN.out; simp; omega)).mono ?_
        rintro e w7 ⟨r1, hv7, hl7, r2, r3, r4⟩
        refine ⟨r1, hv7, hl7, r2.same ?_, r3, r4⟩
        unfold stepS
        simp only [← HFU.out.1, HND.out, HLF.out, Bool.false_eq_true, if_false, HMGE.out, HM1.out, HM2.out]
        simp)
      have r0 : w6.cell? ⟨w1.heap.size, 0, none⟩ = some (.int .i64 tm) := by rw [cell_of_block HY6.out]; rfl
      have r2 : w6.cell? ⟨w1.heap.size, 2, none⟩ = some (.int .i64 (k : Int)) := by rw [cell_of_block HY6.out]; rfl
      have r5 : w6.cell? ⟨W3.heap.size, 5, none⟩ = some (.int .i64 x.right) := by rw [cell_of_block HZ6.out]; rfl
      clear hw6 hu6 ho6 hn1 hn3 t0 t2 z4 HP1
      go_wp2_with fail
      all_goals
        refine (HP2.out _ (by have := HM2.out; omega)).mono ?_
        rintro e w7 ⟨rfl, hv7, hl7, hw7, hu7, ho7⟩
        have HW7 := Lib.hid hw7
        have HU7 : Hid (Upd (q :: gh :: ob hv) w w7) := Lib.hid (HU6.out.trans' hu7 (fun j hj => by
          rcases List.mem_cons.1 hj with rfl | hj
          · exact .inl (by simp)
          · rcases List.mem_cons.1 hj with rfl | hj
            · exact .inl (by simp)
            · rcases HOB6.out j hj with h | h
              · exact .inl (by simp [h])
              · exact .inr h))
        have HO7 : Hid (∀ j, j ∈ ob hv7 → j ∈ ob hv ∨ w.heap.size ≤ j) := Lib.hid (fun j hj => by
          rcases ho7 j hj with h | h
          · exact HOB6.out j h
          · have := HU6.out.size; exact .inr (by omega))
        clear hw7 hu7 ho7 HP2 r0 r2 r5
        go_wp2_with fail
        refine bodyPost_ret (results_tmp3 rfl _ _ _) rfl ?_
        refine ⟨hv7, hl7, HW7.out, HU7.out, HO7.out, .inr ⟨?_, rfl⟩⟩
        have hn' : nodeOf T (s.tasks.getD (bestIx s.tasks) tk00) = x := by rw [← HFU.out.1]; exact HND.out
        unfold outS
        simp only [hn', HLF.out, Bool.false_eq_true, if_false]

end Go.Proofs.Ytiplifkbegmeiaa
