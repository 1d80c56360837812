/-
topk's List.
-/
import Derived.Test.YtglghgjbnoldaaaRev
namespace Go.Proofs.Ytglghgjbnoldaaa.E3
set_option linter.unusedVariables false
set_option linter.unusedSimpArgs false
open Go.RowKit Go.Proofs.Ytglghgjbnoldaaa

theorem append_stepIn {F : Fence} {n : Nat} {P : Program} {w : World} {ops : Array Oper} {rest : List Oper} {o : Oper} {a : Act} {Q : Exit → Act → World → Prop} (hgd : o.guard = none) (s x : Operand) (t : TypeId)
    (ho : o.op = .call { callee := .builtin .append, args := #[s, x], argTypes := #[t, t] }) {v u v' : Value} {w' : World} (hs : a.eval s = v) (hx : a.eval x = u)
    (hrun : (Builtin.append_ #[t, t] o.type #[v, u]).run P w = .ok v' w') (h : wpListIn F n P ops Q rest (a.put o.dst v') w') : wpListIn F n P ops Q (o :: rest) a w := by
  refine wpListIn_plain hgd fun K hK => ?_
  unfold Oper.wpIn
  refine ⟨?_, ?_⟩
  · simp [Oper.about, ho, resolve, Target.leads, Sem.run_pure]
  · rw [Oper.semAt_plain F _ _ (by rw [ho]; intro c hc'; cases hc')]
    simp [execOp, ho, resolve, invoke, builtin, hs, hx, hrun, Result.andThen]
    exact hK _ _ h

attribute [local go_sem] Oper.semAt_some
theorem infoQRs : (Try.prog.info? 42).map (fun i => (i.zero, i.size, i.bytes)) = some (some (.agg #[.int .i64 0, .int .i64 0]), 2, 16) := by kernel_rfl

theorem tk_at {M : List Nat} {w : World} {v : Value} {l : List Tk} (h : tkE.kd.slice.At M w [v] l) {i : Nat} {x : Tk} (hx : l[i]? = some x) :
    ∃ b o cap, v = .slice (some ⟨b, o, none⟩) l.length cap ∧ b < w.heap.size ∧ b ∉ M ∧ l.length ≤ cap ∧ cap ≤ maxLen ∧ tkE.ok x ∧ w.cell? ⟨b, o + i * 3, none⟩ = some (.int .i64 x.id) ∧ w.cell? ⟨b, o + i * 3 + 1, none⟩ = some (.int .i64 x.far) ∧ w.cell? ⟨b, o + i * 3 + 2, none⟩ = some (.int .i64 x.at_) := by
  obtain ⟨b, o, cap, h1, h2, h3, h4, h5, cs', hr, hc⟩ := Kd.slice_get h hx
  obtain ⟨rfl, hok⟩ := Flat.at_ hr
  exact ⟨b, o, cap, h1, h2, h3, h4, h5, hok, hc 0 _ rfl, hc 1 _ rfl, hc 2 _ rfl⟩

theorem reverse_row (B : Nat) (v : Value) (l : List Tk) (w : World) (H : Row tkE.kd [] 108 B w v l) (hlen : l.length ≤ 1048576) :
    Calls Try.prog 73 #[v] w fun e w' => e = .returned (.tuple #[]) ∧ Row tkE.kd [] 108 B w' v l.reverse ∧ Upd (ob v) w w' := by
  by_cases hl : l = []
  · subst hl
    obtain ⟨ao, cap, rfl, _, hc⟩ := row_form H
    refine (reverse_none ao cap w hc).mono ?_
    rintro e w' ⟨rfl, rfl⟩
    exact ⟨rfl, H, Upd.refl _ _⟩
  · rcases H.form with ⟨_, e2⟩ | ⟨g, cap, rfl, _⟩
    · exact absurd e2 hl
    · obtain ⟨hfb, -, hB⟩ := H.fblock
      refine (reverse_calls g cap l w hfb hlen).mono ?_
      rintro e w' ⟨rfl, hf, hu⟩
      refine ⟨rfl, ?_, by simpa [ob, Value.ownBlock] using hu⟩
      have := hf.row [] hB
      rwa [List.length_reverse] at this

set_option maxHeartbeats 4000000 in
set_option maxRecDepth 100000 in
theorem sel_list_calls (B sp sb h : Nat) (most : Int) (n : Nat) (v : Value) (l : List Tk) (w : World) (S : IsSel w B sp sb h most n v l) (hlen : l.length ≤ 1048576) (hwf : ∀ x ∈ l, tkE.ok x) :
    Calls Try.prog 45 #[.pointer (some ⟨sp, 0, none⟩)] w fun e w' => ∃ v', e = .returned v' ∧ Row rsE.kd [] 42 w.heap.size w' v' ((desc l).reverse.map rs) ∧ Upd (h :: ob v) w w' := by
  obtain ⟨R, hR⟩ : ∃ R, (desc l).reverse = R := ⟨_, rfl⟩
  rw [hR]
  have HRR := Lib.hid hR
  clear hR
  obtain ⟨W1, hW1⟩ : ∃ W1, w.alloc (.cells #[.slice none 0 0] 113) = W1 := ⟨_, rfl⟩
  have u1 : Upd [] w W1 := by rw [← hW1]; exact Upd.alloc [] w _
  have hal : W1.heap[w.heap.size]? = some (.cells #[.slice none 0 0] 113) := by rw [← hW1]; exact Go.heap_alloc_new w _
  have S1 := S.upd u1 (by simp) (by simp) (by simp) (by simp)
  have hz1 : W1.heap.size = w.heap.size + 1 := by rw [← hW1]; simp
  have c2 : W1.cell? ⟨sp, 2, none⟩ = some (.pointer (some ⟨h, 0, none⟩)) := by rw [cell_of_block S1.hs]; rfl
  have HS := Lib.hid S
  have HS1 := Lib.hid S1
  have HAL := Lib.hid hal
  have HU1 := Lib.hid u1
  have HWF := Lib.hid hwf
  have HDR := Lib.hid (drain_calls h W1)
  have hbs := S.Bw
  have hls := block_lt S.hs
  have hlb := block_lt S.hb
  have hlh := block_lt S.hh.hd
  have hol : ∀ k, k ∈ ob v → k < w.heap.size := fun k hk => (S.hh.row.ob_lt k hk).2
  have HOL := Lib.hid hol
  clear S S1 hal u1 hwf hol
  refine calls_of_wp_marks Try.func45 rfl ?_
  simp only [Try.ntmps45, List.size_toArray, List.length_cons, List.length_nil, Nat.reduceAdd, Nat.reduceSub, Array.replicate_succ, Array.replicate_zero, List.push_toArray, List.append_toArray, List.nil_append, List.cons_append]
  go_wp2_with fail
  clear hW1
  refine HDR.out.mono ?_
  rintro e w2 ⟨bx, rfl, hbx0, hbx, hb2⟩
  have u2 : Upd [] W1 w2 := Upd.ofBelow hb2 []
  have HS2 := Lib.hid (HS1.out.upd u2 (by simp) (by simp) (by simp) (by simp))
  have HAL2 := Lib.hid (upd_far u2 HAL.out (by simp))
  have HBX := Lib.hid hbx
  have HU2 := Lib.hid (HU1.out.trans u2)
  have hbl := block_lt hbx
  have hz2 := u2.size
  clear hb2 u2 hbx HDR HS1
  go_wp2_with fail
  refine wp_rangeO (xs := desc l) (val := valTk) [w.heap.size] (h :: ob v) (fun W' => ∃ v', IsSel W' B sp sb h most n v' [] ∧ ob v' = ob v) (fun k hk => ?_) (fun W W' T hT hE hu => ?_) rfl (enters_it Try.func85 rfl rfl) (fun W hu hsz => ?_)
    (fun pre M W => ∃ va, M = w.heap.size :: ob va ∧ W.heap[w.heap.size]? = some (.cells #[va] 113) ∧ Row tkE.kd [] 108 w2.heap.size W va pre ∧ Upd (w.heap.size :: h :: ob v) w2 W)
    (fun c pre M W => False) ?_ ?_ ?_ ?_ ?_ ?_ ?_ ?_
  · rcases List.mem_cons.1 hk with rfl | hk
    · omega
    · have := HOL.out k hk; omega
  · obtain ⟨v', s1, s2⟩ := hE
    have hnT : ∀ k, k < w.heap.size → k ∉ T := fun k hk hm => by have := hT k hm; omega
    exact ⟨v', s1.upd hu (hnT _ hls) (hnT _ hlb) (hnT _ hlh) (fun k hk => hnT k (HOL.out k (s2 ▸ hk))), s2⟩
  · have hS := HS2.out.upd hu (by simp) (by simp) (by simp) (by simp)
    refine drain_it bx h sp sb B most n v l _ W _ _ hS hlen (upd_far hu HBX.out (by simp)) (fun k hk => ?_) (fun hm => ?_)
    · have h5 : ∀ k, w.heap.size ≤ k → k ∉ ob v := fun k hk hm => by have := HOL.out k hm; omega
      simp at hk
      rcases hk with rfl | rfl
      · exact ⟨by omega, by omega, by omega, by omega, h5 _ (by omega)⟩
      · exact ⟨by omega, by omega, by omega, by omega, h5 _ (by omega)⟩
    · rcases List.mem_cons.1 hm with rfl | hm
      · omega
      · have := HOL.out _ hm; omega
  · rintro pre M W W' T hT ⟨va, rfl, a1, a2, a3⟩ hu
    refine ⟨va, rfl, upd_far hu a1 (fun h => (hT _ h).2 (by simp)), ((a2.flat_any (M' := T)).upd hu (fun k hk => hk) (fun k hk h => (hT k h).2 (by simp [hk])) (M' := T) (fun k hk => .inl hk)).flat_any, a3.trans' hu (fun k hk => ?_)⟩
    rcases (hT k hk).1 with h | h
    · exact .inr h
    · exact .inl (by simp at h ⊢; exact .inr h)
  · rintro c pre M W W' T hT hh _
    exact hh.elim
  · rintro W M x args hv
    rw [hv.1]
    rfl
  · exact ⟨_, rfl, HAL2.out, Row.nil _ _ _ _ _, Upd.refl _ _⟩
  · simp
    omega
  · rintro l0 pre y rest M W args hxs ⟨va, rfl, a1, a2, a3⟩ ⟨hv, hy⟩ _ hl1 hl2 hl3 hM
    subst hv
    have hpre : pre.length < l.length := by rw [← (desc_perm l).length_eq, hxs]; simp
    have HXS := Lib.hid hxs
    have A1 := Lib.hid a1
    have A2 := Lib.hid a2
    have A3 := Lib.hid a3
    have HY := Lib.hid hy
    have HMM := Lib.hid hM
    have HL3 := Lib.hid hl3
    clear hxs a1 a2 a3 hy hM hl3
    obtain ⟨X1, hX1⟩ : ∃ X1, W.alloc (.cells #[.int .i64 y.id, .int .i64 y.far, .int .i64 y.at_] 108) = X1 := ⟨_, rfl⟩
    have v1 : Upd [] W X1 := by rw [← hX1]; exact Upd.alloc [] W _
    have he1 : X1.heap[W.heap.size]? = some (.cells #[.int .i64 y.id, .int .i64 y.far, .int .i64 y.at_] 108) := by rw [← hX1]; exact Go.heap_alloc_new W _
    have HV1 := Lib.hid v1
    have HE1 := Lib.hid he1
    have hzx1 : X1.heap.size = W.heap.size + 1 := by rw [← hX1]; simp
    have HZX := Lib.hid hzx1
    clear v1 he1 hzx1
    gi_wp2
    refine ⟨HV1.out, fun X0 hul hzl => ?_⟩
    have hla : l0 ≠ w.heap.size := fun e => HL3.out (by simp [e])
    have a1 := upd_far hul (upd_far HV1.out A1.out (by simp)) (by simp; exact fun e => hla e.symm)
    have he0 := upd_far hul HE1.out (by simp; omega)
    have a2 : Row tkE.kd [] 108 w2.heap.size X0 va pre := (((A2.out.upd HV1.out (by simp) (by simp) (M' := []) (by simp)).flat_any (M' := [l0])).upd hul (fun k hk => hk) (fun k hk h => by simp at h; subst h; exact HL3.out (by simp [hk])) (M' := [l0]) (fun k hk => .inl hk)).flat_any
    have a3 : Upd (w.heap.size :: h :: ob v) w2 X0 := (A3.out.trans (HV1.out.mono (by simp))).trans' hul (fun k hk => by simp at hk; subst hk; exact .inr hl2)
    have hwx : W.heap.size ≤ X0.heap.size := by have := HZX.out; omega
    have hul0 : Upd [] W X0 ∨ True := .inr trivial
    obtain ⟨i0, hi, hy0, hy1, hy2⟩ := info_parts A.infoTask
    obtain ⟨av, cv, rfl, hcv1, hcv2⟩ := row_form a2
    have hzW := a3.size
    have hob := a2.ob_lt
    obtain ⟨X2, hX2⟩ : ∃ X2, X0.alloc (.cells #[.int .i64 y.id, .int .i64 y.far, .int .i64 y.at_] 108) = X2 := ⟨_, rfl⟩
    have v2 : Upd [] X0 X2 := by rw [← hX2]; exact Upd.alloc [] X0 _
    have he2 : X2.heap[X0.heap.size]? = some (.cells #[.int .i64 y.id, .int .i64 y.far, .int .i64 y.at_] 108) := by rw [← hX2]; exact Go.heap_alloc_new X0 _
    obtain ⟨v5, X5, hrun, hr5, hu5, hob5⟩ := ((a2.upd v2 (by simp) (by simp) (M' := []) (by simp))).appendAt (P := Try.prog) (t := 113) (ty := 113) (u := .slice (some ⟨X0.heap.size, 0, none⟩) 1 1) (l2 := [y]) Try.underlying113 hi hy0 hy1 hy2 rfl (by decide)
      (flat_one (E := tkE) (x := y) he2 (fun hm => by
        rw [List.append_nil] at hm
        have := (hob _ hm).2
        omega) HY.out)
      (by simp [maxLen]; omega) (by simp; omega) (by have := v2.size; omega)
    obtain ⟨a5, c5, rfl, _, _⟩ := row_form hr5
    have hl3' : (pre ++ [y]).length = pre.length + 1 := by simp
    rw [hl3'] at hrun hr5 hob5
    have hzo : w.heap.size ∉ ob (.slice av pre.length cv) := fun h => by have := (hob _ h).1; omega
    have e5 : X5.heap[w.heap.size]? = some (.cells #[.slice av pre.length cv] 113) := upd_far hu5 (upd_far v2 a1 (by simp)) hzo
    have hc1 : X0.cell? ⟨w.heap.size, 0, none⟩ = some (.slice av pre.length cv) := by rw [cell_of_block a1]; rfl
    have g0 : X0.cell? ⟨W.heap.size, 0, none⟩ = some (.int .i64 y.id) := by rw [cell_of_block he0]; rfl
    have g1 : X0.cell? ⟨W.heap.size, 1, none⟩ = some (.int .i64 y.far) := by rw [cell_of_block he0]; rfl
    have g2 : X0.cell? ⟨W.heap.size, 2, none⟩ = some (.int .i64 y.at_) := by rw [cell_of_block he0]; rfl
    have hc5 : X5.cell? ⟨w.heap.size, 0, none⟩ = some (.slice av pre.length cv) := by rw [cell_of_block e5]; rfl
    have hf5 : X5.frozen? ⟨w.heap.size, 0, none⟩ = false := frozen_of_block e5
    have h6 := heap_setCell_same X5 w.heap.size 0 _ _ (.slice a5 (pre.length + 1) c5) e5
    have hu6 : Upd [w.heap.size] X5 (X5.setCell ⟨w.heap.size, 0, none⟩ (.slice a5 (pre.length + 1) c5)) := Upd.setCell (by simp) _
    have hob6 := hr5.ob_lt
    have hu15 : Upd (ob (.slice av pre.length cv)) X0 X5 := (v2.mono (by simp)).trans hu5
    have hfin : Upd (w.heap.size :: ob (.slice av pre.length cv)) X0 (X5.setCell ⟨w.heap.size, 0, none⟩ (.slice a5 (pre.length + 1) c5)) ∧ ∃ M', (∀ k, k ∈ M' → k < (X5.setCell ⟨w.heap.size, 0, none⟩ (.slice a5 (pre.length + 1) c5)).heap.size ∧ ((k = w.heap.size ∨ k ∈ ob (.slice av pre.length cv)) ∨ W.heap.size ≤ k)) ∧
        ∃ v', M' = w.heap.size :: ob v' ∧ (X5.setCell ⟨w.heap.size, 0, none⟩ (.slice a5 (pre.length + 1) c5)).heap[w.heap.size]? = some (.cells #[v'] 113) ∧ Row tkE.kd [] 108 w2.heap.size (X5.setCell ⟨w.heap.size, 0, none⟩ (.slice a5 (pre.length + 1) c5)) v' (pre ++ [y]) ∧ Upd (w.heap.size :: h :: ob v) w2 (X5.setCell ⟨w.heap.size, 0, none⟩ (.slice a5 (pre.length + 1) c5)) := by
      refine ⟨(hu15.mono (fun k hk _ => List.mem_cons_of_mem _ hk)).trans (hu6.mono (by simp)), _, ?_, .slice a5 (pre.length + 1) c5, rfl, by simpa using h6, ?_, ?_⟩
      · intro k hk
        have hsz2 := hu15.size
        rcases List.mem_cons.1 hk with rfl | hk
        · exact ⟨by have := block_lt h6; exact this, .inl (.inl rfl)⟩
        · have h1 := hob6 k hk
          refine ⟨by have := hu6.size; omega, ?_⟩
          rcases hob5 with h | h
          · rw [h] at hk; exact .inl (.inr hk)
          · rw [h] at hk; have := v2.size; simp at hk; exact .inr (by omega)
      · exact ((hr5.flat_any (M' := [w.heap.size])).upd hu6 (fun k hk => hk) (fun k hk h => by have := (hob6 k hk).1; simp at h; omega) (M' := [w.heap.size]) (fun k hk => .inl hk)).flat_any
      · exact (a3.trans' hu15 (fun k hk => .inr (hob k hk).1)).trans (hu6.mono (by simp))
    have HFIN := Lib.hid hfin
    have HRUN := Lib.hid hrun
    clear a1 a2 a3 hob v2 he0 he2 hrun hr5 hu5 hob5 hl3' hzo e5 h6 hu6 hob6 hu15 hfin hi hy0 hy1 hy2 hul hzl hul0
    gi_wp2_with (gi_at_builtin; refine append_stepIn rfl _ _ _ rfl rfl rfl HRUN.out ?_)
    obtain ⟨f1, M', f2, f3⟩ := HFIN.out
    exact ⟨f1, M', fun k hk => by have := f2 k hk; simpa using this, f3⟩
  · rintro M W7 ⟨va, rfl, a1, a2, a3⟩ ⟨v', s1, s2⟩ hM hK
    simp only [Exit.inBlock, Exit.then]
    go_at_K
    have hrv := reverse_row w2.heap.size va (desc l) W7 a2 (by have := (desc_perm l).length_eq; omega)
    rw [HRR.out] at hrv
    have hobva := a2.ob_lt
    obtain ⟨av, cv, rfl, hcv1, hcv2⟩ := row_form a2
    have hRl : R.length = (desc l).length := by rw [← HRR.out]; simp
    have hRn : R.length ≤ 1048576 := by have := (desc_perm l).length_eq; omega
    rw [← hRl] at hrv a1 hobva hcv1 hM
    have HRV := Lib.hid hrv
    have c7 : W7.cell? ⟨w.heap.size, 0, none⟩ = some (.slice av R.length cv) := by rw [cell_of_block a1]; rfl
    have hvv : ∀ j, j ∈ ob (.slice av R.length cv) → j ∉ h :: ob v := fun j hj hm => by
      have := (hobva j hj).1
      rcases List.mem_cons.1 hm with rfl | hm
      · omega
      · have := HOL.out j hm; omega
    have hRok : ∀ x ∈ R, tkE.ok x := fun x hx => by
      rw [← HRR.out] at hx
      exact HWF.out x ((desc_perm l).mem_iff.1 (by simpa using hx))
    have HROK := Lib.hid hRok
    have HA1 := Lib.hid a1
    have S1 := Lib.hid s1
    have S2 := Lib.hid s2
    have A3 := Lib.hid a3
    have HM := Lib.hid hM
    have HK := Lib.hid hK
    have HVV := Lib.hid hvv
    have HOV := Lib.hid hobva
    clear a1 a2 a3 s1 s2 hM hK hvv hobva hrv hRl hRok
    go_wp2_with fail
    refine HRV.out.mono ?_
    rintro e w8 ⟨rfl, hr8, hu8⟩
    have hobv : ob v' = ob v := S2.out
    have hnv : ∀ j, j < w.heap.size → j ∉ ob (.slice av R.length cv) := fun j hj hm => by have := (HOV.out j hm).1; omega
    have s8 := S1.out.upd hu8 (hnv _ hls) (hnv _ hlb) (hnv _ hlh) (fun k hk hm => HVV.out k hm (by rw [hobv] at hk; simp [hk]))
    have hk8 := upd_far hu8 HK.out (fun hm => HM.out (by simp [hm]))
    have c8 : w8.cell? ⟨w.heap.size, 0, none⟩ = some (.slice av R.length cv) := by rw [cell_of_block (upd_far hu8 HA1.out (fun hm => by have := (HOV.out _ hm).1; omega))]; rfl
    have hrd : tkE.kd.slice.At (h :: (ob v' ++ ob (.slice none 0 0))) w8 [.slice av R.length cv] R := by
      have hh := (hr8.flat_any (M' := h :: (ob v' ++ ob (.slice none 0 0)))).read (fun k hk hm => HVV.out k hk (by rw [hobv] at hm; simpa [ob, Value.ownBlock] using hm))
      exact hh
    have hbelow : Upd (h :: ob v) w w8 := by
      refine ((HU2.out.mono (by simp)).trans' A3.out (fun k hk => ?_)).trans' hu8 (fun k hk => .inr (Nat.le_trans HU2.out.size (HOV.out k hk).1))
      rcases List.mem_cons.1 hk with rfl | hk
      · exact .inr (Nat.le_refl _)
      · exact .inl hk
    have HS8 := Lib.hid s8
    have HK8 := Lib.hid hk8
    have HRD := Lib.hid hrd
    have HB8 := Lib.hid hbelow
    have hw8 : w.heap.size ≤ w8.heap.size := hbelow.size
    obtain ⟨i0, hi, hz0, hz1, hz2⟩ := info_parts infoQRs
    have HI := Lib.hid hi
    have HZ0 := Lib.hid hz0
    have HZ1 := Lib.hid hz1
    have HZ2 := Lib.hid hz2
    clear hi hz0 hz1 hz2 hr8 hu8 s8 hk8 hrd hbelow hnv HRV c7
    have hl7 : w2.heap.size < w8.heap.size := block_lt HK8.out
    have hw2 : w.heap.size ≤ w2.heap.size := HU2.out.size
    go_wp2_with fail
    clear c8
    go_loopw [5, 22] (fun vo iv wr => ∃ (k : Nat) (v1 : Value) (l1 : List Tk), k ≤ R.length ∧ iv = .int .i64 (k : Int) ∧ Hid (Row rsE.kd [] 42 w8.heap.size wr vo ((R.take k).map rs)) ∧ Hid (IsSel wr B sp sb h most n v1 l1) ∧ l1.length ≤ k ∧
      Hid (tkE.kd.slice.At (h :: (ob v1 ++ ob vo)) wr [.slice av R.length cv] R) ∧ Hid (∀ j, j ∈ ob vo → j ∉ h :: ob v1) ∧ Hid (Upd (h :: ob v) w wr) ∧ Hid (∀ j, j ∈ ob v1 → j ∈ ob v ∨ w8.heap.size ≤ j) ∧ Hid (wr.heap[w2.heap.size]? = some (.deferred (some []))) ∧ w8.heap.size ≤ wr.heap.size) (fun _ iv _ => R.length - (intOf iv).toNat)
    case atStart => exact ⟨0, v', [], Nat.zero_le _, rfl, Lib.hid (Row.nil _ _ _ _ _), HS8, by simp, HRD, Lib.hid (by simp [ob, Value.ownBlock]), HB8, Lib.hid (fun j hj => by rw [hobv] at hj; exact .inl hj), HK8, Nat.le_refl _⟩
    case round =>
      obtain ⟨k, v1, l1, hk, rfl, hrow, hS, hl1, hrd, hdj, hbl1, hov1, hkk, hwr⟩ := hrel
      by_cases hlt : k < R.length
      · obtain ⟨x, hx⟩ : ∃ x, R[k]? = some x := ⟨_, List.getElem?_eq_getElem hlt⟩
        obtain ⟨b, o, cq, hv, hbl, hbM, _, _, hokx, c0, c1, c2'⟩ := tk_at hrd.out hx
        simp at hv
        obtain ⟨rfl, rfl⟩ := hv
        obtain ⟨X1, hX1⟩ : ∃ X1, wr.alloc (.cells #[.int .i64 x.id, .int .i64 x.far, .int .i64 x.at_] 108) = X1 := ⟨_, rfl⟩
        have x1 : Upd [] wr X1 := by rw [← hX1]; exact Upd.alloc [] wr _
        have he1 : X1.heap[wr.heap.size]? = some (.cells #[.int .i64 x.id, .int .i64 x.far, .int .i64 x.at_] 108) := by rw [← hX1]; exact Go.heap_alloc_new wr _
        have SS1 := hS.out.upd x1 (by simp) (by simp) (by simp) (by simp)
        have HX1 := Lib.hid x1
        have HE1 := Lib.hid he1
        have HSS := Lib.hid SS1
        have hns : sp ∉ h :: ob v1 := by simp [SS1.n2, SS1.n4]
        have hne : wr.heap.size ∉ h :: ob v1 := fun hm => by
          rcases List.mem_cons.1 hm with e | e
          · omega
          · have := (hS.out.hh.row.ob_lt _ e).2; omega
        have hnk : w2.heap.size ∉ h :: ob v1 := fun hm => by
          rcases List.mem_cons.1 hm with e | e
          · omega
          · rcases hov1.out _ e with h1 | h1
            · have := HOL.out _ h1; omega
            · omega
        have HNS := Lib.hid hns
        have HNE := Lib.hid hne
        have HNK := Lib.hid hnk
        have HX := Lib.hid hx
        have s2 : X1.cell? ⟨sp, 2, none⟩ = some (.pointer (some ⟨h, 0, none⟩)) := by rw [cell_of_block SS1.hs]; rfl
        have e0 : X1.cell? ⟨wr.heap.size, 0, none⟩ = some (.int .i64 x.id) := by rw [cell_of_block he1]; rfl
        have e1 : X1.cell? ⟨wr.heap.size, 1, none⟩ = some (.int .i64 x.far) := by rw [cell_of_block he1]; rfl
        have e2 : X1.cell? ⟨wr.heap.size, 2, none⟩ = some (.int .i64 x.at_) := by rw [cell_of_block he1]; rfl
        have HP : Hid (∀ W, Upd [] X1 W → Calls Try.prog 69 #[.pointer (some ⟨h, 0, none⟩), .agg #[.int .i64 x.id, .int .i64 x.far, .int .i64 x.at_]] W fun e w' => e = .returned (.tuple #[]) ∧
          ∃ v' l', IsHeap w' B h (.func (.func 66) #[] #[.pointer (some ⟨sb, 0, none⟩)]) v' l' ∧ l'.Perm (l1 ++ [x]) ∧ Good top tk0 l' ∧ Upd (h :: ob v1) W w' ∧ (∀ k, k ∈ ob v' → k ∈ ob v1 ∨ W.heap.size ≤ k)) := Lib.hid (fun W hu => by
            have S := HSS.out.upd hu (by simp) (by simp) (by simp) (by simp)
            exact push_calls 0 B h v1 l1 x top top_asym top_negt W S.hh hokx (by omega) S.first S.good S.Bw)
        have i1 : (k : Int) < (R.length : Int) := by omega
        have i0' : (0 : Int) ≤ (k : Int) := by omega
        clear x1 he1 SS1 hns hne hnk hx
        go_wp2_with fail
        clear c0 c1 c2'
        go_region_held3 (fun w' => w'.cell? ⟨sp, 2, none⟩ = some (.pointer (some ⟨h, 0, none⟩)) ∧ w'.cell? ⟨wr.heap.size, 0, none⟩ = some (.int .i64 x.id) ∧ w'.cell? ⟨wr.heap.size, 1, none⟩ = some (.int .i64 x.far) ∧ w'.cell? ⟨wr.heap.size, 2, none⟩ = some (.int .i64 x.at_))
          (first | exact ⟨m0, m1, m2, m3⟩ | exact ⟨s2, e0, e1, e2⟩ | go_keep)
          (first
            | (go_at_call 69
               refine (HP.out _ (Upd.drewN [] X1 _)).mono ?_
               rintro e w5 ⟨rfl, v5, l5, hheap, hperm, hgood, hu5, ho5⟩
               have hs5 := upd_far ((Upd.drewN (h :: ob v1) X1 1).trans hu5) HSS.out.hs HNS.out
               have he5 := upd_far ((Upd.drewN (h :: ob v1) X1 1).trans hu5) HE1.out HNE.out
               have m0 : w5.cell? ⟨sp, 2, none⟩ = some (.pointer (some ⟨h, 0, none⟩)) := by rw [cell_of_block hs5]; rfl
               have m1 : w5.cell? ⟨wr.heap.size, 0, none⟩ = some (.int .i64 x.id) := by rw [cell_of_block he5]; rfl
               have m2 : w5.cell? ⟨wr.heap.size, 1, none⟩ = some (.int .i64 x.far) := by rw [cell_of_block he5]; rfl
               have m3 : w5.cell? ⟨wr.heap.size, 2, none⟩ = some (.int .i64 x.at_) := by rw [cell_of_block he5]; rfl
               have HH5 := Lib.hid hheap
               have HP5 := Lib.hid hperm
               have HG5 := Lib.hid hgood
               have HU5 := Lib.hid ((Upd.drewN (h :: ob v1) X1 1).trans hu5)
               have HO5 := Lib.hid (fun k hk => (show k ∈ ob v1 ∨ X1.heap.size ≤ k from ho5 k hk))
               clear hheap hperm hgood hu5 ho5 hs5 he5))
        clear s2 e0 e1 e2 m0 m3
        have S5 := HSS.out.pushed HH5.out HG5.out HU5.out HO5.out
        have uw5 : Upd (h :: ob v1) wr w5 := (HX1.out.mono (by simp)).trans HU5.out
        have hwx : wr.heap.size ≤ X1.heap.size := HX1.out.size
        have hvo := hrow.out.ob_lt
        have row5 : Row rsE.kd [] 42 w8.heap.size w5 u5 ((R.take k).map rs) := ((hrow.out.flat_any (M' := h :: ob v1)).upd uw5 (fun k hk => hk) (fun k hk => hdj.out k hk) (M' := []) (by simp))
        obtain ⟨X6, hX6⟩ : ∃ X6, w5.alloc (.cells #[.int .i64 x.id, .int .i64 x.far] 42) = X6 := ⟨_, rfl⟩
        have x6 : Upd [] w5 X6 := by rw [← hX6]; exact Upd.alloc [] w5 _
        have he6 : X6.heap[w5.heap.size]? = some (.cells #[.int .i64 x.id, .int .i64 x.far] 42) := by rw [← hX6]; exact Go.heap_alloc_new w5 _
        have hob5 := row5.ob_lt
        obtain ⟨v7, w7, hrun, hr7, hu7, hob7⟩ := (row5.upd x6 (by simp) (by simp) (M' := []) (by simp)).appendAt (P := Try.prog) (t := 29) (ty := 29) (u := .slice (some ⟨w5.heap.size, 0, none⟩) 1 1) (l2 := [rs x]) Try.underlying29 HI.out HZ0.out HZ1.out HZ2.out rfl (by decide)
          (flat_one (E := rsE) (x := rs x) he6 (fun hm => by
            rw [List.append_nil] at hm
            have := (hob5 _ hm).2
            omega) ⟨hokx.1, hokx.2.1⟩)
          (by simp [maxLen]; omega) (by simp; omega) (by have := x6.size; have := uw5.size; omega)
        have htk : (R.take k).map rs ++ [rs x] = (R.take (k + 1)).map rs := by rw [take_snoc' HX.out]; simp
        rw [htk] at hr7
        obtain ⟨a7, c7, rfl, hl7, hm7⟩ := row_form hr7
        have hl7' : ((R.take (k + 1)).map rs).length = k + 1 := by simp; omega
        have hl6' : ((R.take k).map rs).length = k := by simp; omega
        rw [hl7'] at hrun hr7 hob7 hl7
        have hsz7 := hu7.size
        have hsz6 := x6.size
        have hsz5 := uw5.size
        have hdvo : ∀ j, j < w8.heap.size → j ∉ ob u5 := fun j hj hm => by have := (hvo j hm).1; omega
        have S7 := (S5.upd x6 (by simp) (by simp) (by simp) (by simp)).upd hu7 (hdvo _ (by omega)) (hdvo _ (by omega)) (hdvo _ (by omega)) (fun k hk hm => by
          have h1 := hdj.out k hm
          rcases HO5.out k hk with h2 | h2
          · exact h1 (by simp [h2])
          · have := (hvo k hm).2; omega)
        have HV7 : Hid (∀ j, j ∈ ob (.slice a7 (k + 1) c7) → j ∉ h :: ob v5) := Lib.hid (fun j hj hm => by
          rcases hob7 with e | e
          · rw [e] at hj
            rcases List.mem_cons.1 hm with rfl | hm
            · exact hdvo _ (by omega) hj
            · rcases HO5.out j hm with h2 | h2
              · exact hdj.out j hj (by simp [h2])
              · have := (hvo j hj).2; omega
          · rw [e] at hj
            simp at hj
            subst hj
            rcases List.mem_cons.1 hm with e2 | hm
            · omega
            · have := (HH5.out.row.ob_lt _ hm).2; omega)
        have hrd5 := hrd.out.upd uw5 (M' := h :: (ob v5 ++ ob u5)) (fun k hk => by
          rcases List.mem_cons.1 hk with rfl | hk
          · simp
          · simp [hk]) (fun k hk => by
          rcases List.mem_cons.1 hk with rfl | hk
          · exact .inl (by simp)
          · rcases List.mem_append.1 hk with hk | hk
            · rcases HO5.out k hk with h2 | h2
              · exact .inl (by simp [h2])
              · exact .inr (by omega)
            · exact .inl (by simp [hk]))
        have hrd7 : tkE.kd.slice.At (h :: (ob v5 ++ ob (.slice a7 (k + 1) c7))) w7 [.slice (some ⟨b, o, none⟩) R.length cv] R := (hrd5.upd x6 (by simp) (M' := h :: (ob v5 ++ ob u5)) (fun k hk => .inl hk)).upd hu7 (fun k hk => by simp [hk]) (fun k hk => by
          rcases List.mem_cons.1 hk with rfl | hk
          · exact .inl (by simp)
          · rcases List.mem_append.1 hk with hk | hk
            · exact .inl (by simp [hk])
            · rcases hob7 with e | e
              · rw [e] at hk; exact .inl (by simp [hk])
              · rw [e] at hk; simp at hk; exact .inr (by omega))
        have HOV1 : Hid (∀ j, j ∈ ob v5 → j ∈ ob v ∨ w8.heap.size ≤ j) := Lib.hid (fun j hj => by
          rcases HO5.out j hj with h2 | h2
          · exact hov1.out j h2
          · exact .inr (by omega))
        have HK7 := Lib.hid (upd_far hu7 (upd_far x6 (upd_far uw5 hkk.out HNK.out) (by simp)) (hdvo _ (by omega)))
        have HB7 : Hid (Upd (h :: ob v) w w7) := Lib.hid (by
          refine ((hbl1.out.trans' uw5 (fun k hk => ?_)).trans (x6.mono (by simp))).trans' hu7 (fun k hk => .inr (by have := (hvo k hk).1; omega))
          rcases List.mem_cons.1 hk with rfl | hk
          · exact .inl (by simp)
          · rcases hov1.out k hk with h1 | h1
            · exact .inl (by simp [h1])
            · exact .inr (by omega))
        have HL5 : Hid (l5.length ≤ k + 1) := Lib.hid (by have := HP5.out.length_eq; simp at this; omega)
        have HR7 := Lib.hid hr7
        have HRD7 := Lib.hid hrd7
        have HS7 := Lib.hid S7
        have HRUN := Lib.hid hrun
        have HZ7 : Hid (w8.heap.size ≤ w7.heap.size) := Lib.hid (by omega)
        clear row5 x6 he6 hob5 hrun hr7 hu7 hob7 htk hl7' hl6' S7 hdvo hrd5 hrd7 uw5 hwx hvo S5 hsz7 hsz6 hsz5 hl7 hm7 hrow hS hrd hdj hbl1 hov1 hkk hokx hX1
        go_wp2_with (at_builtin; refine append_step rfl _ _ _ rfl rfl rfl HRUN.out ?_)
        go_roundw
        case rel => exact ⟨k + 1, v5, l5, by omega, by go_num, HR7, HS7, HL5.out, HRD7, HV7, HB7, HOV1, HK7, HZ7.out⟩
        case measure => simp [intOf]; omega
      · have hkR : k = R.length := by omega
        have HROW : Hid (Row rsE.kd [] 42 w8.heap.size wr u5 (R.map rs)) := Lib.hid (by
          have := hrow.out
          rw [hkR, List.take_length] at this
          exact this)
        clear hrow hrd hdj hov1 hkR hS
        go_wp2_with fail
        refine end_marks hkk.out (results_tmp rfl _ _ _) ⟨_, by first | rfl | simp, ?_, ?_⟩
        · have hvo := HROW.out.ob_lt
          exact (((HROW.out.flat_any (M' := [w2.heap.size])).upd (Upd.putOne _) (fun k hk => hk) (fun k hk h => by simp at h; subst h; have := (hvo _ hk).1; omega) (M' := []) (by simp))).base hw8
        · exact hbl1.out.trans' (Upd.putOne (m := w2.heap.size) _) (fun k hk => .inr (by simp at hk; omega))
  · rintro c pre M W hpre hh
    exact hh.elim

end Go.Proofs.Ytglghgjbnoldaaa.E3
