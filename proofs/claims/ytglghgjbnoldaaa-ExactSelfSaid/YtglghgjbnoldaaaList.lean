/-
topk's List: a heap that is drained, and filled again.
-/
import Derived.Test.YtglghgjbnoldaaaSel
namespace Go.Proofs.Ytglghgjbnoldaaa
set_option linter.unusedVariables false
set_option linter.unusedSimpArgs false
open Go.RowKit
-- RANGEO
/-- As Iter; O: what stood already when the range began, and is the iterator's to turn; E: what he says when he has told all. -/
def IterO {α : Type} (P : Program) (gf : FuncId) (lb : Array Value) (l : Nat) (W0 : World) (O M : List Nat) (E : World → Prop) (xs : List α) (val : World → List Nat → α → Array Value → Prop) : Prop :=
  ∀ (J Jx : List α → List Nat → World → Prop),
    (∀ pre M W W' S, (∀ k, k ∈ S → (W0.heap.size ≤ k ∨ k ∈ O) ∧ k ∉ M) → J pre M W → Upd S W W' → J pre M W') →
    (∀ pre M W W' S, (∀ k, k ∈ S → (W0.heap.size ≤ k ∨ k ∈ O) ∧ k ∉ M) → Jx pre M W → Upd S W W' → Jx pre M W') →
    (∀ pre x rest M W args, xs = pre ++ x :: rest → J pre M W → val W (l :: M) x args → (∀ k, k ∈ M → k < W.heap.size) → Yields P l args W fun e W' =>
      ∃ M', Upd (l :: M) W W' ∧ (∀ k, k ∈ M' → k < W'.heap.size ∧ (k ∈ M ∨ W.heap.size ≤ k)) ∧ ((e = .returned (.bool true) ∧ J (pre ++ [x]) M' W') ∨ (e = .returned (.bool false) ∧ Jx (pre ++ [x]) M' W'))) →
    l < W0.heap.size → (∀ k, k ∈ M → k < W0.heap.size) → J [] M W0 →
    CallsIn Fence.wide 0 P gf (#[.func (.yield l) #[] #[]] ++ lb) W0 fun e W' => (∃ v, e = .returned v) ∧ ∃ M', ((J xs M' W' ∧ E W') ∨ ∃ pre, pre <+: xs ∧ Jx pre M' W')

/-- The statement 'for .. := range g { .. }' outside of other such loops. D = w.heap.size is the block for deferred calls, w.heap.size + 1 the loop's record. -/
theorem wp_rangeO {α : Type} {P : Program} {g : Operand} {ps : Array Tmp} {assign body : Code} {Q : Exit → Act → World → Prop} {a : Act} {w : World} {gf : FuncId} {lb : Array Value} {xs : List α} {val : World → List Nat → α → Array Value → Prop} (M0 O : List Nat) (E : World → Prop)
    (hO : ∀ k, k ∈ O → k < w.heap.size) (hE : ∀ W W' S, (∀ k, k ∈ S → w.heap.size ≤ k) → E W → Upd S W W' → E W')
    (hg : a.eval g = .func (.func gf) #[] lb) (eg : ∀ args w, (callFunc gf args).run P w = .ok (.enter gf args) w)
    (hit : ∀ W, Upd [] w W → W.heap.size = w.heap.size + 2 → IterO P gf lb (w.heap.size + 1) W O M0 E xs val)
    (I : List α → List Nat → World → Prop) (Ix : Code → List α → List Nat → World → Prop)
    (hI : ∀ pre M W W' S, (∀ k, k ∈ S → (w.heap.size ≤ k ∨ k ∈ O) ∧ k ∉ M) → I pre M W → Upd S W W' → I pre M W')
    (hIx : ∀ c pre M W W' S, (∀ k, k ∈ S → (w.heap.size ≤ k ∨ k ∈ O) ∧ k ∉ M) → Ix c pre M W → Upd S W W' → Ix c pre M W')
    (hps : ∀ W M x args, val W M x args → args.size = ps.size)
    (h0 : I [] M0 w) (hM0 : ∀ k, k ∈ M0 → k < w.heap.size)
    (hround : ∀ l pre x rest M W0 args, xs = pre ++ x :: rest → I pre M W0 → val W0 (l :: M) x args → args.size = ps.size → l < W0.heap.size → w.heap.size ≤ l → l ∉ M → (∀ k, k ∈ M → k < W0.heap.size) →
      assign.wpIn (Fence.wide.inRound l) 0 P (Exit.then (fun a' Wq => Upd [] W0 Wq ∧ ∀ W, Upd [l] Wq W → W.heap.size = Wq.heap.size → body.wpIn (Fence.wide.inRound l) 0 P (fun e _ W' => ∃ M', Upd M W W' ∧ (∀ k, k ∈ M' → k < W'.heap.size ∧ (k ∈ M ∨ W0.heap.size ≤ k)) ∧
        (match e with
         | .normal => I (pre ++ [x]) M' W'
         | .ret => Ix .ret (pre ++ [x]) M' W'
         | .exit id => Ix (.exit id) (pre ++ [x]) M' W'
         | .goto t => Ix (.goto t) (pre ++ [x]) M' W'
         | _ => False)) a' W) (fun _ _ _ => False)) { tmps := (ps.zip args).foldl (fun tmps (t, a) => tmps.setIfInBounds t a) a.tmps, defers := [] } W0)
    (hdone : ∀ M W, I xs M W → E W → w.heap.size ∉ M → W.heap[w.heap.size]? = some (.deferred (some [])) → Q .normal { a with defers := { target := .collected w.heap.size, args := #[] } :: a.defers } W)
    (hstop : ∀ c pre M W, pre <+: xs → Ix c pre M W → w.heap.size ∉ M → W.heap[w.heap.size]? = some (.deferred (some [])) → c.wp P Q { a with defers := { target := .collected w.heap.size, args := #[] } :: a.defers } W) :
    (Code.rangeFunc g ps assign body).wp P Q a w := by
  refine (wpIn_wide (n := 0)).1 ?_
  refine wpIn_rangeFunc fun fn _ => ?_
  obtain ⟨rec, hrec⟩ : ∃ rec : LoopState → Option Code → Loop, rec = fun st pe => { state := st, pending := pe, fn, tmps := a.tmps, params := ps, assign, body, defers := w.heap.size } := ⟨_, rfl⟩
  obtain ⟨W1, hW1⟩ : ∃ W1, (w.alloc (.deferred (some []))).alloc (.loop (rec .ready none)) = W1 := ⟨_, rfl⟩
  have hsz : W1.heap.size = w.heap.size + 2 := by rw [← hW1]; simp
  have hu : Upd [] w W1 := by rw [← hW1]; exact (Upd.alloc [] w _).trans (Upd.alloc [] _ _)
  have hL1 : W1.heap[w.heap.size + 1]? = some (.loop (rec .ready none)) := by
    rw [← hW1]; have := World.alloc_heap_new (w.alloc (.deferred (some []))) (.loop (rec .ready none)); rwa [World.size_alloc] at this
  have hK1 : W1.heap[w.heap.size]? = some (.deferred (some [])) := by
    rw [← hW1]; exact (Below.heap_alloc _ _ _ (by simp)).trans (World.alloc_heap_new w _)
  have hI1 : I [] M0 W1 := hI [] M0 w W1 [] (by simp) h0 hu
  refine ⟨w.heap.size + 1, [{ target := .collected w.heap.size, args := #[] }], W1, { target := .fn (.func gf) lb, args := #[.func (.yield (w.heap.size + 1)) #[] #[]] }, W1, gf,
    #[.func (.yield (w.heap.size + 1)) #[] #[]] ++ lb, W1, ?_, ?_, fun _ _ => trivial, ?_, by simp [Fence.wide], ?_⟩
  · rw [← hW1, hrec]; exact run_enterLoop_outer _ _ _ _ _
  · simp only [resolve, hg]
    simp [go_sem]
  · simp [invoke, go_sem, eg]
  refine (hit W1 hu hsz
    (fun pre M W => I pre M W ∧ W.heap[w.heap.size + 1]? = some (.loop (rec .ready none)) ∧ W.heap[w.heap.size]? = some (.deferred (some [])) ∧ w.heap.size ∉ M ∧ w.heap.size + 1 ∉ M)
    (fun pre M W => ∃ c, Ix c pre M W ∧ W.heap[w.heap.size + 1]? = some (.loop (rec .done (some c))) ∧ W.heap[w.heap.size]? = some (.deferred (some [])) ∧ w.heap.size ∉ M ∧ w.heap.size + 1 ∉ M)
    ?_ ?_ ?_ (by omega) (fun k hk => by have := hM0 k hk; omega) ⟨hI1, hL1, hK1, fun h => by have := hM0 _ h; omega, fun h => by have := hM0 _ h; omega⟩).mono ?_
  · rintro pre M W W' S hS ⟨a1, a2, a3, a4, a5⟩ hU
    refine ⟨hI pre M W W' S (fun k hk => ⟨(hS k hk).1.imp (fun h => by omega) id, (hS k hk).2⟩) a1 hU, upd_far hU a2 (fun h => by rcases (hS _ h).1 with h1 | h1; (omega); (have := hO _ h1; omega)), upd_far hU a3 (fun h => by rcases (hS _ h).1 with h1 | h1; (omega); (have := hO _ h1; omega)), a4, a5⟩
  · rintro pre M W W' S hS ⟨c, a1, a2, a3, a4, a5⟩ hU
    exact ⟨c, hIx c pre M W W' S (fun k hk => ⟨(hS k hk).1.imp (fun h => by omega) id, (hS k hk).2⟩) a1 hU, upd_far hU a2 (fun h => by rcases (hS _ h).1 with h1 | h1; (omega); (have := hO _ h1; omega)), upd_far hU a3 (fun h => by rcases (hS _ h).1 with h1 | h1; (omega); (have := hO _ h1; omega)), a4, a5⟩
  · rintro pre x rest M W args hxs ⟨a1, a2, a3, a4, a5⟩ hval hM n
    have hlt := block_lt a2
    have hlt0 := block_lt a3
    have hy := run_yield (P := P) (args := args) a2 (by rw [hrec]; exact hps _ _ _ _ hval)
    rw [hrec] at hy
    refine ⟨fn, _, assign, body, hy, roundIn_any (n := 0) (roundIn_of_wpIn trivial (wpIn_mono (hround (w.heap.size + 1) pre x rest M W args hxs a1 hval (hps _ _ _ _ hval) (by omega) (by omega) a5 hM) ?_))⟩
    intro e0 a0 Wq h0'
    cases e0 with
    | normal => ?_
    | _ => first | exact h0' | exact h0'.elim
    obtain ⟨hq0, h0'⟩ := h0'
    have b2 := upd_far hq0 a2 (by simp)
    have b3 := upd_far hq0 a3 (by simp)
    have hltq := block_lt b2
    have hbeg := run_beginRound (P := P) b2 (by rw [hrec])
    have u1 : Upd [w.heap.size + 1] Wq (Wq.putObj (w.heap.size + 1) (.loop { rec .ready none with state := .busy })) := Upd.putOne _
    have hl2 : (Wq.putObj (w.heap.size + 1) (.loop { rec .ready none with state := .busy })).heap[w.heap.size + 1]? = some (.loop { rec .ready none with state := .busy }) := World.putObj_heap_same hltq
    have hk2 : (Wq.putObj (w.heap.size + 1) (.loop { rec .ready none with state := .busy })).heap[w.heap.size]? = some (.deferred (some [])) := (World.putObj_heap_other (by omega)).trans b3
    have hz2 : (Wq.putObj (w.heap.size + 1) (.loop { rec .ready none with state := .busy })).heap.size = Wq.heap.size := by simp
    have h0'' := h0' _ u1 hz2
    generalize Wq.putObj (w.heap.size + 1) (.loop { rec .ready none with state := .busy }) = W2 at u1 hl2 hk2 hz2 hbeg h0''
    refine ⟨_, hbeg, ?_⟩
    refine wpIn_mono h0'' ?_
    have fin : ∀ (jump : Option Code) (W3 : World) (M' : List Nat), Upd M W2 W3 → (∀ k, k ∈ M' → k < W3.heap.size ∧ (k ∈ M ∨ W.heap.size ≤ k)) →
        (Instr.endRound (w.heap.size + 1) jump).run P W3 = .ok (.bool jump.isNone) (W3.putObj (w.heap.size + 1) (.loop (rec (if jump.isNone then .ready else .done) jump))) ∧
        (W3.putObj (w.heap.size + 1) (.loop (rec (if jump.isNone then .ready else .done) jump))).heap[w.heap.size + 1]? = some (.loop (rec (if jump.isNone then .ready else .done) jump)) ∧
        (W3.putObj (w.heap.size + 1) (.loop (rec (if jump.isNone then .ready else .done) jump))).heap[w.heap.size]? = some (.deferred (some [])) ∧ w.heap.size ∉ M' ∧ w.heap.size + 1 ∉ M' ∧
        Upd ((w.heap.size + 1) :: M) W (W3.putObj (w.heap.size + 1) (.loop (rec (if jump.isNone then .ready else .done) jump))) ∧
        (∀ k, k ∈ M' → k < (W3.putObj (w.heap.size + 1) (.loop (rec (if jump.isNone then .ready else .done) jump))).heap.size ∧ (k ∈ M ∨ W.heap.size ≤ k)) ∧
        Upd [w.heap.size + 1] W3 (W3.putObj (w.heap.size + 1) (.loop (rec (if jump.isNone then .ready else .done) jump))) := fun jump W3 M' hU hM' => by
      have hl3 := upd_far hU hl2 a5
      have hk3 := upd_far hU hk2 a4
      have := run_endRound (P := P) jump hl3
      rw [hrec] at this ⊢
      refine ⟨this, World.putObj_heap_same (block_lt hl3), (World.putObj_heap_other (by omega)).trans hk3, ?_, ?_, ?_, ?_, Upd.putOne _⟩
      · intro h; rcases (hM' _ h).2 with h | h
        · exact a4 h
        · omega
      · intro h; rcases (hM' _ h).2 with h | h
        · exact a5 h
        · omega
      · exact ((hq0.mono (by simp)).trans ((u1.mono (by simp)).trans (hU.mono (fun k hk _ => by simp [hk])))).trans (Upd.putObj (by simp) _)
      · intro k hk
        have := hM' k hk
        simpa using this
    rintro e a3' W3 ⟨M', hU, hM', hp⟩
    cases e with
    | normal =>
      obtain ⟨f1, f2, f3, f4, f5, f6, f7, f8⟩ := fin none W3 M' hU hM'
      exact ⟨_, _, f1, M', f6, f7, .inl ⟨rfl, hI _ M' W3 _ [w.heap.size + 1] (by simp; exact f5) hp f8, f2, f3, f4, f5⟩⟩
    | ret =>
      obtain ⟨f1, f2, f3, f4, f5, f6, f7, f8⟩ := fin (some .ret) W3 M' hU hM'
      exact ⟨_, _, f1, M', f6, f7, .inr ⟨rfl, .ret, hIx _ _ M' W3 _ [w.heap.size + 1] (by simp; exact f5) hp f8, f2, f3, f4, f5⟩⟩
    | exit id =>
      obtain ⟨f1, f2, f3, f4, f5, f6, f7, f8⟩ := fin (some (.exit id)) W3 M' hU hM'
      exact ⟨_, _, f1, M', f6, f7, .inr ⟨rfl, .exit id, hIx _ _ M' W3 _ [w.heap.size + 1] (by simp; exact f5) hp f8, f2, f3, f4, f5⟩⟩
    | goto t =>
      obtain ⟨f1, f2, f3, f4, f5, f6, f7, f8⟩ := fin (some (.goto t)) W3 M' hU hM'
      exact ⟨_, _, f1, M', f6, f7, .inr ⟨rfl, .goto t, hIx _ _ M' W3 _ [w.heap.size + 1] (by simp; exact f5) hp f8, f2, f3, f4, f5⟩⟩
    | panic ch => exact hp.elim
    | outgrown => exact hp.elim
  · rintro e W3 ⟨⟨v, rfl⟩, M', ⟨⟨a1, a2, a3, a4, a5⟩, hE3⟩ | ⟨pre, hpre, c, a1, a2, a3, a4, a5⟩⟩
    · have h4 := run_endLoop (P := P) a2 (by rw [hrec]; simp)
      rw [hrec] at h4
      refine ⟨none, _, h4, ?_⟩
      refine hdone M' _ (hI xs M' W3 _ [w.heap.size + 1] (by simp; exact a5) a1 (Upd.putOne _)) (hE _ _ [w.heap.size + 1] (by simp) hE3 (Upd.putOne _)) a4 ((World.putObj_heap_other (by omega)).trans a3)
    · have h4 := run_endLoop (P := P) a2 (by rw [hrec]; simp)
      rw [hrec] at h4
      refine ⟨some c, _, h4, ?_⟩
      refine wpIn_wide.2 (hstop c pre M' _ hpre (hIx c pre M' W3 _ [w.heap.size + 1] (by simp; exact a5) a1 (Upd.putOne _)) a4 ((World.putObj_heap_other (by omega)).trans a3))

-- END RANGEO
end Go.Proofs.Ytglghgjbnoldaaa
namespace Go.Proofs.Ytglghgjbnoldaaa.E3
open Go.RowKit Go.Proofs.Ytglghgjbnoldaaa

/-- The entries, the last one first. -/
def desc (l : List Tk) : List Tk := l.mergeSort (fun a b => !ahd a b)
theorem desc_perm (l : List Tk) : (desc l).Perm l := List.mergeSort_perm _ _
theorem desc_sorted (l : List Tk) : (desc l).Pairwise (fun a b => ahd a b = false) := by
  have := List.pairwise_mergeSort (le := fun a b => !ahd a b) (fun a b c h1 h2 => by
    simp only [Bool.not_eq_true'] at h1 h2 ⊢
    rw [ahd_false] at h1 h2 ⊢
    omega) (fun a b => by
    simp only [Bool.or_eq_true, Bool.not_eq_true']
    rw [ahd_false, ahd_false]
    omega) l
  exact this.imp (fun h => by simpa using h)
theorem ahd_eq {a b : Tk} (h1 : ahd a b = false) (h2 : ahd b a = false) : a = b := by
  rw [ahd_false] at h1 h2
  obtain ⟨a1, a2, a3⟩ := a
  obtain ⟨b1, b2, b3⟩ := b
  simp only [Tk.mk.injEq] at h1 h2 ⊢
  omega
theorem desc_cons {l l' : List Tk} {x : Tk} (hp : (x :: l').Perm l) (hx : ∀ y ∈ l, top y x = false) : desc l = x :: desc l' := by
  refine List.Perm.eq_of_pairwise (le := fun a b => ahd a b = false) (fun a b _ _ h1 h2 => ahd_eq h1 h2) (desc_sorted l) ?_ ((desc_perm l).trans (hp.symm.trans ((desc_perm l').symm.cons x)))
  refine List.pairwise_cons.2 ⟨fun y hy => ?_, desc_sorted l'⟩
  exact hx y (hp.mem_iff.1 (List.mem_cons_of_mem _ ((desc_perm l').mem_iff.1 hy)))
theorem desc_nil : desc [] = [] := by simp [desc]

theorem heap_len_calls (B h : Nat) (fv v : Value) (l : List Tk) (w : World) (H : IsHeap w B h fv v l) :
    Calls Try.prog 83 #[.pointer (some ⟨h, 0, none⟩)] w fun e w' => e = .returned (.int .i64 (l.length : Int)) ∧ w = w' := by
  obtain ⟨ao, cap, rfl, hl, hc⟩ := row_form H.row
  unfold maxLen at hc
  have c1 : w.cell? ⟨h, 1, none⟩ = some (.slice ao l.length cap) := by rw [cell_of_block H.hd]; rfl
  clear H
  go_enter Try.func83, Try.ntmps83
  go_wp2_with fail
  go_ret
  exact ⟨rfl, rfl⟩

def valTk (W : World) (M : List Nat) (x : Tk) (args : Array Value) : Prop := args = #[.agg #[.int .i64 x.id, .int .i64 x.far, .int .i64 x.at_]] ∧ tkE.ok x
def lenV : Value → Nat
  | .slice _ n _ => n
  | _ => 0

attribute [local go_sem] Oper.semAt_some

set_option maxHeartbeats 4000000 in
set_option maxRecDepth 100000 in
theorem drain_it (bx h sp sb B : Nat) (most : Int) (n : Nat) (v : Value) (l : List Tk) (t : TypeId) (W0 : World) (lp : Nat) (M0 : List Nat) (S : IsSel W0 B sp sb h most n v l) (hlen : l.length ≤ 1048576) (hbx : W0.heap[bx]? = some (.cells #[.pointer (some ⟨h, 0, none⟩)] t))
    (hd : ∀ k, k ∈ lp :: M0 → k ≠ bx ∧ k ≠ sp ∧ k ≠ sb ∧ k ≠ h ∧ k ∉ ob v) (hbo : bx ∉ h :: ob v) :
    IterO Try.prog 85 #[.pointer (some ⟨bx, 0, none⟩)] lp W0 (h :: ob v) M0 (fun W' => ∃ v', IsSel W' B sp sb h most n v' [] ∧ ob v' = ob v) (desc l) valTk := by
  intro J Jx hJ hJx hY hlpl hMl h0
  have HJ := Lib.hid hJ
  have HY := Lib.hid hY
  have HS0 := Lib.hid S
  have HBX0 := Lib.hid hbx
  have H0 := Lib.hid h0
  have HM0 := Lib.hid hMl
  have HD := Lib.hid hd
  have HBO := Lib.hid hbo
  have hbl := block_lt hbx
  clear hJ hJx hY S hbx h0 hMl hd hbo
  refine callsIn_of_wp Try.func85 rfl trivial ?_
  simp only [Try.ntmps85, List.size_toArray, List.length_cons, List.length_nil, Nat.reduceAdd, Nat.reduceSub, Array.replicate_succ, Array.replicate_zero, List.push_toArray, List.append_toArray, List.nil_append, List.cons_append]
  gi_wp2
  gi_loopw [3] (fun i3 wr => ∃ (pre l' : List Tk) (v' : Value) (M : List Nat), Hid (desc l = pre ++ desc l') ∧ Hid (J pre M wr) ∧ Hid (IsSel wr B sp sb h most n v' l') ∧ Hid (ob v' = ob v) ∧ Hid (∀ k, k ∈ M → k < wr.heap.size ∧ (k ∈ M0 ∨ W0.heap.size ≤ k)) ∧ Hid (wr.heap[bx]? = some (.cells #[.pointer (some ⟨h, 0, none⟩)] t)) ∧ l'.length ≤ 1048576 ∧ W0.heap.size ≤ wr.heap.size) (fun _ wr => lenV ((wr.cell? ⟨h, 1, none⟩).getD undef))
  case atStart => exact ⟨[], l, v, M0, Lib.hid rfl, Lib.hid H0.out, Lib.hid HS0.out, Lib.hid rfl, Lib.hid (fun k hk => ⟨HM0.out k hk, .inl hk⟩), Lib.hid HBX0.out, hlen, Nat.le_refl _⟩
  case round =>
    obtain ⟨pre, l', v', M, hde, hj, hS, hov, hM, hbx, hl', hsz⟩ := hrel
    have cb : wr.cell? ⟨bx, 0, none⟩ = some (.pointer (some ⟨h, 0, none⟩)) := by rw [cell_of_block hbx.out]; rfl
    have HLN := Lib.hid (heap_len_calls B h _ v' l' wr hS.out.hh)
    by_cases hl0 : l' = []
    · subst hl0
      have HDE : Hid (desc l = pre) := Lib.hid (by have := hde.out; rw [desc_nil, List.append_nil] at this; exact this)
      gi_wp2
      refine ⟨trivial, rfl, (calls_in HLN.out).mono ?_⟩
      rintro e w' ⟨rfl, rfl⟩
      gi_wp2
      go_end0
      exact ⟨⟨_, rfl⟩, M, .inl ⟨by rw [HDE.out]; exact hj.out, v', hS.out, hov.out⟩⟩
    · obtain ⟨m, hm1⟩ : ∃ m, l'.length = m + 1 := ⟨l'.length - 1, by have := List.length_pos_iff.2 hl0; omega⟩
      have hp0 : (0 : Int) < (l'.length : Int) := by omega
      have HPOP := Lib.hid (pop_some B h v' l' m hm1 top top_asym top_negt top_irr wr hS.out.hh (by omega) hS.out.first hS.out.good)
      have HME : Hid (lenV ((wr.cell? ⟨h, 1, none⟩).getD undef) = m + 1) := Lib.hid (by
        obtain ⟨ao, cap, rfl, _, _⟩ := row_form hS.out.hh.row
        have c1 : wr.cell? ⟨h, 1, none⟩ = some (.slice ao l'.length cap) := by rw [cell_of_block hS.out.hh.hd]; rfl
        rw [c1]; exact hm1)
      have HM1 := Lib.hid hm1
      clear hl0 hm1
      gi_wp2
      refine ⟨trivial, rfl, (calls_in HLN.out).mono ?_⟩
      rintro e w' ⟨rfl, rfl⟩
      clear HLN
      gi_wp2
      refine ⟨trivial, rfl, (calls_in HPOP.out).mono ?_⟩
      rintro e w5 ⟨x, rfl, hokx, v5, l5, hh5, hperm5, hgood5, hmin5, hu5, hob5⟩
      obtain ⟨W6, hW6⟩ : ∃ W6, w5.alloc (.cells #[.int .i64 x.id, .int .i64 x.far, .int .i64 x.at_] 108) = W6 := ⟨_, rfl⟩
      have hu6 : Upd [] w5 W6 := by rw [← hW6]; exact Upd.alloc [] w5 _
      have hx6 : W6.heap[w5.heap.size]? = some (.cells #[.int .i64 x.id, .int .i64 x.far, .int .i64 x.at_] 108) := by rw [← hW6]; exact Go.heap_alloc_new w5 _
      have hS5 := hS.out.pushed hh5 hgood5 hu5 (fun k hk => .inl (hob5 ▸ hk))
      have hS6 := hS5.upd hu6 (by simp) (by simp) (by simp) (by simp)
      have hob : ob v5 = ob v := hob5.trans hov.out
      have hu56 : Upd (h :: ob v) wr W6 := by
        rw [← hov.out]
        exact hu5.trans (hu6.mono (by simp))
      have hdis : ∀ k, k ∈ lp :: M → k ∉ h :: ob v ∧ k ≠ bx ∧ k ≠ sp ∧ k ≠ sb := fun k hk => by
        have h1 := block_lt HS0.out.hh.hd
        have h2 := block_lt HS0.out.hs
        have h3 := block_lt HS0.out.hb
        have old : ∀ k, k ∈ lp :: M0 → k ∉ h :: ob v ∧ k ≠ bx ∧ k ≠ sp ∧ k ≠ sb := fun k hk => by
          obtain ⟨a1, a2, a3, a4, a5⟩ := HD.out k hk
          exact ⟨by simp [a4, a5], a1, a2, a3⟩
        rcases List.mem_cons.1 hk with rfl | hk
        · exact old _ (by simp)
        · rcases (hM.out k hk).2 with h | h
          · exact old _ (by simp [h])
          · refine ⟨fun hm => ?_, by omega, by omega, by omega⟩
            rcases List.mem_cons.1 hm with e | e
            · omega
            · have := (HS0.out.hh.row.ob_lt _ e).2; omega
      have hj6 : J pre M W6 := HJ.out _ _ _ _ (h :: ob v) (fun k hk => ⟨.inr hk, fun hm => (hdis k (by simp [hm])).1 hk⟩) hj.out hu56
      have hbx6 := upd_far hu56 hbx.out HBO.out
      have hxs : desc l = pre ++ x :: desc l5 := by rw [hde.out, desc_cons hperm5 hmin5]
      have hlt6 : ∀ k, k ∈ M → k < W6.heap.size := fun k hk => Nat.lt_of_lt_of_le (hM.out k hk).1 hu56.size
      obtain ⟨fn, tmps, assign, body, hy, hRR⟩ := HY.out _ _ _ M W6 #[.agg #[.int .i64 x.id, .int .i64 x.far, .int .i64 x.at_]] hxs hj6 ⟨rfl, hokx⟩ hlt6 0
      have hlen5 : l5.length = m := by have := hperm5.length_eq; rw [HM1.out] at this; simpa using this
      have HS6 := Lib.hid hS6
      have HOB := Lib.hid hob
      have HDIS := Lib.hid hdis
      have HBX6 := Lib.hid hbx6
      have HXS := Lib.hid hxs
      have HL5 := Lib.hid hlen5
      have HZ : Hid (W0.heap.size ≤ W6.heap.size) := Lib.hid (Nat.le_trans hsz hu56.size)
      have HMo := Lib.hid (fun k hk => (hM.out k hk).2)
      have g0 : W6.cell? ⟨w5.heap.size, 0, none⟩ = some (.int .i64 x.id) := by rw [cell_of_block hx6]; rfl
      have g1 : W6.cell? ⟨w5.heap.size, 1, none⟩ = some (.int .i64 x.far) := by rw [cell_of_block hx6]; rfl
      have g2 : W6.cell? ⟨w5.heap.size, 2, none⟩ = some (.int .i64 x.at_) := by rw [cell_of_block hx6]; rfl
      clear hh5 hperm5 hgood5 hmin5 hu5 hob5 hu6 hx6 hS5 hS6 hob hu56 hdis hj6 hbx6 hxs hlt6 hlen5 HPOP hokx cb
      gi_wp2
      refine ⟨rfl, hRR.mono ?_⟩
      rintro e w7 ⟨M', hU7, hM7, hcase⟩
      have hnl : ∀ k, (k = h ∨ k ∈ ob v ∨ k = bx ∨ k = sp ∨ k = sb) → k ∉ lp :: M := fun k hk hm => by
        obtain ⟨a1, a2, a3, a4⟩ := HDIS.out k hm
        rcases hk with rfl | hk | rfl | rfl | rfl
        · exact a1 (by simp)
        · exact a1 (by simp [hk])
        · exact a2 rfl
        · exact a3 rfl
        · exact a4 rfl
      have HS7 := Lib.hid (HS6.out.upd hU7 (hnl _ (by simp)) (hnl _ (by simp)) (hnl _ (by simp)) (fun k hk => hnl k (by rw [HOB.out] at hk; simp [hk])))
      have HBX7 := Lib.hid (upd_far hU7 HBX6.out (hnl _ (by simp)))
      have HU7 := Lib.hid hU7
      have HM7 : Hid (∀ k, k ∈ M' → k < w7.heap.size ∧ (k ∈ M0 ∨ W0.heap.size ≤ k)) := Lib.hid (fun k hk => ⟨(hM7 k hk).1, by
        rcases (hM7 k hk).2 with h | h
        · exact HMo.out k h
        · exact .inr (Nat.le_trans HZ.out h)⟩)
      rcases hcase with ⟨rfl, hj7⟩ | ⟨rfl, hj7⟩
      · have HJ7 := Lib.hid hj7
        clear hU7 hM7 hj7 hRR hy g0 g1 g2 hnl
        gi_wp2
        go_roundw
        case rel => exact ⟨pre ++ [x], l5, v5, M', Lib.hid (by rw [HXS.out]; simp), HJ7, HS7, HOB, HM7, HBX7, by have := HL5.out; have := HM1.out; omega, Nat.le_trans HZ.out HU7.out.size⟩
        case measure =>
          rw [HME.out]
          obtain ⟨ao, cap, hv5, _, _⟩ := row_form HS7.out.hh.row
          have c1 : w7.cell? ⟨h, 1, none⟩ = some (.slice ao l5.length cap) := by rw [cell_of_block HS7.out.hh.hd, hv5]; rfl
          rw [c1]
          show l5.length < m + 1
          have := HL5.out; omega
      · have HJ7 := Lib.hid hj7
        clear hU7 hM7 hj7 hRR hy g0 g1 g2 hnl
        gi_wp2
        refine bodyPost_ret (results_none rfl _ _ _) rfl ?_
        exact ⟨⟨_, rfl⟩, M', .inr ⟨_, ⟨desc l5, by rw [HXS.out]; simp⟩, HJ7.out⟩⟩

end Go.Proofs.Ytglghgjbnoldaaa.E3
