/-
slices.Values of ids; exact.Each: a range within an iterator.
-/
import Derived.Test.YtglghgjbnoldaaaNear
import Derived.Test.YtglghgjbnoldaaaRoundQ
import Derived.Test.YtglghgjbnoldaaaRes
namespace Go.Proofs.Ytglghgjbnoldaaa
set_option linter.unusedVariables false
set_option linter.unusedSimpArgs false
open Go.RowKit

/-- As calls_of_wp_marks, for what is called within a fence. -/
theorem callsIn_of_marks {P : Program} {f : FuncId} {fn : Func} {c : Code} {args : Array Value} {w : World} {R : Ending → World → Prop}
    (hf : P.funcs[f]? = some fn) (hb : fn.body = some c)
    (h : c.wp P (bodyPostM Fence.wide 0 P fn R) { tmps := args ++ Array.replicate (fn.ntmps - args.size) undef, defers := [] } w) : CallsIn Fence.wide 0 P f args w R :=
  callsIn_of_wp_marks (n := 0) hf hb trivial (wpIn_wide.2 h) rfl

/-- As Iter; whoever ranges says of both his words that what he does not own plays no part. -/
def IterS {α : Type} (P : Program) (gf : FuncId) (lb : Array Value) (l : Nat) (W0 : World) (M : List Nat) (xs : List α) (val : World → List Nat → α → Array Value → Prop) : Prop :=
  ∀ (J Jx : List α → List Nat → World → Prop),
    (∀ pre M W W' S, (∀ k, k ∈ S → W0.heap.size ≤ k ∧ k ∉ M) → J pre M W → Upd S W W' → J pre M W') →
    (∀ pre M W W' S, (∀ k, k ∈ S → W0.heap.size ≤ k ∧ k ∉ M) → Jx pre M W → Upd S W W' → Jx pre M W') →
    (∀ pre x rest M W args, xs = pre ++ x :: rest → J pre M W → val W (l :: M) x args → (∀ k, k ∈ M → k < W.heap.size) → Yields P l args W fun e W' =>
      ∃ M', Upd (l :: M) W W' ∧ (∀ k, k ∈ M' → k < W'.heap.size ∧ (k ∈ M ∨ W.heap.size ≤ k)) ∧ ((e = .returned (.bool true) ∧ J (pre ++ [x]) M' W') ∨ (e = .returned (.bool false) ∧ Jx (pre ++ [x]) M' W'))) →
    l < W0.heap.size → (∀ k, k ∈ M → k < W0.heap.size) → J [] M W0 →
    CallsIn Fence.wide 0 P gf (#[.func (.yield l) #[] #[]] ++ lb) W0 fun e W' => (∃ v, e = .returned v) ∧ ∃ M', (J xs M' W' ∨ ∃ pre, pre <+: xs ∧ Jx pre M' W')
def ItFromS {α : Type} (P : Program) (w : World) (M0 : List Nat) (gf : FuncId) (lb : Array Value) (xs : List α) (val : World → List Nat → α → Array Value → Prop) : Prop :=
  ∀ (W : World) (l : Nat) (M : List Nat), Upd M0 w W → w.heap.size ≤ l → (∀ k, k ∈ M → k ∈ M0 ∨ w.heap.size ≤ k) → IterS P gf lb l W M xs val

/-- The statement 'for .. := range g { .. }' outside of other such loops. D = w.heap.size is the block for deferred calls, w.heap.size + 1 the loop's record. -/
theorem wp_rangeS {α : Type} {P : Program} {g : Operand} {ps : Array Tmp} {assign body : Code} {Q : Exit → Act → World → Prop} {a : Act} {w : World} {gf : FuncId} {lb : Array Value} {xs : List α} {val : World → List Nat → α → Array Value → Prop} (M0 : List Nat)
    (hg : a.eval g = .func (.func gf) #[] lb) (eg : ∀ args w, (callFunc gf args).run P w = .ok (.enter gf args) w)
    (hit : ∀ W, Upd [] w W → W.heap.size = w.heap.size + 2 → IterS P gf lb (w.heap.size + 1) W M0 xs val)
    (I : List α → List Nat → World → Prop) (Ix : Code → List α → List Nat → World → Prop)
    (hI : ∀ pre M W W' S, (∀ k, k ∈ S → w.heap.size ≤ k ∧ k ∉ M) → I pre M W → Upd S W W' → I pre M W')
    (hIx : ∀ c pre M W W' S, (∀ k, k ∈ S → w.heap.size ≤ k ∧ k ∉ M) → Ix c pre M W → Upd S W W' → Ix c pre M W')
    (hv : ∀ M W W' x args, val W ((w.heap.size + 1) :: M) x args → Upd [w.heap.size + 1] W W' → val W' ((w.heap.size + 1) :: M) x args)
    (hps : ∀ W M x args, val W M x args → args.size = ps.size)
    (h0 : I [] M0 w) (hM0 : ∀ k, k ∈ M0 → k < w.heap.size)
    (hround : ∀ l pre x rest M W0 W args, xs = pre ++ x :: rest → I pre M W → val W (l :: M) x args → args.size = ps.size → l < W.heap.size → w.heap.size ≤ l → l ∉ M → (∀ k, k ∈ M → k < W.heap.size) →
      assign.wpIn (Fence.wide.inRound l) 0 P (Exit.then (fun a' W' => W' = W0 ∧ body.wpIn (Fence.wide.inRound l) 0 P (fun e _ W' => ∃ M', Upd M W W' ∧ (∀ k, k ∈ M' → k < W'.heap.size ∧ (k ∈ M ∨ W.heap.size ≤ k)) ∧
        (match e with
         | .normal => I (pre ++ [x]) M' W'
         | .ret => Ix .ret (pre ++ [x]) M' W'
         | .exit id => Ix (.exit id) (pre ++ [x]) M' W'
         | .goto t => Ix (.goto t) (pre ++ [x]) M' W'
         | _ => False)) a' W) (fun _ _ _ => False)) { tmps := (ps.zip args).foldl (fun tmps (t, a) => tmps.setIfInBounds t a) a.tmps, defers := [] } W0)
    (hdone : ∀ M W, I xs M W → w.heap.size ∉ M → W.heap[w.heap.size]? = some (.deferred (some [])) → Q .normal { a with defers := { target := .collected w.heap.size, args := #[] } :: a.defers } W)
    (hstop : ∀ c pre M W, pre <+: xs → Ix c pre M W → w.heap.size ∉ M → W.heap[w.heap.size]? = some (.deferred (some [])) → c.wp P Q { a with defers := { target := .collected w.heap.size, args := #[] } :: a.defers } W) :
    (Code.rangeFunc g ps assign body).wp P Q a w := by
  refine (wpIn_wide (n := 0)).1 ?_
  refine wpIn_rangeFunc fun fn _ => ?_
  obtain ⟨rec, hrec⟩ : ∃ rec : LoopState → Option Code → Loop, rec = fun st pe => { state := st, pending := pe, fn, tmps := a.tmps, params := ps, assign, body, defers := w.heap.size } := ⟨_, rfl⟩
  obtain ⟨W1, hW1⟩ : ∃ W1, (w.alloc (.deferred (some []))).alloc (.loop (rec .ready none)) = W1 := ⟨_, rfl⟩
  have hsz : W1.heap.size = w.heap.size + 2 := by rw [← hW1]; simp
  have hu : Upd [] w W1 := by rw [← hW1]; exact (Upd.alloc [] w _).trans (Upd.alloc [] _ _)
  have hL1 : W1.heap[w.heap.size + 1]? = some (.loop (rec .ready none)) := by
    rw [← hW1]; have := World.alloc_heap_new (w.alloc (.deferred (some []))) (.loop (rec .ready none)); rwa [World.size_alloc] at this
  have hK1 : W1.heap[w.heap.size]? = some (.deferred (some [])) := by
    rw [← hW1]; exact (Below.heap_alloc _ _ _ (by simp)).trans (World.alloc_heap_new w _)
  have hI1 : I [] M0 W1 := hI [] M0 w W1 [] (by simp) h0 hu
  refine ⟨w.heap.size + 1, [{ target := .collected w.heap.size, args := #[] }], W1, { target := .fn (.func gf) lb, args := #[.func (.yield (w.heap.size + 1)) #[] #[]] }, W1, gf,
    #[.func (.yield (w.heap.size + 1)) #[] #[]] ++ lb, W1, ?_, ?_, fun _ _ => trivial, ?_, by simp [Fence.wide], ?_⟩
  · rw [← hW1, hrec]; exact run_enterLoop_outer _ _ _ _ _
  · simp only [resolve, hg]
    simp [go_sem]
  · simp [invoke, go_sem, eg]
  refine (hit W1 hu hsz
    (fun pre M W => I pre M W ∧ W.heap[w.heap.size + 1]? = some (.loop (rec .ready none)) ∧ W.heap[w.heap.size]? = some (.deferred (some [])) ∧ w.heap.size ∉ M ∧ w.heap.size + 1 ∉ M)
    (fun pre M W => ∃ c, Ix c pre M W ∧ W.heap[w.heap.size + 1]? = some (.loop (rec .done (some c))) ∧ W.heap[w.heap.size]? = some (.deferred (some [])) ∧ w.heap.size ∉ M ∧ w.heap.size + 1 ∉ M)
    ?_ ?_ ?_ (by omega) (fun k hk => by have := hM0 k hk; omega) ⟨hI1, hL1, hK1, fun h => by have := hM0 _ h; omega, fun h => by have := hM0 _ h; omega⟩).mono ?_
  · rintro pre M W W' S hS ⟨a1, a2, a3, a4, a5⟩ hU
    refine ⟨hI pre M W W' S (fun k hk => ⟨by have := (hS k hk).1; omega, (hS k hk).2⟩) a1 hU, upd_far hU a2 (fun h => by have := (hS _ h).1; omega), upd_far hU a3 (fun h => by have := (hS _ h).1; omega), a4, a5⟩
  · rintro pre M W W' S hS ⟨c, a1, a2, a3, a4, a5⟩ hU
    exact ⟨c, hIx c pre M W W' S (fun k hk => ⟨by have := (hS k hk).1; omega, (hS k hk).2⟩) a1 hU, upd_far hU a2 (fun h => by have := (hS _ h).1; omega), upd_far hU a3 (fun h => by have := (hS _ h).1; omega), a4, a5⟩
  · rintro pre x rest M W args hxs ⟨a1, a2, a3, a4, a5⟩ hval hM n
    have hlt := block_lt a2
    have hlt0 := block_lt a3
    have hy := run_yield (P := P) (args := args) a2 (by rw [hrec]; exact hps _ _ _ _ hval)
    rw [hrec] at hy
    have hbeg := run_beginRound (P := P) a2 (by rw [hrec])
    have u1 : Upd [w.heap.size + 1] W (W.putObj (w.heap.size + 1) (.loop { rec .ready none with state := .busy })) := Upd.putOne _
    have hl2 : (W.putObj (w.heap.size + 1) (.loop { rec .ready none with state := .busy })).heap[w.heap.size + 1]? = some (.loop { rec .ready none with state := .busy }) := World.putObj_heap_same hlt
    have hk2 : (W.putObj (w.heap.size + 1) (.loop { rec .ready none with state := .busy })).heap[w.heap.size]? = some (.deferred (some [])) := (World.putObj_heap_other (by omega)).trans a3
    have hi2 : I pre M (W.putObj (w.heap.size + 1) (.loop { rec .ready none with state := .busy })) := hI pre M W _ [w.heap.size + 1] (by simp; exact a5) a1 u1
    have hv2 := hv M W _ x args hval u1
    have hz2 : (W.putObj (w.heap.size + 1) (.loop { rec .ready none with state := .busy })).heap.size = W.heap.size := by simp
    generalize W.putObj (w.heap.size + 1) (.loop { rec .ready none with state := .busy }) = W2 at u1 hl2 hk2 hi2 hv2 hz2 hbeg
    refine ⟨fn, _, assign, body, hy, roundIn_any (n := 0) (roundIn_of_wpIn trivial (wpIn_mono (hround (w.heap.size + 1) pre x rest M W W2 args hxs hi2 hv2 (hps _ _ _ _ hval) (by omega) (by omega) a5 (fun k hk => by rw [hz2]; exact hM k hk)) ?_))⟩
    intro e0 a0 Wq h0'
    cases e0 with
    | normal => ?_
    | _ => first | exact h0' | exact h0'.elim
    obtain ⟨hq0, h0'⟩ := h0'
    have hq : W = Wq := hq0.symm
    subst hq
    refine ⟨_, hbeg, ?_⟩
    refine wpIn_mono h0' ?_
    have fin : ∀ (jump : Option Code) (W3 : World) (M' : List Nat), Upd M W2 W3 → (∀ k, k ∈ M' → k < W3.heap.size ∧ (k ∈ M ∨ W2.heap.size ≤ k)) →
        (Instr.endRound (w.heap.size + 1) jump).run P W3 = .ok (.bool jump.isNone) (W3.putObj (w.heap.size + 1) (.loop (rec (if jump.isNone then .ready else .done) jump))) ∧
        (W3.putObj (w.heap.size + 1) (.loop (rec (if jump.isNone then .ready else .done) jump))).heap[w.heap.size + 1]? = some (.loop (rec (if jump.isNone then .ready else .done) jump)) ∧
        (W3.putObj (w.heap.size + 1) (.loop (rec (if jump.isNone then .ready else .done) jump))).heap[w.heap.size]? = some (.deferred (some [])) ∧ w.heap.size ∉ M' ∧ w.heap.size + 1 ∉ M' ∧
        Upd ((w.heap.size + 1) :: M) W (W3.putObj (w.heap.size + 1) (.loop (rec (if jump.isNone then .ready else .done) jump))) ∧
        (∀ k, k ∈ M' → k < (W3.putObj (w.heap.size + 1) (.loop (rec (if jump.isNone then .ready else .done) jump))).heap.size ∧ (k ∈ M ∨ W.heap.size ≤ k)) ∧
        Upd [w.heap.size + 1] W3 (W3.putObj (w.heap.size + 1) (.loop (rec (if jump.isNone then .ready else .done) jump))) := fun jump W3 M' hU hM' => by
      have hl3 := upd_far hU hl2 a5
      have hk3 := upd_far hU hk2 a4
      have := run_endRound (P := P) jump hl3
      rw [hrec] at this ⊢
      refine ⟨this, World.putObj_heap_same (block_lt hl3), (World.putObj_heap_other (by omega)).trans hk3, ?_, ?_, ?_, ?_, Upd.putOne _⟩
      · intro h; rcases (hM' _ h).2 with h | h
        · exact a4 h
        · omega
      · intro h; rcases (hM' _ h).2 with h | h
        · exact a5 h
        · omega
      · exact ((u1.mono (by simp)).trans (hU.mono (fun k hk _ => by simp [hk]))).trans (Upd.putObj (by simp) _)
      · intro k hk
        have := hM' k hk
        rw [hz2] at this
        simpa using this
    rintro e a3' W3 ⟨M', hU, hM', hp⟩
    cases e with
    | normal =>
      obtain ⟨f1, f2, f3, f4, f5, f6, f7, f8⟩ := fin none W3 M' hU hM'
      exact ⟨_, _, f1, M', f6, f7, .inl ⟨rfl, hI _ M' W3 _ [w.heap.size + 1] (by simp; exact f5) hp f8, f2, f3, f4, f5⟩⟩
    | ret =>
      obtain ⟨f1, f2, f3, f4, f5, f6, f7, f8⟩ := fin (some .ret) W3 M' hU hM'
      exact ⟨_, _, f1, M', f6, f7, .inr ⟨rfl, .ret, hIx _ _ M' W3 _ [w.heap.size + 1] (by simp; exact f5) hp f8, f2, f3, f4, f5⟩⟩
    | exit id =>
      obtain ⟨f1, f2, f3, f4, f5, f6, f7, f8⟩ := fin (some (.exit id)) W3 M' hU hM'
      exact ⟨_, _, f1, M', f6, f7, .inr ⟨rfl, .exit id, hIx _ _ M' W3 _ [w.heap.size + 1] (by simp; exact f5) hp f8, f2, f3, f4, f5⟩⟩
    | goto t =>
      obtain ⟨f1, f2, f3, f4, f5, f6, f7, f8⟩ := fin (some (.goto t)) W3 M' hU hM'
      exact ⟨_, _, f1, M', f6, f7, .inr ⟨rfl, .goto t, hIx _ _ M' W3 _ [w.heap.size + 1] (by simp; exact f5) hp f8, f2, f3, f4, f5⟩⟩
    | panic ch => exact hp.elim
    | outgrown => exact hp.elim
  · rintro e W3 ⟨⟨v, rfl⟩, M', ⟨a1, a2, a3, a4, a5⟩ | ⟨pre, hpre, c, a1, a2, a3, a4, a5⟩⟩
    · have h4 := run_endLoop (P := P) a2 (by rw [hrec]; simp)
      rw [hrec] at h4
      refine ⟨none, _, h4, ?_⟩
      refine hdone M' _ (hI xs M' W3 _ [w.heap.size + 1] (by simp; exact a5) a1 (Upd.putOne _)) a4 ((World.putObj_heap_other (by omega)).trans a3)
    · have h4 := run_endLoop (P := P) a2 (by rw [hrec]; simp)
      rw [hrec] at h4
      refine ⟨some c, _, h4, ?_⟩
      refine wpIn_wide.2 (hstop c pre M' _ hpre (hIx c pre M' W3 _ [w.heap.size + 1] (by simp; exact a5) a1 (Upd.putOne _)) a4 ((World.putObj_heap_other (by omega)).trans a3))


def valId (W : World) (M : List Nat) (x : Int) (args : Array Value) : Prop := args = #[.int .i64 x]

attribute [local go_sem] Oper.semAt_some

set_option maxHeartbeats 2000000 in
set_option maxRecDepth 100000 in
theorem valuesI_it (bx : Nat) (v : Value) (t : TypeId) (xs : List Int) (w : World) (hb : w.heap[bx]? = some (.cells #[v] t)) (N : List Nat) (hbN : bx ∉ N) (h : (Kd.int .i64).slice.At N w [v] xs) :
    ItFrom Try.prog w N 36 #[.pointer (some ⟨bx, 0, none⟩)] xs valId := by
  intro W0 lp M0 hW hlp hM0 J Jx hJ hY hlpl hMl h0
  obtain ⟨ao, cap, rfl, hl, hcap⟩ := Kd.slice_form h
  have hbx := block_lt hb
  have D0 : (Kd.int .i64).slice.At (lp :: M0) W0 [.slice ao xs.length cap] xs := h.upd hW (fun k hk => hk) (fun k hk => by rcases List.mem_cons.1 hk with rfl | hk; exact .inr hlp; exact hM0 k hk)
  have B0 : W0.heap[bx]? = some (.cells #[.slice ao xs.length cap] t) := (hW.block bx hbx hbN).trans hb
  have hs0 := hW.size
  unfold maxLen at hcap
  have c0 : W0.cell? ⟨bx, 0, none⟩ = some (.slice ao xs.length cap) := by rw [cell_of_block B0]; rfl
  have DD0 := Lib.hid D0
  have HJ := Lib.hid hJ
  have HY := Lib.hid hY
  have HM := Lib.hid hMl
  have HM0 := Lib.hid hM0
  have H0 := Lib.hid h0
  clear D0 B0 hJ hY h hb hMl hM0 h0 hW
  refine callsIn_of_wp Try.func36 rfl trivial ?_
  simp only [Try.ntmps36, List.size_toArray, List.length_cons, List.length_nil, Nat.reduceAdd, Nat.reduceSub, Array.replicate_succ, Array.replicate_zero, List.push_toArray, List.append_toArray, List.nil_append, List.cons_append]
  gi_wp2
  gi_loopw [7] (fun i wr => ∃ (k : Nat) (M : List Nat), k ≤ xs.length ∧ i = .int .i64 k ∧ Hid (J (xs.take k) M wr) ∧ Hid ((Kd.int .i64).slice.At (lp :: M) wr [.slice ao xs.length cap] xs) ∧ Hid (∀ k, k ∈ M → k < wr.heap.size) ∧ W0.heap.size ≤ wr.heap.size) (fun i _ => xs.length - (intOf i).toNat)
  case atStart => exact ⟨0, M0, Nat.zero_le _, rfl, H0.out, DD0.out, HM.out, Nat.le_refl _⟩
  case round =>
    clear c0
    obtain ⟨k, M, hk, rfl, hj, hd, hm, hsz⟩ := hrel
    by_cases hlt : k < xs.length
    · obtain ⟨x, hx⟩ : ∃ x, xs[k]? = some x := ⟨_, List.getElem?_eq_getElem hlt⟩
      obtain ⟨b, o, c, hv, hbs, _, _, _, c0, hi⟩ := ints_at hd.out hx
      simp at hv
      obtain ⟨rfl, rfl⟩ := hv
      have hrest : xs = xs.take k ++ x :: xs.drop (k + 1) := by
        rw [← (List.getElem?_eq_some_iff.1 hx).2, ← List.drop_eq_getElem_cons hlt, List.take_append_drop]
      have HR := Lib.hid hrest
      have htk : xs.take (k + 1) = xs.take k ++ [x] := take_snoc' hx
      have HTK := Lib.hid htk
      obtain ⟨fn, tmps, assign, body, hy, hRR⟩ := HY.out _ _ _ M wr #[.int .i64 x] HR.out hj.out rfl hm.out 0
      clear hx hrest htk hi
      gi_wp2
      refine ⟨rfl, hRR.mono ?_⟩
      rintro e w3 ⟨M', hU3, hM', hcase⟩
      have hz3 := hU3.size
      have HD3 := Lib.hid (hd.out.upd hU3 (fun k hk => hk) (M' := lp :: M') (fun k hk => by
        rcases List.mem_cons.1 hk with rfl | hk
        · exact .inl (by simp)
        · rcases (hM' k hk).2 with h | h
          · exact .inl (by simp [h])
          · exact .inr h))
      have HM3 := Lib.hid (fun k hk => (hM' k hk).1)
      rcases hcase with ⟨rfl, hj3⟩ | ⟨rfl, hj3⟩
      · have HJ3 := Lib.hid hj3
        clear hU3 hM' hj3 hRR hy c0
        gi_wp2
        go_roundw
        case rel => exact ⟨k + 1, M', by omega, by go_num, by rw [HTK.out]; exact HJ3.out, HD3.out, HM3.out, by omega⟩
        case measure => simp [intOf]; omega
      · have HJ3 := Lib.hid hj3
        clear hU3 hM' hj3 hRR hy c0
        gi_wp2
        refine bodyPost_ret (results_none rfl _ _ _) rfl ?_
        exact ⟨⟨_, rfl⟩, M', .inr ⟨_, ⟨xs.drop (k + 1), by rw [List.append_assoc]; exact HR.out.symm⟩, HJ3.out⟩⟩
    · gi_wp2
      go_end0
      have hkl : k = xs.length := by omega
      subst hkl
      rw [List.take_length] at hj
      exact ⟨⟨_, rfl⟩, M, .inl hj.out⟩

theorem valuesI_calls (v : Value) (xs : List Int) (M : List Nat) (w : World) (h : (Kd.int .i64).slice.At M w [v] xs) (hM : ∀ k, k ∈ M → k < w.heap.size) :
    Calls Try.prog 19 #[v] w fun e w' => ∃ bx, e = .returned (.func (.func 36) #[] #[.pointer (some ⟨bx, 0, none⟩)]) ∧ Below w.heap.size w w' ∧
      ItFrom Try.prog w' M 36 #[.pointer (some ⟨bx, 0, none⟩)] xs valId := by
  have hit : ∀ W t, Upd [] w W → W.heap[w.heap.size]? = some (.cells #[v] t) → ItFrom Try.prog W M 36 #[.pointer (some ⟨w.heap.size, 0, none⟩)] xs valId := fun W t hu hb =>
    valuesI_it w.heap.size v t xs W hb M (fun hm => by have := hM _ hm; omega) (h.upd hu (by simp) (fun k hk => .inl hk))
  obtain ⟨ao, cap, rfl, _, _⟩ := Kd.slice_form h
  have HIT := Lib.hid hit
  have HB := Lib.hid (fun o => (Below.refl _ w).alloc (Nat.le_refl _) o)
  clear hit h hM
  go_enter Try.func19, Try.ntmps19
  go_wp2_with fail
  go_ret
  exact ⟨_, rfl, HB.out _, HIT.out _ _ (Upd.alloc [] w _) (Go.heap_alloc_new w _)⟩

/-! ### Each -/
/-- Of each id that is there its result. -/
def resOf (L : List (List Int)) (v : List Int) (ids : List Int) : List Rs := (ids.filter (fun i => decide (0 ≤ i) && decide (i < (L.length : Int)))).map (fun i => ⟨i, farAt L i v⟩)
def valRs (W : World) (M : List Nat) (x : Rs) (args : Array Value) : Prop := args = #[rsV x]
theorem resOf_snoc (L : List (List Int)) (v ids : List Int) (i : Int) : resOf L v (ids ++ [i]) = if 0 ≤ i ∧ i < (L.length : Int) then resOf L v ids ++ [⟨i, farAt L i v⟩] else resOf L v ids := by
  unfold resOf
  rw [List.filter_append, List.map_append]
  by_cases h : 0 ≤ i ∧ i < (L.length : Int)
  · rw [if_pos h]; simp [h]
  · rw [if_neg h]
    have : (decide (0 ≤ i) && decide (i < (L.length : Int))) = false := by
      cases hh : (decide (0 ≤ i) && decide (i < (L.length : Int))) with
      | false => rfl
      | true => simp at hh; exact absurd hh h
    simp [this]

set_option maxHeartbeats 2000000 in
set_option maxRecDepth 100000 in
theorem each_it (bx bv bi p : Nat) (dim : Int) (L : List (List Int)) (v : List Int) (vv : Value) (ids : List Int) (gf : FuncId) (lb : Array Value) (tx tv ti : TypeId) (w : World) (N : List Nat)
    (hx : w.heap[bx]? = some (.cells #[.pointer (some ⟨p, 0, none⟩)] tx)) (hv : w.heap[bv]? = some (.cells #[vv] tv)) (hi : w.heap[bi]? = some (.cells #[.func (.func gf) #[] lb] ti)) (hN : bx ∉ N ∧ bv ∉ N ∧ bi ∉ N ∧ p ∉ N)
    (eg : ∀ args w, (callFunc gf args).run Try.prog w = .ok (.enter gf args) w)
    (hI : Its w N p dim L) (hvv : (Kd.int .i32).slice.At N w [vv] v) (hit : ItFrom Try.prog w N gf lb ids valId) :
    ItFromS Try.prog w N 35 #[.pointer (some ⟨bi, 0, none⟩), .pointer (some ⟨bx, 0, none⟩), .pointer (some ⟨bv, 0, none⟩)] (resOf L v ids) valRs := by
  intro W0 lp M0 hW hlp hM0 J Jx hJ hJx hY hlpl hMl h0
  obtain ⟨av, cv, rfl, hlv, hcv⟩ := Kd.slice_form hvv
  unfold maxLen at hcv
  have BX0 := (hW.block bx (block_lt hx) hN.1).trans hx
  have BV0 := (hW.block bv (block_lt hv) hN.2.1).trans hv
  have BI0 := (hW.block bi (block_lt hi) hN.2.2.1).trans hi
  have hp0 : p < w.heap.size := by obtain ⟨_, h, _⟩ := hI.is.out; exact block_lt h
  have HI0 : Its W0 (lp :: M0) p dim L := hI.upd hW (fun k hk => hk) hN.2.2.2 (fun k hk => by rcases List.mem_cons.1 hk with rfl | hk; exact .inr hlp; exact hM0 k hk)
  have HV0 : (Kd.int .i32).slice.At (lp :: M0) W0 [.slice av v.length cv] v := hvv.upd hW (fun k hk => hk) (fun k hk => by rcases List.mem_cons.1 hk with rfl | hk; exact .inr hlp; exact hM0 k hk)
  have hs0 := hW.size
  have hbx := block_lt hx
  have hbv := block_lt hv
  have hbi := block_lt hi
  have HIT := Lib.hid hit
  have HW := Lib.hid hW
  have HJ := Lib.hid hJ
  have HJX := Lib.hid hJx
  have HY := Lib.hid hY
  have HM := Lib.hid hMl
  have HM0 := Lib.hid hM0
  have H0 := Lib.hid h0
  have EG := Lib.hid eg
  obtain ⟨W1, hW1⟩ : ∃ W1, W0.alloc (.cells #[.func (.yield lp) #[] #[]] 69) = W1 := ⟨_, rfl⟩
  have hu1 : Upd [] W0 W1 := by rw [← hW1]; exact Upd.alloc [] W0 _
  have BX := Lib.hid (upd_far hu1 BX0 (by simp))
  have BV := Lib.hid (upd_far hu1 BV0 (by simp))
  have BI := Lib.hid (upd_far hu1 BI0 (by simp))
  have BY : Hid (W1.heap[W0.heap.size]? = some (.cells #[.func (.yield lp) #[] #[]] 69)) := Lib.hid (by rw [← hW1]; exact Go.heap_alloc_new W0 _)
  have ci : W1.cell? ⟨bi, 0, none⟩ = some (.func (.func gf) #[] lb) := by rw [cell_of_block BI.out]; rfl
  have HU1 := Lib.hid hu1
  have hz1 : W1.heap.size = W0.heap.size + 1 := by rw [← hW1]; simp
  clear hx hv hi hI hvv hit hW hJ hJx hY hMl hM0 h0 eg BX0 BV0 BI0 hu1
  refine callsIn_of_marks Try.func35 rfl ?_
  simp only [Try.ntmps35, List.size_toArray, List.length_cons, List.length_nil, Nat.reduceAdd, Nat.reduceSub, Array.replicate_succ, Array.replicate_zero, List.push_toArray, List.append_toArray, List.nil_append, List.cons_append]
  go_wp2_with fail
  have HI1 := Lib.hid (HI0.upd HU1.out (by simp) (by simp) (fun k hk => .inl hk))
  have HV1 := Lib.hid (HV0.upd HU1.out (by simp) (M' := lp :: M0) (fun k hk => .inl hk))
  have HJ1 := Lib.hid (HJ.out _ _ _ _ [] (by simp) H0.out HU1.out)
  clear HI0 HV0 hW1
  have HNN := Lib.hid hN
  have hpp : p ∉ lp :: M0 := fun h => by
    rcases List.mem_cons.1 h with h | h
    · omega
    · rcases HM0.out p h with h | h
      · exact HNN.out.2.2.2 h
      · omega
  have hfar : ∀ b, b < w.heap.size → b ∉ N → b ∉ lp :: M0 := fun b h1 h2 h => by
    rcases List.mem_cons.1 h with h | h
    · omega
    · rcases HM0.out b h with h | h
      · exact h2 h
      · omega
  have hyy : W0.heap.size ∉ lp :: M0 := fun h => by
    rcases List.mem_cons.1 h with h | h
    · omega
    · have := HM.out _ h; omega
  have PP := Lib.hid hpp
  have FX := Lib.hid (hfar bx hbx HNN.out.1)
  have FV := Lib.hid (hfar bv hbv HNN.out.2.1)
  have FY := Lib.hid hyy
  have HZ1 := Lib.hid hz1
  clear hpp hfar hyy hz1
  refine wp_range (xs := ids) (val := valId) (lp :: M0) rfl EG.out (fun W hu hsz => ?_)
    (fun pre M W => ∃ Mo, M = lp :: Mo ∧ J (resOf L v pre) Mo W ∧ (∀ k, k ∈ Mo → k ∈ M0 ∨ W1.heap.size ≤ k) ∧ Upd (lp :: M0) W1 W)
    (fun c pre M W => c = .ret ∧ ∃ Mo pre', M = lp :: Mo ∧ pre' <+: resOf L v ids ∧ Jx pre' Mo W) ?_ ?_ ?_ ?_ ?_ ?_ ?_ ?_ ?_
  · exact HIT.out W _ _ (((HW.out).trans (HU1.out.mono (by simp))).trans (hu.mono (by simp))) (by have := HZ1.out; omega) (fun k hk => by
      rcases List.mem_cons.1 hk with rfl | hk
      · exact .inr hlp
      · exact HM0.out k hk)
  · rintro pre M W W' S hS ⟨Mo, rfl, a1, a2, a3⟩ hu
    exact ⟨Mo, rfl, HJ.out _ _ _ _ S (fun k hk => ⟨by have := (hS k hk).1; have := HZ1.out; omega, fun h => (hS k hk).2 (by simp [h])⟩) a1 hu, a2, a3.trans' hu (fun k hk => .inr (hS k hk).1)⟩
  · rintro c pre M W W' S hS ⟨rfl, Mo, pre', rfl, hp, hj⟩ hu
    exact ⟨rfl, Mo, pre', rfl, hp, HJX.out _ _ _ _ S (fun k hk => ⟨by have := (hS k hk).1; have := HZ1.out; omega, fun h => (hS k hk).2 (by simp [h])⟩) hj hu⟩
  · rintro M W W' x args rfl hu
    rfl
  · rintro W M x args rfl
    rfl
  · exact ⟨M0, rfl, HJ1.out, fun k hk => .inl hk, Upd.refl _ _⟩
  · intro k hk
    have := HZ1.out
    rcases List.mem_cons.1 hk with rfl | hk
    · omega
    · have := HM.out k hk; omega
  · rintro l pre x rest M W0' W args hxs ⟨Mo, rfl, a1, a2, a3⟩ rfl _ hl1 hl2 hl3 hM
    have HXS := Lib.hid hxs
    have A1 := Lib.hid a1
    have A2 := Lib.hid a2
    have A3 := Lib.hid a3
    have HL3 := Lib.hid hl3
    have HMM := Lib.hid hM
    have hx1 := upd_far a3 BX.out FX.out
    have hv1 := upd_far a3 BV.out FV.out
    have hy1 := upd_far a3 BY.out FY.out
    have HIW := Lib.hid (HI1.out.upd a3 (fun k hk => hk) PP.out (N' := lp :: Mo) (fun k hk => by
      rcases List.mem_cons.1 hk with rfl | hk
      · exact .inl (by simp)
      · rcases a2 k hk with h | h
        · exact .inl (by simp [h])
        · exact .inr h))
    have HVW := Lib.hid (HV1.out.upd a3 (fun k hk => hk) (M' := lp :: Mo) (fun k hk => by
      rcases List.mem_cons.1 hk with rfl | hk
      · exact .inl (by simp)
      · rcases a2 k hk with h | h
        · exact .inl (by simp [h])
        · exact .inr h))
    have HX1 := Lib.hid hx1
    have HV2 := Lib.hid hv1
    have HY1 := Lib.hid hy1
    clear hxs a1 a2 a3 hl3 hM hx1 hv1 hy1
    gi_wp2
    refine ⟨trivial, ?_⟩
    have hsn := resOf_snoc L v pre x
    by_cases h0 : x < 0
    · rw [if_neg (by omega)] at hsn
      have HSN := Lib.hid hsn
      clear hsn
      gi_wp2
      refine ⟨by first | trivial | exact fun _ _ => trivial, ?_⟩
      go_at_K
      gi_wp2
      refine ⟨Upd.refl _ _, lp :: Mo, fun k hk => ⟨HMM.out k hk, .inl (by simpa using hk)⟩, Mo, rfl, ?_, A2.out, A3.out⟩
      rw [HSN.out]
      exact A1.out
    · have cx : W.cell? ⟨bx, 0, none⟩ = some (.pointer (some ⟨p, 0, none⟩)) := by rw [cell_of_block HX1.out]; rfl
      have HLC := Lib.hid HIW.out.len_calls
      by_cases h1 : (L.length : Int) ≤ x
      · rw [if_neg (by omega)] at hsn
        have HSN := Lib.hid hsn
        clear hsn
        gi_wp2
        refine ⟨trivial, rfl, (calls_round HLC.out).mono ?_⟩
        rintro e w2 ⟨rfl, m, rfl⟩
        gi_wp2
        refine ⟨Upd.drewN _ _ _, lp :: Mo, fun k hk => ⟨HMM.out k hk, .inl (by simpa using hk)⟩, Mo, rfl, ?_, A2.out, A3.out.trans (Upd.drewN _ _ _)⟩
        rw [HSN.out]
        exact HJ.out _ _ _ _ [] (by simp) A1.out (Upd.drewN [] W m)
      · rw [if_pos ⟨by omega, by omega⟩] at hsn
        have HSN := Lib.hid hsn
        clear hsn
        gi_wp2
        refine ⟨trivial, rfl, (calls_round HLC.out).mono ?_⟩
        rintro e w2 ⟨rfl, m, rfl⟩
        gi_wp2
        -- REGION
        have fx : W.cell? ⟨bx, 0, none⟩ = some (.pointer (some ⟨p, 0, none⟩)) := cx
        have fv : W.cell? ⟨bv, 0, none⟩ = some (.slice av v.length cv) := by rw [cell_of_block HV2.out]; rfl
        have fy : W.cell? ⟨W0.heap.size, 0, none⟩ = some (.func (.yield lp) #[] #[]) := by rw [cell_of_block HY1.out]; rfl
        have hud : Upd [] W (W.drewN (m + 1)) := Upd.drewN [] W (m + 1)
        have HFAR := Lib.hid (items_far_calls (W.drewN (m + 1)) (lp :: Mo) p dim L x _ v (HIW.out.upd hud (by simp) (by simp) (fun k hk => .inl hk)) (HVW.out.upd hud (by simp) (fun k hk => .inl hk)))
        have hrest : resOf L v ids = resOf L v pre ++ ⟨x, farAt L x v⟩ :: resOf L v rest := by
          rw [HXS.out, show pre ++ x :: rest = (pre ++ [x]) ++ rest by simp]
          have : ∀ a b, resOf L v (a ++ b) = resOf L v a ++ resOf L v b := fun a b => by simp [resOf]
          rw [this, HSN.out]; simp
        have HRS := Lib.hid hrest
        have HYY : Hid (∀ q n, YieldAt Fence.wide n Try.prog lp #[.agg #[.int .i64 x, .int .i64 (farAt L x v)]] (W.drewN q) (fun e W' => ∃ M', Upd (lp :: Mo) (W.drewN q) W' ∧ (∀ k, k ∈ M' → k < W'.heap.size ∧ (k ∈ Mo ∨ W.heap.size ≤ k)) ∧ ∃ b, e = .returned (.bool b) ∧ ((b = true ∧ J (resOf L v pre ++ [⟨x, farAt L x v⟩]) M' W') ∨ (b = false ∧ Jx (resOf L v pre ++ [⟨x, farAt L x v⟩]) M' W')))) := Lib.hid (fun q n => by
          obtain ⟨fn, tmps, assign, body, hy, hRR⟩ := HY.out _ _ _ Mo (W.drewN q) #[.agg #[.int .i64 x, .int .i64 (farAt L x v)]] HRS.out (HJ.out _ _ _ _ [] (by simp) A1.out (Upd.drewN [] W q)) rfl (fun k hk => HMM.out k (by simp [hk])) n
          refine ⟨fn, tmps, assign, body, hy, hRR.mono ?_⟩
          rintro e W' ⟨M', u1, u2, u3⟩
          refine ⟨M', u1, u2, ?_⟩
          rcases u3 with ⟨e1, e2⟩ | ⟨e1, e2⟩
          · exact ⟨true, e1, .inl ⟨rfl, e2⟩⟩
          · exact ⟨false, e1, .inr ⟨rfl, e2⟩⟩)
        clear hud cx hrest
        refine wpIn_region_round (by kernel_rfl) rfl ?_
        refine wpAnyIn_take (i := 1) (v := ?_) rfl rfl (by kernel_rfl) (by kernel_rfl) (by kernel_rfl) (fun _ _ _ h => h) ⟨Or.inl ⟨by rfl, ?_⟩, fun _ => rfl⟩ ?_
        rotate_left 1
        (focus (intro w; go_simp; any_goals with_reducible rfl))
        (try simp only [Act.put, List.setIfInBounds_toArray, List.set_cons_zero, List.set_cons_succ])
        refine wpAnyIn_take (i := 3) (v := ?_) rfl rfl (by kernel_rfl) (by kernel_rfl) (by kernel_rfl) (fun _ _ _ h => h) ⟨Or.inl ⟨by rfl, ?_⟩, fun _ => rfl⟩ ?_
        rotate_left 1
        (focus (intro w; go_simp; any_goals with_reducible rfl))
        (try simp only [Act.put, List.setIfInBounds_toArray, List.set_cons_zero, List.set_cons_succ])
        refine wpAnyIn_ready (rs := [0, 2, 4]) (by kernel_rfl) (by simp) (AllReadyIn.cons rfl (fun K hK => ?_) (AllReadyIn.cons rfl (fun K hK => ?_) (AllReadyIn.cons rfl (fun K hK => ?_) AllReadyIn.nil)))
        · go_simp
          refine hK _ _ ?_
          clear hK K
          (try simp only [Act.put, List.setIfInBounds_toArray, List.set_cons_zero, List.set_cons_succ])
          refine wpAnyIn_ready (rs := [2, 4]) (by kernel_rfl) (by simp) (AllReadyIn.cons rfl (fun K hK => ?_) (AllReadyIn.cons rfl (fun K hK => ?_) AllReadyIn.nil))
          · go_simp
            refine hK _ _ ?_
            clear hK K
            (try simp only [Act.put, List.setIfInBounds_toArray, List.set_cons_zero, List.set_cons_succ])
            refine wpAnyIn_ready (rs := [4]) (by kernel_rfl) (by simp) (AllReadyIn.cons rfl (fun K hK => ?_) AllReadyIn.nil)
            go_simp
            refine hK _ _ ?_
            clear hK K
            (try simp only [Act.put, List.setIfInBounds_toArray, List.set_cons_zero, List.set_cons_succ])
            refine wpAnyIn_ready (rs := [5]) (by kernel_rfl) (by simp) (AllReadyIn.cons rfl (fun K hK => ?_) AllReadyIn.nil)
            go_simp
            refine ⟨trivial, rfl, (calls_in HFAR.out).mono ?_⟩
            rintro e w3 ⟨rfl, q, rfl⟩
            refine hK _ _ ?_
            clear hK K
            (try simp only [Act.put, List.setIfInBounds_toArray, List.set_cons_zero, List.set_cons_succ])
            have gy : (((W.drewN m).drew).drewN q).cell? ⟨W0.heap.size, 0, none⟩ = some (.func (.yield lp) #[] #[]) := fy
            refine wpAnyIn_take (i := 6) (v := ?_) rfl rfl (by kernel_rfl) (by kernel_rfl) (by kernel_rfl) (fun _ _ _ h => h) ⟨Or.inl ⟨by rfl, ?_⟩, fun _ => rfl⟩ ?_
            rotate_left 1
            (focus (intro w; go_simp; any_goals with_reducible rfl))
            (try simp only [Act.put, List.setIfInBounds_toArray, List.set_cons_zero, List.set_cons_succ])
            refine wpAnyIn_ready (rs := [7]) (by kernel_rfl) (by simp) (AllReadyIn.cons rfl (fun K hK => ?_) AllReadyIn.nil)
            obtain ⟨fn, tmps, assign, body, hy, hRR⟩ := HYY.out (m + 1 + q) 0
            go_simp
            refine ⟨rfl, hRR.mono ?_⟩
            rintro e w4 ⟨M', hU4, hM4, b, rfl, hcase⟩
            refine hK _ _ ?_
            clear hK K
            (try simp only [Act.put, List.setIfInBounds_toArray, List.set_cons_zero, List.set_cons_succ])
            have HU4 := Lib.hid hU4
            have HM4 := Lib.hid hM4
            have HCS := Lib.hid hcase
            clear hU4 hM4 hcase hRR hy
            refine wpAnyIn_take (i := 8) (v := ?_) rfl rfl (by kernel_rfl) (by kernel_rfl) (by kernel_rfl) (fun _ _ _ h => h) ⟨Or.inl ⟨by rfl, ?_⟩, fun _ => rfl⟩ ?_
            rotate_left 1
            (focus (intro w; go_simp; any_goals with_reducible rfl))
            (try simp only [Act.put, List.setIfInBounds_toArray, List.set_cons_zero, List.set_cons_succ])
            refine wpAnyIn_done (by kernel_rfl) ?_ _
            have hlk : ∀ k, k ∈ lp :: M' → k < w4.heap.size ∧ ((k = lp ∨ k ∈ Mo) ∨ W.heap.size ≤ k) := fun k hk => by
              rcases List.mem_cons.1 hk with rfl | hk
              · exact ⟨Nat.lt_of_lt_of_le (HMM.out k (by simp)) HU4.out.size, .inl (.inl rfl)⟩
              · have := HM4.out k hk; exact ⟨this.1, this.2.elim (fun h => .inl (.inr h)) .inr⟩
            have HLK := Lib.hid hlk
            clear hlk
            cases b with
            | true =>
              have HJ4 : Hid (J (resOf L v pre ++ [⟨x, farAt L x v⟩]) M' w4) := Lib.hid (by rcases HCS.out with ⟨_, h⟩ | ⟨h, _⟩; exact h; exact absurd h (by simp))
              gi_wp2
              refine ⟨(Upd.drewN _ W _).trans HU4.out, lp :: M', HLK.out, M', rfl, ?_, fun k hk => ?_, (A3.out.trans (Upd.drewN _ W _)).trans' HU4.out (fun k hk => ?_)⟩
              · rw [HSN.out]; exact HJ4.out
              · rcases (HM4.out k hk).2 with h | h
                · exact A2.out k h
                · have := A3.out.size; exact .inr (Nat.le_trans this h)
              · rcases List.mem_cons.1 hk with h | h
                · exact .inl (by simp [h])
                · rcases A2.out k h with h | h
                  · exact .inl (by simp [h])
                  · exact .inr h
            | false =>
              gi_wp2
              refine ⟨(Upd.drewN _ W _).trans HU4.out, lp :: M', HLK.out, M', rfl, _, ⟨resOf L v rest, ?_⟩, (by rcases HCS.out with ⟨h, _⟩ | ⟨_, h⟩; exact absurd h (by simp); exact h)⟩
              rw [List.append_assoc]; exact HRS.out.symm
          · go_simp
            refine hK _ _ ?_
            clear hK K
            (try simp only [Act.put, List.setIfInBounds_toArray, List.set_cons_zero, List.set_cons_succ])
            refine wpAnyIn_ready (rs := [2]) (by kernel_rfl) (by simp) (AllReadyIn.cons rfl (fun K hK => ?_) AllReadyIn.nil)
            go_simp
            refine hK _ _ ?_
            clear hK K
            (try simp only [Act.put, List.setIfInBounds_toArray, List.set_cons_zero, List.set_cons_succ])
            refine wpAnyIn_ready (rs := [5]) (by kernel_rfl) (by simp) (AllReadyIn.cons rfl (fun K hK => ?_) AllReadyIn.nil)
            go_simp
            refine ⟨trivial, rfl, (calls_in HFAR.out).mono ?_⟩
            rintro e w3 ⟨rfl, q, rfl⟩
            refine hK _ _ ?_
            clear hK K
            (try simp only [Act.put, List.setIfInBounds_toArray, List.set_cons_zero, List.set_cons_succ])
            have gy : (((W.drewN m).drew).drewN q).cell? ⟨W0.heap.size, 0, none⟩ = some (.func (.yield lp) #[] #[]) := fy
            refine wpAnyIn_take (i := 6) (v := ?_) rfl rfl (by kernel_rfl) (by kernel_rfl) (by kernel_rfl) (fun _ _ _ h => h) ⟨Or.inl ⟨by rfl, ?_⟩, fun _ => rfl⟩ ?_
            rotate_left 1
            (focus (intro w; go_simp; any_goals with_reducible rfl))
            (try simp only [Act.put, List.setIfInBounds_toArray, List.set_cons_zero, List.set_cons_succ])
            refine wpAnyIn_ready (rs := [7]) (by kernel_rfl) (by simp) (AllReadyIn.cons rfl (fun K hK => ?_) AllReadyIn.nil)
            obtain ⟨fn, tmps, assign, body, hy, hRR⟩ := HYY.out (m + 1 + q) 0
            go_simp
            refine ⟨rfl, hRR.mono ?_⟩
            rintro e w4 ⟨M', hU4, hM4, b, rfl, hcase⟩
            refine hK _ _ ?_
            clear hK K
            (try simp only [Act.put, List.setIfInBounds_toArray, List.set_cons_zero, List.set_cons_succ])
            have HU4 := Lib.hid hU4
            have HM4 := Lib.hid hM4
            have HCS := Lib.hid hcase
            clear hU4 hM4 hcase hRR hy
            refine wpAnyIn_take (i := 8) (v := ?_) rfl rfl (by kernel_rfl) (by kernel_rfl) (by kernel_rfl) (fun _ _ _ h => h) ⟨Or.inl ⟨by rfl, ?_⟩, fun _ => rfl⟩ ?_
            rotate_left 1
            (focus (intro w; go_simp; any_goals with_reducible rfl))
            (try simp only [Act.put, List.setIfInBounds_toArray, List.set_cons_zero, List.set_cons_succ])
            refine wpAnyIn_done (by kernel_rfl) ?_ _
            have hlk : ∀ k, k ∈ lp :: M' → k < w4.heap.size ∧ ((k = lp ∨ k ∈ Mo) ∨ W.heap.size ≤ k) := fun k hk => by
              rcases List.mem_cons.1 hk with rfl | hk
              · exact ⟨Nat.lt_of_lt_of_le (HMM.out k (by simp)) HU4.out.size, .inl (.inl rfl)⟩
              · have := HM4.out k hk; exact ⟨this.1, this.2.elim (fun h => .inl (.inr h)) .inr⟩
            have HLK := Lib.hid hlk
            clear hlk
            cases b with
            | true =>
              have HJ4 : Hid (J (resOf L v pre ++ [⟨x, farAt L x v⟩]) M' w4) := Lib.hid (by rcases HCS.out with ⟨_, h⟩ | ⟨h, _⟩; exact h; exact absurd h (by simp))
              gi_wp2
              refine ⟨(Upd.drewN _ W _).trans HU4.out, lp :: M', HLK.out, M', rfl, ?_, fun k hk => ?_, (A3.out.trans (Upd.drewN _ W _)).trans' HU4.out (fun k hk => ?_)⟩
              · rw [HSN.out]; exact HJ4.out
              · rcases (HM4.out k hk).2 with h | h
                · exact A2.out k h
                · have := A3.out.size; exact .inr (Nat.le_trans this h)
              · rcases List.mem_cons.1 hk with h | h
                · exact .inl (by simp [h])
                · rcases A2.out k h with h | h
                  · exact .inl (by simp [h])
                  · exact .inr h
            | false =>
              gi_wp2
              refine ⟨(Upd.drewN _ W _).trans HU4.out, lp :: M', HLK.out, M', rfl, _, ⟨resOf L v rest, ?_⟩, (by rcases HCS.out with ⟨h, _⟩ | ⟨_, h⟩; exact absurd h (by simp); exact h)⟩
              rw [List.append_assoc]; exact HRS.out.symm
        · go_simp
          refine hK _ _ ?_
          clear hK K
          (try simp only [Act.put, List.setIfInBounds_toArray, List.set_cons_zero, List.set_cons_succ])
          refine wpAnyIn_ready (rs := [0, 4]) (by kernel_rfl) (by simp) (AllReadyIn.cons rfl (fun K hK => ?_) (AllReadyIn.cons rfl (fun K hK => ?_) AllReadyIn.nil))
          · go_simp
            refine hK _ _ ?_
            clear hK K
            (try simp only [Act.put, List.setIfInBounds_toArray, List.set_cons_zero, List.set_cons_succ])
            refine wpAnyIn_ready (rs := [4]) (by kernel_rfl) (by simp) (AllReadyIn.cons rfl (fun K hK => ?_) AllReadyIn.nil)
            go_simp
            refine hK _ _ ?_
            clear hK K
            (try simp only [Act.put, List.setIfInBounds_toArray, List.set_cons_zero, List.set_cons_succ])
            refine wpAnyIn_ready (rs := [5]) (by kernel_rfl) (by simp) (AllReadyIn.cons rfl (fun K hK => ?_) AllReadyIn.nil)
            go_simp
            refine ⟨trivial, rfl, (calls_in HFAR.out).mono ?_⟩
            rintro e w3 ⟨rfl, q, rfl⟩
            refine hK _ _ ?_
            clear hK K
            (try simp only [Act.put, List.setIfInBounds_toArray, List.set_cons_zero, List.set_cons_succ])
            have gy : (((W.drewN m).drew).drewN q).cell? ⟨W0.heap.size, 0, none⟩ = some (.func (.yield lp) #[] #[]) := fy
            refine wpAnyIn_take (i := 6) (v := ?_) rfl rfl (by kernel_rfl) (by kernel_rfl) (by kernel_rfl) (fun _ _ _ h => h) ⟨Or.inl ⟨by rfl, ?_⟩, fun _ => rfl⟩ ?_
            rotate_left 1
            (focus (intro w; go_simp; any_goals with_reducible rfl))
            (try simp only [Act.put, List.setIfInBounds_toArray, List.set_cons_zero, List.set_cons_succ])
            refine wpAnyIn_ready (rs := [7]) (by kernel_rfl) (by simp) (AllReadyIn.cons rfl (fun K hK => ?_) AllReadyIn.nil)
            obtain ⟨fn, tmps, assign, body, hy, hRR⟩ := HYY.out (m + 1 + q) 0
            go_simp
            refine ⟨rfl, hRR.mono ?_⟩
            rintro e w4 ⟨M', hU4, hM4, b, rfl, hcase⟩
            refine hK _ _ ?_
            clear hK K
            (try simp only [Act.put, List.setIfInBounds_toArray, List.set_cons_zero, List.set_cons_succ])
            have HU4 := Lib.hid hU4
            have HM4 := Lib.hid hM4
            have HCS := Lib.hid hcase
            clear hU4 hM4 hcase hRR hy
            refine wpAnyIn_take (i := 8) (v := ?_) rfl rfl (by kernel_rfl) (by kernel_rfl) (by kernel_rfl) (fun _ _ _ h => h) ⟨Or.inl ⟨by rfl, ?_⟩, fun _ => rfl⟩ ?_
            rotate_left 1
            (focus (intro w; go_simp; any_goals with_reducible rfl))
            (try simp only [Act.put, List.setIfInBounds_toArray, List.set_cons_zero, List.set_cons_succ])
            refine wpAnyIn_done (by kernel_rfl) ?_ _
            have hlk : ∀ k, k ∈ lp :: M' → k < w4.heap.size ∧ ((k = lp ∨ k ∈ Mo) ∨ W.heap.size ≤ k) := fun k hk => by
              rcases List.mem_cons.1 hk with rfl | hk
              · exact ⟨Nat.lt_of_lt_of_le (HMM.out k (by simp)) HU4.out.size, .inl (.inl rfl)⟩
              · have := HM4.out k hk; exact ⟨this.1, this.2.elim (fun h => .inl (.inr h)) .inr⟩
            have HLK := Lib.hid hlk
            clear hlk
            cases b with
            | true =>
              have HJ4 : Hid (J (resOf L v pre ++ [⟨x, farAt L x v⟩]) M' w4) := Lib.hid (by rcases HCS.out with ⟨_, h⟩ | ⟨h, _⟩; exact h; exact absurd h (by simp))
              gi_wp2
              refine ⟨(Upd.drewN _ W _).trans HU4.out, lp :: M', HLK.out, M', rfl, ?_, fun k hk => ?_, (A3.out.trans (Upd.drewN _ W _)).trans' HU4.out (fun k hk => ?_)⟩
              · rw [HSN.out]; exact HJ4.out
              · rcases (HM4.out k hk).2 with h | h
                · exact A2.out k h
                · have := A3.out.size; exact .inr (Nat.le_trans this h)
              · rcases List.mem_cons.1 hk with h | h
                · exact .inl (by simp [h])
                · rcases A2.out k h with h | h
                  · exact .inl (by simp [h])
                  · exact .inr h
            | false =>
              gi_wp2
              refine ⟨(Upd.drewN _ W _).trans HU4.out, lp :: M', HLK.out, M', rfl, _, ⟨resOf L v rest, ?_⟩, (by rcases HCS.out with ⟨h, _⟩ | ⟨_, h⟩; exact absurd h (by simp); exact h)⟩
              rw [List.append_assoc]; exact HRS.out.symm
          · go_simp
            refine hK _ _ ?_
            clear hK K
            (try simp only [Act.put, List.setIfInBounds_toArray, List.set_cons_zero, List.set_cons_succ])
            refine wpAnyIn_ready (rs := [0, 5]) (by kernel_rfl) (by simp) (AllReadyIn.cons rfl (fun K hK => ?_) (AllReadyIn.cons rfl (fun K hK => ?_) AllReadyIn.nil))
            · go_simp
              refine hK _ _ ?_
              clear hK K
              (try simp only [Act.put, List.setIfInBounds_toArray, List.set_cons_zero, List.set_cons_succ])
              refine wpAnyIn_ready (rs := [5]) (by kernel_rfl) (by simp) (AllReadyIn.cons rfl (fun K hK => ?_) AllReadyIn.nil)
              go_simp
              refine ⟨trivial, rfl, (calls_in HFAR.out).mono ?_⟩
              rintro e w3 ⟨rfl, q, rfl⟩
              refine hK _ _ ?_
              clear hK K
              (try simp only [Act.put, List.setIfInBounds_toArray, List.set_cons_zero, List.set_cons_succ])
              have gy : (((W.drewN m).drew).drewN q).cell? ⟨W0.heap.size, 0, none⟩ = some (.func (.yield lp) #[] #[]) := fy
              refine wpAnyIn_take (i := 6) (v := ?_) rfl rfl (by kernel_rfl) (by kernel_rfl) (by kernel_rfl) (fun _ _ _ h => h) ⟨Or.inl ⟨by rfl, ?_⟩, fun _ => rfl⟩ ?_
              rotate_left 1
              (focus (intro w; go_simp; any_goals with_reducible rfl))
              (try simp only [Act.put, List.setIfInBounds_toArray, List.set_cons_zero, List.set_cons_succ])
              refine wpAnyIn_ready (rs := [7]) (by kernel_rfl) (by simp) (AllReadyIn.cons rfl (fun K hK => ?_) AllReadyIn.nil)
              obtain ⟨fn, tmps, assign, body, hy, hRR⟩ := HYY.out (m + 1 + q) 0
              go_simp
              refine ⟨rfl, hRR.mono ?_⟩
              rintro e w4 ⟨M', hU4, hM4, b, rfl, hcase⟩
              refine hK _ _ ?_
              clear hK K
              (try simp only [Act.put, List.setIfInBounds_toArray, List.set_cons_zero, List.set_cons_succ])
              have HU4 := Lib.hid hU4
              have HM4 := Lib.hid hM4
              have HCS := Lib.hid hcase
              clear hU4 hM4 hcase hRR hy
              refine wpAnyIn_take (i := 8) (v := ?_) rfl rfl (by kernel_rfl) (by kernel_rfl) (by kernel_rfl) (fun _ _ _ h => h) ⟨Or.inl ⟨by rfl, ?_⟩, fun _ => rfl⟩ ?_
              rotate_left 1
              (focus (intro w; go_simp; any_goals with_reducible rfl))
              (try simp only [Act.put, List.setIfInBounds_toArray, List.set_cons_zero, List.set_cons_succ])
              refine wpAnyIn_done (by kernel_rfl) ?_ _
              have hlk : ∀ k, k ∈ lp :: M' → k < w4.heap.size ∧ ((k = lp ∨ k ∈ Mo) ∨ W.heap.size ≤ k) := fun k hk => by
                rcases List.mem_cons.1 hk with rfl | hk
                · exact ⟨Nat.lt_of_lt_of_le (HMM.out k (by simp)) HU4.out.size, .inl (.inl rfl)⟩
                · have := HM4.out k hk; exact ⟨this.1, this.2.elim (fun h => .inl (.inr h)) .inr⟩
              have HLK := Lib.hid hlk
              clear hlk
              cases b with
              | true =>
                have HJ4 : Hid (J (resOf L v pre ++ [⟨x, farAt L x v⟩]) M' w4) := Lib.hid (by rcases HCS.out with ⟨_, h⟩ | ⟨h, _⟩; exact h; exact absurd h (by simp))
                gi_wp2
                refine ⟨(Upd.drewN _ W _).trans HU4.out, lp :: M', HLK.out, M', rfl, ?_, fun k hk => ?_, (A3.out.trans (Upd.drewN _ W _)).trans' HU4.out (fun k hk => ?_)⟩
                · rw [HSN.out]; exact HJ4.out
                · rcases (HM4.out k hk).2 with h | h
                  · exact A2.out k h
                  · have := A3.out.size; exact .inr (Nat.le_trans this h)
                · rcases List.mem_cons.1 hk with h | h
                  · exact .inl (by simp [h])
                  · rcases A2.out k h with h | h
                    · exact .inl (by simp [h])
                    · exact .inr h
              | false =>
                gi_wp2
                refine ⟨(Upd.drewN _ W _).trans HU4.out, lp :: M', HLK.out, M', rfl, _, ⟨resOf L v rest, ?_⟩, (by rcases HCS.out with ⟨h, _⟩ | ⟨_, h⟩; exact absurd h (by simp); exact h)⟩
                rw [List.append_assoc]; exact HRS.out.symm
            · go_simp
              refine ⟨trivial, rfl, (calls_in HFAR.out).mono ?_⟩
              rintro e w3 ⟨rfl, q, rfl⟩
              refine hK _ _ ?_
              clear hK K
              (try simp only [Act.put, List.setIfInBounds_toArray, List.set_cons_zero, List.set_cons_succ])
              have gy : (((W.drewN m).drew).drewN q).cell? ⟨W0.heap.size, 0, none⟩ = some (.func (.yield lp) #[] #[]) := fy
              refine wpAnyIn_take (i := 6) (v := ?_) rfl rfl (by kernel_rfl) (by kernel_rfl) (by kernel_rfl) (fun _ _ _ h => h) ⟨Or.inl ⟨by rfl, ?_⟩, fun _ => rfl⟩ ?_
              rotate_left 1
              (focus (intro w; go_simp; any_goals with_reducible rfl))
              (try simp only [Act.put, List.setIfInBounds_toArray, List.set_cons_zero, List.set_cons_succ])
              refine wpAnyIn_ready (rs := [0]) (by kernel_rfl) (by simp) (AllReadyIn.cons rfl (fun K hK => ?_) AllReadyIn.nil)
              go_simp
              refine hK _ _ ?_
              clear hK K
              (try simp only [Act.put, List.setIfInBounds_toArray, List.set_cons_zero, List.set_cons_succ])
              refine wpAnyIn_ready (rs := [7]) (by kernel_rfl) (by simp) (AllReadyIn.cons rfl (fun K hK => ?_) AllReadyIn.nil)
              obtain ⟨fn, tmps, assign, body, hy, hRR⟩ := HYY.out (m + 1 + q) 0
              go_simp
              refine ⟨rfl, hRR.mono ?_⟩
              rintro e w4 ⟨M', hU4, hM4, b, rfl, hcase⟩
              refine hK _ _ ?_
              clear hK K
              (try simp only [Act.put, List.setIfInBounds_toArray, List.set_cons_zero, List.set_cons_succ])
              have HU4 := Lib.hid hU4
              have HM4 := Lib.hid hM4
              have HCS := Lib.hid hcase
              clear hU4 hM4 hcase hRR hy
              refine wpAnyIn_take (i := 8) (v := ?_) rfl rfl (by kernel_rfl) (by kernel_rfl) (by kernel_rfl) (fun _ _ _ h => h) ⟨Or.inl ⟨by rfl, ?_⟩, fun _ => rfl⟩ ?_
              rotate_left 1
              (focus (intro w; go_simp; any_goals with_reducible rfl))
              (try simp only [Act.put, List.setIfInBounds_toArray, List.set_cons_zero, List.set_cons_succ])
              refine wpAnyIn_done (by kernel_rfl) ?_ _
              have hlk : ∀ k, k ∈ lp :: M' → k < w4.heap.size ∧ ((k = lp ∨ k ∈ Mo) ∨ W.heap.size ≤ k) := fun k hk => by
                rcases List.mem_cons.1 hk with rfl | hk
                · exact ⟨Nat.lt_of_lt_of_le (HMM.out k (by simp)) HU4.out.size, .inl (.inl rfl)⟩
                · have := HM4.out k hk; exact ⟨this.1, this.2.elim (fun h => .inl (.inr h)) .inr⟩
              have HLK := Lib.hid hlk
              clear hlk
              cases b with
              | true =>
                have HJ4 : Hid (J (resOf L v pre ++ [⟨x, farAt L x v⟩]) M' w4) := Lib.hid (by rcases HCS.out with ⟨_, h⟩ | ⟨h, _⟩; exact h; exact absurd h (by simp))
                gi_wp2
                refine ⟨(Upd.drewN _ W _).trans HU4.out, lp :: M', HLK.out, M', rfl, ?_, fun k hk => ?_, (A3.out.trans (Upd.drewN _ W _)).trans' HU4.out (fun k hk => ?_)⟩
                · rw [HSN.out]; exact HJ4.out
                · rcases (HM4.out k hk).2 with h | h
                  · exact A2.out k h
                  · have := A3.out.size; exact .inr (Nat.le_trans this h)
                · rcases List.mem_cons.1 hk with h | h
                  · exact .inl (by simp [h])
                  · rcases A2.out k h with h | h
                    · exact .inl (by simp [h])
                    · exact .inr h
              | false =>
                gi_wp2
                refine ⟨(Upd.drewN _ W _).trans HU4.out, lp :: M', HLK.out, M', rfl, _, ⟨resOf L v rest, ?_⟩, (by rcases HCS.out with ⟨h, _⟩ | ⟨_, h⟩; exact absurd h (by simp); exact h)⟩
                rw [List.append_assoc]; exact HRS.out.symm
        · go_simp
          refine hK _ _ ?_
          clear hK K
          (try simp only [Act.put, List.setIfInBounds_toArray, List.set_cons_zero, List.set_cons_succ])
          refine wpAnyIn_ready (rs := [0, 2]) (by kernel_rfl) (by simp) (AllReadyIn.cons rfl (fun K hK => ?_) (AllReadyIn.cons rfl (fun K hK => ?_) AllReadyIn.nil))
          · go_simp
            refine hK _ _ ?_
            clear hK K
            (try simp only [Act.put, List.setIfInBounds_toArray, List.set_cons_zero, List.set_cons_succ])
            refine wpAnyIn_ready (rs := [2]) (by kernel_rfl) (by simp) (AllReadyIn.cons rfl (fun K hK => ?_) AllReadyIn.nil)
            go_simp
            refine hK _ _ ?_
            clear hK K
            (try simp only [Act.put, List.setIfInBounds_toArray, List.set_cons_zero, List.set_cons_succ])
            refine wpAnyIn_ready (rs := [5]) (by kernel_rfl) (by simp) (AllReadyIn.cons rfl (fun K hK => ?_) AllReadyIn.nil)
            go_simp
            refine ⟨trivial, rfl, (calls_in HFAR.out).mono ?_⟩
            rintro e w3 ⟨rfl, q, rfl⟩
            refine hK _ _ ?_
            clear hK K
            (try simp only [Act.put, List.setIfInBounds_toArray, List.set_cons_zero, List.set_cons_succ])
            have gy : (((W.drewN m).drew).drewN q).cell? ⟨W0.heap.size, 0, none⟩ = some (.func (.yield lp) #[] #[]) := fy
            refine wpAnyIn_take (i := 6) (v := ?_) rfl rfl (by kernel_rfl) (by kernel_rfl) (by kernel_rfl) (fun _ _ _ h => h) ⟨Or.inl ⟨by rfl, ?_⟩, fun _ => rfl⟩ ?_
            rotate_left 1
            (focus (intro w; go_simp; any_goals with_reducible rfl))
            (try simp only [Act.put, List.setIfInBounds_toArray, List.set_cons_zero, List.set_cons_succ])
            refine wpAnyIn_ready (rs := [7]) (by kernel_rfl) (by simp) (AllReadyIn.cons rfl (fun K hK => ?_) AllReadyIn.nil)
            obtain ⟨fn, tmps, assign, body, hy, hRR⟩ := HYY.out (m + 1 + q) 0
            go_simp
            refine ⟨rfl, hRR.mono ?_⟩
            rintro e w4 ⟨M', hU4, hM4, b, rfl, hcase⟩
            refine hK _ _ ?_
            clear hK K
            (try simp only [Act.put, List.setIfInBounds_toArray, List.set_cons_zero, List.set_cons_succ])
            have HU4 := Lib.hid hU4
            have HM4 := Lib.hid hM4
            have HCS := Lib.hid hcase
            clear hU4 hM4 hcase hRR hy
            refine wpAnyIn_take (i := 8) (v := ?_) rfl rfl (by kernel_rfl) (by kernel_rfl) (by kernel_rfl) (fun _ _ _ h => h) ⟨Or.inl ⟨by rfl, ?_⟩, fun _ => rfl⟩ ?_
            rotate_left 1
            (focus (intro w; go_simp; any_goals with_reducible rfl))
            (try simp only [Act.put, List.setIfInBounds_toArray, List.set_cons_zero, List.set_cons_succ])
            refine wpAnyIn_done (by kernel_rfl) ?_ _
            have hlk : ∀ k, k ∈ lp :: M' → k < w4.heap.size ∧ ((k = lp ∨ k ∈ Mo) ∨ W.heap.size ≤ k) := fun k hk => by
              rcases List.mem_cons.1 hk with rfl | hk
              · exact ⟨Nat.lt_of_lt_of_le (HMM.out k (by simp)) HU4.out.size, .inl (.inl rfl)⟩
              · have := HM4.out k hk; exact ⟨this.1, this.2.elim (fun h => .inl (.inr h)) .inr⟩
            have HLK := Lib.hid hlk
            clear hlk
            cases b with
            | true =>
              have HJ4 : Hid (J (resOf L v pre ++ [⟨x, farAt L x v⟩]) M' w4) := Lib.hid (by rcases HCS.out with ⟨_, h⟩ | ⟨h, _⟩; exact h; exact absurd h (by simp))
              gi_wp2
              refine ⟨(Upd.drewN _ W _).trans HU4.out, lp :: M', HLK.out, M', rfl, ?_, fun k hk => ?_, (A3.out.trans (Upd.drewN _ W _)).trans' HU4.out (fun k hk => ?_)⟩
              · rw [HSN.out]; exact HJ4.out
              · rcases (HM4.out k hk).2 with h | h
                · exact A2.out k h
                · have := A3.out.size; exact .inr (Nat.le_trans this h)
              · rcases List.mem_cons.1 hk with h | h
                · exact .inl (by simp [h])
                · rcases A2.out k h with h | h
                  · exact .inl (by simp [h])
                  · exact .inr h
            | false =>
              gi_wp2
              refine ⟨(Upd.drewN _ W _).trans HU4.out, lp :: M', HLK.out, M', rfl, _, ⟨resOf L v rest, ?_⟩, (by rcases HCS.out with ⟨h, _⟩ | ⟨_, h⟩; exact absurd h (by simp); exact h)⟩
              rw [List.append_assoc]; exact HRS.out.symm
          · go_simp
            refine hK _ _ ?_
            clear hK K
            (try simp only [Act.put, List.setIfInBounds_toArray, List.set_cons_zero, List.set_cons_succ])
            refine wpAnyIn_ready (rs := [0, 5]) (by kernel_rfl) (by simp) (AllReadyIn.cons rfl (fun K hK => ?_) (AllReadyIn.cons rfl (fun K hK => ?_) AllReadyIn.nil))
            · go_simp
              refine hK _ _ ?_
              clear hK K
              (try simp only [Act.put, List.setIfInBounds_toArray, List.set_cons_zero, List.set_cons_succ])
              refine wpAnyIn_ready (rs := [5]) (by kernel_rfl) (by simp) (AllReadyIn.cons rfl (fun K hK => ?_) AllReadyIn.nil)
              go_simp
              refine ⟨trivial, rfl, (calls_in HFAR.out).mono ?_⟩
              rintro e w3 ⟨rfl, q, rfl⟩
              refine hK _ _ ?_
              clear hK K
              (try simp only [Act.put, List.setIfInBounds_toArray, List.set_cons_zero, List.set_cons_succ])
              have gy : (((W.drewN m).drew).drewN q).cell? ⟨W0.heap.size, 0, none⟩ = some (.func (.yield lp) #[] #[]) := fy
              refine wpAnyIn_take (i := 6) (v := ?_) rfl rfl (by kernel_rfl) (by kernel_rfl) (by kernel_rfl) (fun _ _ _ h => h) ⟨Or.inl ⟨by rfl, ?_⟩, fun _ => rfl⟩ ?_
              rotate_left 1
              (focus (intro w; go_simp; any_goals with_reducible rfl))
              (try simp only [Act.put, List.setIfInBounds_toArray, List.set_cons_zero, List.set_cons_succ])
              refine wpAnyIn_ready (rs := [7]) (by kernel_rfl) (by simp) (AllReadyIn.cons rfl (fun K hK => ?_) AllReadyIn.nil)
              obtain ⟨fn, tmps, assign, body, hy, hRR⟩ := HYY.out (m + 1 + q) 0
              go_simp
              refine ⟨rfl, hRR.mono ?_⟩
              rintro e w4 ⟨M', hU4, hM4, b, rfl, hcase⟩
              refine hK _ _ ?_
              clear hK K
              (try simp only [Act.put, List.setIfInBounds_toArray, List.set_cons_zero, List.set_cons_succ])
              have HU4 := Lib.hid hU4
              have HM4 := Lib.hid hM4
              have HCS := Lib.hid hcase
              clear hU4 hM4 hcase hRR hy
              refine wpAnyIn_take (i := 8) (v := ?_) rfl rfl (by kernel_rfl) (by kernel_rfl) (by kernel_rfl) (fun _ _ _ h => h) ⟨Or.inl ⟨by rfl, ?_⟩, fun _ => rfl⟩ ?_
              rotate_left 1
              (focus (intro w; go_simp; any_goals with_reducible rfl))
              (try simp only [Act.put, List.setIfInBounds_toArray, List.set_cons_zero, List.set_cons_succ])
              refine wpAnyIn_done (by kernel_rfl) ?_ _
              have hlk : ∀ k, k ∈ lp :: M' → k < w4.heap.size ∧ ((k = lp ∨ k ∈ Mo) ∨ W.heap.size ≤ k) := fun k hk => by
                rcases List.mem_cons.1 hk with rfl | hk
                · exact ⟨Nat.lt_of_lt_of_le (HMM.out k (by simp)) HU4.out.size, .inl (.inl rfl)⟩
                · have := HM4.out k hk; exact ⟨this.1, this.2.elim (fun h => .inl (.inr h)) .inr⟩
              have HLK := Lib.hid hlk
              clear hlk
              cases b with
              | true =>
                have HJ4 : Hid (J (resOf L v pre ++ [⟨x, farAt L x v⟩]) M' w4) := Lib.hid (by rcases HCS.out with ⟨_, h⟩ | ⟨h, _⟩; exact h; exact absurd h (by simp))
                gi_wp2
                refine ⟨(Upd.drewN _ W _).trans HU4.out, lp :: M', HLK.out, M', rfl, ?_, fun k hk => ?_, (A3.out.trans (Upd.drewN _ W _)).trans' HU4.out (fun k hk => ?_)⟩
                · rw [HSN.out]; exact HJ4.out
                · rcases (HM4.out k hk).2 with h | h
                  · exact A2.out k h
                  · have := A3.out.size; exact .inr (Nat.le_trans this h)
                · rcases List.mem_cons.1 hk with h | h
                  · exact .inl (by simp [h])
                  · rcases A2.out k h with h | h
                    · exact .inl (by simp [h])
                    · exact .inr h
              | false =>
                gi_wp2
                refine ⟨(Upd.drewN _ W _).trans HU4.out, lp :: M', HLK.out, M', rfl, _, ⟨resOf L v rest, ?_⟩, (by rcases HCS.out with ⟨h, _⟩ | ⟨_, h⟩; exact absurd h (by simp); exact h)⟩
                rw [List.append_assoc]; exact HRS.out.symm
            · go_simp
              refine ⟨trivial, rfl, (calls_in HFAR.out).mono ?_⟩
              rintro e w3 ⟨rfl, q, rfl⟩
              refine hK _ _ ?_
              clear hK K
              (try simp only [Act.put, List.setIfInBounds_toArray, List.set_cons_zero, List.set_cons_succ])
              have gy : (((W.drewN m).drew).drewN q).cell? ⟨W0.heap.size, 0, none⟩ = some (.func (.yield lp) #[] #[]) := fy
              refine wpAnyIn_take (i := 6) (v := ?_) rfl rfl (by kernel_rfl) (by kernel_rfl) (by kernel_rfl) (fun _ _ _ h => h) ⟨Or.inl ⟨by rfl, ?_⟩, fun _ => rfl⟩ ?_
              rotate_left 1
              (focus (intro w; go_simp; any_goals with_reducible rfl))
              (try simp only [Act.put, List.setIfInBounds_toArray, List.set_cons_zero, List.set_cons_succ])
              refine wpAnyIn_ready (rs := [0]) (by kernel_rfl) (by simp) (AllReadyIn.cons rfl (fun K hK => ?_) AllReadyIn.nil)
              go_simp
              refine hK _ _ ?_
              clear hK K
              (try simp only [Act.put, List.setIfInBounds_toArray, List.set_cons_zero, List.set_cons_succ])
              refine wpAnyIn_ready (rs := [7]) (by kernel_rfl) (by simp) (AllReadyIn.cons rfl (fun K hK => ?_) AllReadyIn.nil)
              obtain ⟨fn, tmps, assign, body, hy, hRR⟩ := HYY.out (m + 1 + q) 0
              go_simp
              refine ⟨rfl, hRR.mono ?_⟩
              rintro e w4 ⟨M', hU4, hM4, b, rfl, hcase⟩
              refine hK _ _ ?_
              clear hK K
              (try simp only [Act.put, List.setIfInBounds_toArray, List.set_cons_zero, List.set_cons_succ])
              have HU4 := Lib.hid hU4
              have HM4 := Lib.hid hM4
              have HCS := Lib.hid hcase
              clear hU4 hM4 hcase hRR hy
              refine wpAnyIn_take (i := 8) (v := ?_) rfl rfl (by kernel_rfl) (by kernel_rfl) (by kernel_rfl) (fun _ _ _ h => h) ⟨Or.inl ⟨by rfl, ?_⟩, fun _ => rfl⟩ ?_
              rotate_left 1
              (focus (intro w; go_simp; any_goals with_reducible rfl))
              (try simp only [Act.put, List.setIfInBounds_toArray, List.set_cons_zero, List.set_cons_succ])
              refine wpAnyIn_done (by kernel_rfl) ?_ _
              have hlk : ∀ k, k ∈ lp :: M' → k < w4.heap.size ∧ ((k = lp ∨ k ∈ Mo) ∨ W.heap.size ≤ k) := fun k hk => by
                rcases List.mem_cons.1 hk with rfl | hk
                · exact ⟨Nat.lt_of_lt_of_le (HMM.out k (by simp)) HU4.out.size, .inl (.inl rfl)⟩
                · have := HM4.out k hk; exact ⟨this.1, this.2.elim (fun h => .inl (.inr h)) .inr⟩
              have HLK := Lib.hid hlk
              clear hlk
              cases b with
              | true =>
                have HJ4 : Hid (J (resOf L v pre ++ [⟨x, farAt L x v⟩]) M' w4) := Lib.hid (by rcases HCS.out with ⟨_, h⟩ | ⟨h, _⟩; exact h; exact absurd h (by simp))
                gi_wp2
                refine ⟨(Upd.drewN _ W _).trans HU4.out, lp :: M', HLK.out, M', rfl, ?_, fun k hk => ?_, (A3.out.trans (Upd.drewN _ W _)).trans' HU4.out (fun k hk => ?_)⟩
                · rw [HSN.out]; exact HJ4.out
                · rcases (HM4.out k hk).2 with h | h
                  · exact A2.out k h
                  · have := A3.out.size; exact .inr (Nat.le_trans this h)
                · rcases List.mem_cons.1 hk with h | h
                  · exact .inl (by simp [h])
                  · rcases A2.out k h with h | h
                    · exact .inl (by simp [h])
                    · exact .inr h
              | false =>
                gi_wp2
                refine ⟨(Upd.drewN _ W _).trans HU4.out, lp :: M', HLK.out, M', rfl, _, ⟨resOf L v rest, ?_⟩, (by rcases HCS.out with ⟨h, _⟩ | ⟨_, h⟩; exact absurd h (by simp); exact h)⟩
                rw [List.append_assoc]; exact HRS.out.symm
        -- END REGION
  · rintro M W ⟨Mo, rfl, a1, a2, a3⟩ hD hK
    go_wp2_with fail
    exact end_marks0 hK (results_none rfl _ _ _) ⟨⟨_, rfl⟩, Mo, .inl (HJ.out _ _ _ _ [W1.heap.size] (fun k hk => ⟨by have := HZ1.out; simp at hk; omega, fun h => by simp at hk; subst hk; exact hD (by simp [h])⟩) a1 (Upd.putOne _))⟩
  · rintro c pre M W hpre ⟨rfl, Mo, pre', rfl, hp, hj⟩ hD hK
    go_wp2_with fail
    exact end_marks hK (results_none rfl _ _ _) ⟨⟨_, rfl⟩, Mo, .inr ⟨pre', hp, HJX.out _ _ _ _ [W1.heap.size] (fun k hk => ⟨by have := HZ1.out; simp at hk; omega, fun h => by simp at hk; subst hk; exact hD (by simp [h])⟩) hj (Upd.putOne _)⟩⟩

theorem each_calls (p : Nat) (dim : Int) (L : List (List Int)) (v : List Int) (vv : Value) (ids : List Int) (gf : FuncId) (lb : Array Value) (w : World) (N : List Nat) (hN : ∀ k, k ∈ N → k < w.heap.size) (hp : p ∉ N)
    (eg : ∀ args w, (callFunc gf args).run Try.prog w = .ok (.enter gf args) w)
    (hI : Its w N p dim L) (hvv : (Kd.int .i32).slice.At N w [vv] v) (hit : ItFrom Try.prog w N gf lb ids valId) :
    Calls Try.prog 18 #[.pointer (some ⟨p, 0, none⟩), vv, .func (.func gf) #[] lb] w fun e w' => ∃ bi bx bv, e = .returned (.func (.func 35) #[] #[.pointer (some ⟨bi, 0, none⟩), .pointer (some ⟨bx, 0, none⟩), .pointer (some ⟨bv, 0, none⟩)]) ∧ Below w.heap.size w w' ∧
      ItFromS Try.prog w' N 35 #[.pointer (some ⟨bi, 0, none⟩), .pointer (some ⟨bx, 0, none⟩), .pointer (some ⟨bv, 0, none⟩)] (resOf L v ids) valRs := by
  obtain ⟨av, cv, rfl, _, _⟩ := Kd.slice_form hvv
  obtain ⟨W1, hW1⟩ : ∃ W1, w.alloc (.cells #[.pointer (some ⟨p, 0, none⟩)] 26) = W1 := ⟨_, rfl⟩
  obtain ⟨W2, hW2⟩ : ∃ W2, W1.alloc (.cells #[.slice av v.length cv] 23) = W2 := ⟨_, rfl⟩
  obtain ⟨W3, hW3⟩ : ∃ W3, W2.alloc (.cells #[.func (.func gf) #[] lb] 47) = W3 := ⟨_, rfl⟩
  have u1 : Upd [] w W1 := by rw [← hW1]; exact Upd.alloc [] w _
  have u2 : Upd [] W1 W2 := by rw [← hW2]; exact Upd.alloc [] W1 _
  have u3 : Upd [] W2 W3 := by rw [← hW3]; exact Upd.alloc [] W2 _
  have z1 : W1.heap.size = w.heap.size + 1 := by rw [← hW1]; simp
  have z2 : W2.heap.size = w.heap.size + 1 + 1 := by rw [← hW2]; simp [z1]
  have bx : W3.heap[w.heap.size]? = some (.cells #[.pointer (some ⟨p, 0, none⟩)] 26) := upd_far (u2.trans u3) (by rw [← hW1]; exact Go.heap_alloc_new w _) (by simp)
  have bv : W3.heap[w.heap.size + 1]? = some (.cells #[.slice av v.length cv] 23) := upd_far u3 (by rw [← hW2, ← z1]; exact Go.heap_alloc_new W1 _) (by simp)
  have bi : W3.heap[w.heap.size + 1 + 1]? = some (.cells #[.func (.func gf) #[] lb] 47) := by rw [← hW3, ← z2]; exact Go.heap_alloc_new W2 _
  have u : Upd [] w W3 := (u1.trans u2).trans u3
  have hfr : ∀ k, w.heap.size ≤ k → k ∉ N := fun k hk h => by have := hN k h; omega
  have HIT := Lib.hid (each_it w.heap.size (w.heap.size + 1) (w.heap.size + 1 + 1) p dim L v _ ids gf lb _ _ _ W3 N bx bv bi ⟨hfr _ (by omega), hfr _ (by omega), hfr _ (by omega), hp⟩ eg (hI.upd u (by simp) (by simp) (fun k hk => .inl hk)) (hvv.upd u (by simp) (fun k hk => .inl hk)) (fun W l M hu hl hM => hit W l M ((u.mono (by simp)).trans hu) (Nat.le_trans u.size hl) (fun k hk => by
    rcases hM k hk with h | h
    · exact .inl h
    · exact .inr (Nat.le_trans u.size h))))
  have HB := Lib.hid u.below
  clear u1 u2 u3 bx bv bi u hfr hI hvv hit hN hp eg
  subst hW3 hW2 hW1
  go_enter Try.func18, Try.ntmps18
  go_wp2_with fail
  go_ret
  exact ⟨_, _, _, rfl, HB.out, HIT.out⟩

end Go.Proofs.Ytglghgjbnoldaaa
