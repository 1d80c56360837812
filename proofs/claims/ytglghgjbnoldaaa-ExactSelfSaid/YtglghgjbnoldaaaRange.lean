/-
Ranges over functions: a rule for the statement, in words of which blocks the loop's body owns; what an iterator promises. No program stands in this text.
-/
import Derived.Test.YtglghgjbnoldaaaKd
import Derived.RangeFuncNested
import Derived.RangeFuncBound
import Derived.RangeFuncCalls
import Derived.RangeFuncLeaves
import Derived.OwnWalkIn
import Derived.TacticsInMore
import Derived.LoopNIn
import Derived.LoopIn
namespace Go.Proofs.Ytglghgjbnoldaaa
set_option linter.unusedVariables false
set_option linter.unusedSimpArgs false
open Go.RowKit

theorem roundIn_any {n m : Nat} {P : Program} {l : Nat} {f : FuncId} {tmps : Array Value} {assign body : Code} {w : World} {R : Ending → World → Prop} (h : RoundIn Fence.wide n P l f tmps assign body w R) : RoundIn Fence.wide m P l f tmps assign body w R :=
  ⟨trivial, fun c cs _ => h.2 c cs (room_wide _)⟩
theorem callsIn_any {n m : Nat} {P : Program} {f : FuncId} {args : Array Value} {w : World} {R : Ending → World → Prop} (h : CallsIn Fence.wide n P f args w R) : CallsIn Fence.wide m P f args w R :=
  callsIn_wide.2 (callsIn_wide.1 h)
theorem calls_in {n : Nat} {P : Program} {f : FuncId} {args : Array Value} {w : World} {R : Ending → World → Prop} (h : Calls P f args w R) : CallsIn Fence.wide n P f args w R := callsIn_wide.2 h
theorem calls_round {n l : Nat} {P : Program} {f : FuncId} {args : Array Value} {w : World} {R : Ending → World → Prop} (h : Calls P f args w R) : CallsIn (Fence.wide.inRound l) n P f args w R := callsIn_wide.2 h

/-- A function's contract out of its body, where the body holds a range over a function. -/
theorem calls_of_wp_marks {P : Program} {f : FuncId} {fn : Func} {c : Code} {args : Array Value} {w : World} {R : Ending → World → Prop}
    (hf : P.funcs[f]? = some fn) (hb : fn.body = some c)
    (h : c.wp P (bodyPostM Fence.wide 0 P fn R) { tmps := args ++ Array.replicate (fn.ntmps - args.size) undef, defers := [] } w) : Calls P f args w R :=
  callsIn_wide.1 (callsIn_of_wp_marks (n := 0) hf hb trivial (wpIn_wide.2 h) rfl)

/-- Of a call of yield: whatever the depth. -/
def Yields (P : Program) (l : Nat) (args : Array Value) (W : World) (R : Ending → World → Prop) : Prop := ∀ n, YieldAt Fence.wide n P l args W R

/-- What an iterator promises whoever ranges over it: it tells xs, one behind the other, each as val has it, as long as the rounds let it; J is the ranging party's own: it is handed on from round to round, M names the blocks that are that party's to turn, l is its loop's record. -/
def Iter {α : Type} (P : Program) (gf : FuncId) (lb : Array Value) (l : Nat) (W0 : World) (M : List Nat) (xs : List α) (val : World → List Nat → α → Array Value → Prop) : Prop :=
  ∀ (J Jx : List α → List Nat → World → Prop),
    (∀ pre M W W' S, (∀ k, k ∈ S → W0.heap.size ≤ k ∧ k ∉ M) → J pre M W → Upd S W W' → J pre M W') →
    (∀ pre x rest M W args, xs = pre ++ x :: rest → J pre M W → val W (l :: M) x args → (∀ k, k ∈ M → k < W.heap.size) → Yields P l args W fun e W' =>
      ∃ M', Upd (l :: M) W W' ∧ (∀ k, k ∈ M' → k < W'.heap.size ∧ (k ∈ M ∨ W.heap.size ≤ k)) ∧ ((e = .returned (.bool true) ∧ J (pre ++ [x]) M' W') ∨ (e = .returned (.bool false) ∧ Jx (pre ++ [x]) M' W'))) →
    l < W0.heap.size → (∀ k, k ∈ M → k < W0.heap.size) → J [] M W0 →
    CallsIn Fence.wide 0 P gf (#[.func (.yield l) #[] #[]] ++ lb) W0 fun e W' => (∃ v, e = .returned v) ∧ ∃ M', (J xs M' W' ∨ ∃ pre, pre <+: xs ∧ Jx pre M' W')

/-- A function value that iterates, made at w: whoever ranges over it later, whatever of M and of his own that came later he turns. -/
def ItFrom {α : Type} (P : Program) (w : World) (M0 : List Nat) (gf : FuncId) (lb : Array Value) (xs : List α) (val : World → List Nat → α → Array Value → Prop) : Prop :=
  ∀ (W : World) (l : Nat) (M : List Nat), Upd M0 w W → w.heap.size ≤ l → (∀ k, k ∈ M → k ∈ M0 ∨ w.heap.size ≤ k) → Iter P gf lb l W M xs val

theorem upd_far {S : List Nat} {a b : World} (h : Upd S a b) {k : Nat} {o : Obj} (hk : a.heap[k]? = some o) (hn : k ∉ S) : b.heap[k]? = some o := (h.block k (block_lt hk) hn).trans hk

theorem enters_it {P : Program} {f : FuncId} {fn : Func} {c : Code} (hf : P.funcs[f]? = some fn) (hname : (fn.name == "runtime.NumGoroutine") = false) (hb : fn.body = some c) : ∀ args w, (callFunc f args).run P w = .ok (.enter f args) w :=
  fun args w => by
    have h1 : fn.name ≠ "runtime.NumGoroutine" := by simpa using hname
    simp [callFunc, hf, h1, hb, mark]

theorem Upd.putOne {w : World} {m : Nat} (o : Obj) : Upd [m] w (w.putObj m o) := Upd.putObj (by simp) o

/-- The statement 'for .. := range g { .. }' outside of other such loops. D = w.heap.size is the block for deferred calls, w.heap.size + 1 the loop's record. -/
theorem wp_range {α : Type} {P : Program} {g : Operand} {ps : Array Tmp} {assign body : Code} {Q : Exit → Act → World → Prop} {a : Act} {w : World} {gf : FuncId} {lb : Array Value} {xs : List α} {val : World → List Nat → α → Array Value → Prop} (M0 : List Nat)
    (hg : a.eval g = .func (.func gf) #[] lb) (eg : ∀ args w, (callFunc gf args).run P w = .ok (.enter gf args) w)
    (hit : ∀ W, Upd [] w W → W.heap.size = w.heap.size + 2 → Iter P gf lb (w.heap.size + 1) W M0 xs val)
    (I : List α → List Nat → World → Prop) (Ix : Code → List α → List Nat → World → Prop)
    (hI : ∀ pre M W W' S, (∀ k, k ∈ S → w.heap.size ≤ k ∧ k ∉ M) → I pre M W → Upd S W W' → I pre M W')
    (hIx : ∀ c pre M W W' S, (∀ k, k ∈ S → w.heap.size ≤ k ∧ k ∉ M) → Ix c pre M W → Upd S W W' → Ix c pre M W')
    (hv : ∀ M W W' x args, val W ((w.heap.size + 1) :: M) x args → Upd [w.heap.size + 1] W W' → val W' ((w.heap.size + 1) :: M) x args)
    (hps : ∀ W M x args, val W M x args → args.size = ps.size)
    (h0 : I [] M0 w) (hM0 : ∀ k, k ∈ M0 → k < w.heap.size)
    (hround : ∀ l pre x rest M W0 W args, xs = pre ++ x :: rest → I pre M W → val W (l :: M) x args → args.size = ps.size → l < W.heap.size → w.heap.size ≤ l → l ∉ M → (∀ k, k ∈ M → k < W.heap.size) →
      assign.wpIn (Fence.wide.inRound l) 0 P (Exit.then (fun a' W' => W' = W0 ∧ body.wpIn (Fence.wide.inRound l) 0 P (fun e _ W' => ∃ M', Upd M W W' ∧ (∀ k, k ∈ M' → k < W'.heap.size ∧ (k ∈ M ∨ W.heap.size ≤ k)) ∧
        (match e with
         | .normal => I (pre ++ [x]) M' W'
         | .ret => Ix .ret (pre ++ [x]) M' W'
         | .exit id => Ix (.exit id) (pre ++ [x]) M' W'
         | .goto t => Ix (.goto t) (pre ++ [x]) M' W'
         | _ => False)) a' W) (fun _ _ _ => False)) { tmps := (ps.zip args).foldl (fun tmps (t, a) => tmps.setIfInBounds t a) a.tmps, defers := [] } W0)
    (hdone : ∀ M W, I xs M W → w.heap.size ∉ M → W.heap[w.heap.size]? = some (.deferred (some [])) → Q .normal { a with defers := { target := .collected w.heap.size, args := #[] } :: a.defers } W)
    (hstop : ∀ c pre M W, pre <+: xs → Ix c pre M W → w.heap.size ∉ M → W.heap[w.heap.size]? = some (.deferred (some [])) → c.wp P Q { a with defers := { target := .collected w.heap.size, args := #[] } :: a.defers } W) :
    (Code.rangeFunc g ps assign body).wp P Q a w := by
  refine (wpIn_wide (n := 0)).1 ?_
  refine wpIn_rangeFunc fun fn _ => ?_
  obtain ⟨rec, hrec⟩ : ∃ rec : LoopState → Option Code → Loop, rec = fun st pe => { state := st, pending := pe, fn, tmps := a.tmps, params := ps, assign, body, defers := w.heap.size } := ⟨_, rfl⟩
  obtain ⟨W1, hW1⟩ : ∃ W1, (w.alloc (.deferred (some []))).alloc (.loop (rec .ready none)) = W1 := ⟨_, rfl⟩
  have hsz : W1.heap.size = w.heap.size + 2 := by rw [← hW1]; simp
  have hu : Upd [] w W1 := by rw [← hW1]; exact (Upd.alloc [] w _).trans (Upd.alloc [] _ _)
  have hL1 : W1.heap[w.heap.size + 1]? = some (.loop (rec .ready none)) := by
    rw [← hW1]; have := World.alloc_heap_new (w.alloc (.deferred (some []))) (.loop (rec .ready none)); rwa [World.size_alloc] at this
  have hK1 : W1.heap[w.heap.size]? = some (.deferred (some [])) := by
    rw [← hW1]; exact (Below.heap_alloc _ _ _ (by simp)).trans (World.alloc_heap_new w _)
  have hI1 : I [] M0 W1 := hI [] M0 w W1 [] (by simp) h0 hu
  refine ⟨w.heap.size + 1, [{ target := .collected w.heap.size, args := #[] }], W1, { target := .fn (.func gf) lb, args := #[.func (.yield (w.heap.size + 1)) #[] #[]] }, W1, gf,
    #[.func (.yield (w.heap.size + 1)) #[] #[]] ++ lb, W1, ?_, ?_, fun _ _ => trivial, ?_, by simp [Fence.wide], ?_⟩
  · rw [← hW1, hrec]; exact run_enterLoop_outer _ _ _ _ _
  · simp only [resolve, hg]
    simp [go_sem]
  · simp [invoke, go_sem, eg]
  refine (hit W1 hu hsz
    (fun pre M W => I pre M W ∧ W.heap[w.heap.size + 1]? = some (.loop (rec .ready none)) ∧ W.heap[w.heap.size]? = some (.deferred (some [])) ∧ w.heap.size ∉ M ∧ w.heap.size + 1 ∉ M)
    (fun pre M W => ∃ c, Ix c pre M W ∧ W.heap[w.heap.size + 1]? = some (.loop (rec .done (some c))) ∧ W.heap[w.heap.size]? = some (.deferred (some [])) ∧ w.heap.size ∉ M ∧ w.heap.size + 1 ∉ M)
    ?_ ?_ (by omega) (fun k hk => by have := hM0 k hk; omega) ⟨hI1, hL1, hK1, fun h => by have := hM0 _ h; omega, fun h => by have := hM0 _ h; omega⟩).mono ?_
  · rintro pre M W W' S hS ⟨a1, a2, a3, a4, a5⟩ hU
    refine ⟨hI pre M W W' S (fun k hk => ⟨by have := (hS k hk).1; omega, (hS k hk).2⟩) a1 hU, upd_far hU a2 (fun h => by have := (hS _ h).1; omega), upd_far hU a3 (fun h => by have := (hS _ h).1; omega), a4, a5⟩
  · rintro pre x rest M W args hxs ⟨a1, a2, a3, a4, a5⟩ hval hM n
    have hlt := block_lt a2
    have hlt0 := block_lt a3
    have hy := run_yield (P := P) (args := args) a2 (by rw [hrec]; exact hps _ _ _ _ hval)
    rw [hrec] at hy
    have hbeg := run_beginRound (P := P) a2 (by rw [hrec])
    have u1 : Upd [w.heap.size + 1] W (W.putObj (w.heap.size + 1) (.loop { rec .ready none with state := .busy })) := Upd.putOne _
    have hl2 : (W.putObj (w.heap.size + 1) (.loop { rec .ready none with state := .busy })).heap[w.heap.size + 1]? = some (.loop { rec .ready none with state := .busy }) := World.putObj_heap_same hlt
    have hk2 : (W.putObj (w.heap.size + 1) (.loop { rec .ready none with state := .busy })).heap[w.heap.size]? = some (.deferred (some [])) := (World.putObj_heap_other (by omega)).trans a3
    have hi2 : I pre M (W.putObj (w.heap.size + 1) (.loop { rec .ready none with state := .busy })) := hI pre M W _ [w.heap.size + 1] (by simp; exact a5) a1 u1
    have hv2 := hv M W _ x args hval u1
    have hz2 : (W.putObj (w.heap.size + 1) (.loop { rec .ready none with state := .busy })).heap.size = W.heap.size := by simp
    generalize W.putObj (w.heap.size + 1) (.loop { rec .ready none with state := .busy }) = W2 at u1 hl2 hk2 hi2 hv2 hz2 hbeg
    refine ⟨fn, _, assign, body, hy, roundIn_any (n := 0) (roundIn_of_wpIn trivial (wpIn_mono (hround (w.heap.size + 1) pre x rest M W W2 args hxs hi2 hv2 (hps _ _ _ _ hval) (by omega) (by omega) a5 (fun k hk => by rw [hz2]; exact hM k hk)) ?_))⟩
    intro e0 a0 Wq h0'
    cases e0 with
    | normal => ?_
    | _ => first | exact h0' | exact h0'.elim
    obtain ⟨hq0, h0'⟩ := h0'
    have hq : W = Wq := hq0.symm
    subst hq
    refine ⟨_, hbeg, ?_⟩
    refine wpIn_mono h0' ?_
    have fin : ∀ (jump : Option Code) (W3 : World) (M' : List Nat), Upd M W2 W3 → (∀ k, k ∈ M' → k < W3.heap.size ∧ (k ∈ M ∨ W2.heap.size ≤ k)) →
        (Instr.endRound (w.heap.size + 1) jump).run P W3 = .ok (.bool jump.isNone) (W3.putObj (w.heap.size + 1) (.loop (rec (if jump.isNone then .ready else .done) jump))) ∧
        (W3.putObj (w.heap.size + 1) (.loop (rec (if jump.isNone then .ready else .done) jump))).heap[w.heap.size + 1]? = some (.loop (rec (if jump.isNone then .ready else .done) jump)) ∧
        (W3.putObj (w.heap.size + 1) (.loop (rec (if jump.isNone then .ready else .done) jump))).heap[w.heap.size]? = some (.deferred (some [])) ∧ w.heap.size ∉ M' ∧ w.heap.size + 1 ∉ M' ∧
        Upd ((w.heap.size + 1) :: M) W (W3.putObj (w.heap.size + 1) (.loop (rec (if jump.isNone then .ready else .done) jump))) ∧
        (∀ k, k ∈ M' → k < (W3.putObj (w.heap.size + 1) (.loop (rec (if jump.isNone then .ready else .done) jump))).heap.size ∧ (k ∈ M ∨ W.heap.size ≤ k)) ∧
        Upd [w.heap.size + 1] W3 (W3.putObj (w.heap.size + 1) (.loop (rec (if jump.isNone then .ready else .done) jump))) := fun jump W3 M' hU hM' => by
      have hl3 := upd_far hU hl2 a5
      have hk3 := upd_far hU hk2 a4
      have := run_endRound (P := P) jump hl3
      rw [hrec] at this ⊢
      refine ⟨this, World.putObj_heap_same (block_lt hl3), (World.putObj_heap_other (by omega)).trans hk3, ?_, ?_, ?_, ?_, Upd.putOne _⟩
      · intro h; rcases (hM' _ h).2 with h | h
        · exact a4 h
        · omega
      · intro h; rcases (hM' _ h).2 with h | h
        · exact a5 h
        · omega
      · exact ((u1.mono (by simp)).trans (hU.mono (fun k hk _ => by simp [hk]))).trans (Upd.putObj (by simp) _)
      · intro k hk
        have := hM' k hk
        rw [hz2] at this
        simpa using this
    rintro e a3' W3 ⟨M', hU, hM', hp⟩
    cases e with
    | normal =>
      obtain ⟨f1, f2, f3, f4, f5, f6, f7, f8⟩ := fin none W3 M' hU hM'
      exact ⟨_, _, f1, M', f6, f7, .inl ⟨rfl, hI _ M' W3 _ [w.heap.size + 1] (by simp; exact f5) hp f8, f2, f3, f4, f5⟩⟩
    | ret =>
      obtain ⟨f1, f2, f3, f4, f5, f6, f7, f8⟩ := fin (some .ret) W3 M' hU hM'
      exact ⟨_, _, f1, M', f6, f7, .inr ⟨rfl, .ret, hIx _ _ M' W3 _ [w.heap.size + 1] (by simp; exact f5) hp f8, f2, f3, f4, f5⟩⟩
    | exit id =>
      obtain ⟨f1, f2, f3, f4, f5, f6, f7, f8⟩ := fin (some (.exit id)) W3 M' hU hM'
      exact ⟨_, _, f1, M', f6, f7, .inr ⟨rfl, .exit id, hIx _ _ M' W3 _ [w.heap.size + 1] (by simp; exact f5) hp f8, f2, f3, f4, f5⟩⟩
    | goto t =>
      obtain ⟨f1, f2, f3, f4, f5, f6, f7, f8⟩ := fin (some (.goto t)) W3 M' hU hM'
      exact ⟨_, _, f1, M', f6, f7, .inr ⟨rfl, .goto t, hIx _ _ M' W3 _ [w.heap.size + 1] (by simp; exact f5) hp f8, f2, f3, f4, f5⟩⟩
    | panic ch => exact hp.elim
    | outgrown => exact hp.elim
  · rintro e W3 ⟨⟨v, rfl⟩, M', ⟨a1, a2, a3, a4, a5⟩ | ⟨pre, hpre, c, a1, a2, a3, a4, a5⟩⟩
    · have h4 := run_endLoop (P := P) a2 (by rw [hrec]; simp)
      rw [hrec] at h4
      refine ⟨none, _, h4, ?_⟩
      refine hdone M' _ (hI xs M' W3 _ [w.heap.size + 1] (by simp; exact a5) a1 (Upd.putOne _)) a4 ((World.putObj_heap_other (by omega)).trans a3)
    · have h4 := run_endLoop (P := P) a2 (by rw [hrec]; simp)
      rw [hrec] at h4
      refine ⟨some c, _, h4, ?_⟩
      refine wpIn_wide.2 (hstop c pre M' _ hpre (hIx c pre M' W3 _ [w.heap.size + 1] (by simp; exact a5) a1 (Upd.putOne _)) a4 ((World.putObj_heap_other (by omega)).trans a3))

theorem results_cellb {fn : Func} {p : Tmp} {ty : TypeId} {P : Program} (h : fn.results = #[.cell p ty]) (hu : P.underlying ty = some .bool) (tmps : Array Value) (w : World) {a : Addr} {v : Value} (hp : tmps.getD p undef = .pointer (some a)) (hc : w.cell? a = some v) :
    (results fn tmps).run P w = .ok v w := by
  have hp' : tmps[p]?.getD undef = .pointer (some a) := by simpa using hp
  simp [results, h, hp', asAddr, loadVar, isAgg, run_underlying hu, hc, Sem.run_bind, Result.andThen]

/-- The end of a function in which one range over a function stood. -/
theorem end_marks {P : Program} {fn : Func} {R : Ending → World → Prop} {tmps : Array Value} {D : Nat} {args : Array Value} {w : World} {v : Value} (hK : w.heap[D]? = some (.deferred (some [])))
    (hr : (results fn tmps).run P (w.putObj D (.deferred none)) = .ok v (w.putObj D (.deferred none))) (hR : R (.returned v) (w.putObj D (.deferred none))) :
    bodyPostM Fence.wide 0 P fn R .ret { tmps := tmps, defers := [{ target := .collected D, args := args }] } w :=
  ⟨by simp, .inl ⟨_, _, rfl, run_takeDeferred hK, v, hr, hR⟩⟩
theorem end_marks0 {P : Program} {fn : Func} {R : Ending → World → Prop} {tmps : Array Value} {D : Nat} {args : Array Value} {w : World} {v : Value} (hK : w.heap[D]? = some (.deferred (some [])))
    (hr : (results fn tmps).run P (w.putObj D (.deferred none)) = .ok v (w.putObj D (.deferred none))) (hR : R (.returned v) (w.putObj D (.deferred none))) :
    bodyPostM Fence.wide 0 P fn R .normal { tmps := tmps, defers := [{ target := .collected D, args := args }] } w :=
  ⟨by simp, .inl ⟨_, _, rfl, run_takeDeferred hK, v, hr, hR⟩⟩

end Go.Proofs.Ytglghgjbnoldaaa
