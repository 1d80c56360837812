/-
shape.Walk: each place, and its depth.
-/
import Derived.Test.YteafbhpjjibdeaaIters
import Derived.Sort.QuietTacIn
namespace Go.Proofs.Yteafbhpjjibdeaa
set_option linter.unusedVariables false
set_option linter.unusedSimpArgs false
open Go.RowKit

/-- A kind that says nothing of memory: whoever turns whatever. -/
theorem Row.any {α : Type} {K : Kd α} (hF : ∀ {F F' : Nat → Prop} {w w' : World} {cs : List Value} {x : α}, K.rep F w cs x → K.rep F' w' cs x) {M M' : List Nat} {e : TypeId} {B : Nat} {w : World} {v : Value} {l : List α} (h : Row K M e B w v l) : Row K M' e B w v l := by
  obtain ⟨css, h1, h2, h3⟩ := h.out
  exact ⟨css, h1, h2, fun i cs x a b => ⟨hF (h3 i cs x a b).out⟩⟩
theorem Row.updAny {α : Type} {K : Kd α} (hF : ∀ {F F' : Nat → Prop} {w w' : World} {cs : List Value} {x : α}, K.rep F w cs x → K.rep F' w' cs x) {M M' S : List Nat} {e : TypeId} {B : Nat} {w w' : World} {v : Value} {l : List α} (h : Row K M e B w v l)
    (hu : Upd S w w') (ho : ∀ k, k ∈ ob v → k ∉ S) : Row K M' e B w' v l :=
  Row.upd (M := S ++ M') (Row.any hF h) hu (fun k hk => by simp [hk]) ho (fun k hk => .inl (by simp [hk]))

theorem append_stepIn {F : Fence} {n : Nat} {P : Program} {w : World} {ops : Array Oper} {rest : List Oper} {o : Oper} {a : Act} {Q : Exit → Act → World → Prop} (hgd : o.guard = none) (s x : Operand) (t : TypeId)
    (ho : o.op = .call { callee := .builtin .append, args := #[s, x], argTypes := #[t, t] }) {v u v' : Value} {w' : World} (hs : a.eval s = v) (hx : a.eval x = u)
    (hrun : (Builtin.append_ #[t, t] o.type #[v, u]).run P w = .ok v' w') (h : wpListIn F n P ops Q rest (a.put o.dst v') w') : wpListIn F n P ops Q (o :: rest) a w := by
  refine wpListIn_plain hgd fun K hK => ?_
  unfold Oper.wpIn
  refine ⟨?_, ?_⟩
  · simp [Oper.about, ho, resolve, Target.leads, Sem.run_pure]
  · rw [Oper.semAt_plain F _ _ (by rw [ho]; intro c hc'; cases hc')]
    simp [execOp, ho, resolve, invoke, builtin, hs, hx, hrun, Result.andThen]
    exact hK _ _ h

def popAt (k : Nat) (R : List (Int × Int)) (d : Int) : Int × List (Int × Int) :=
  match R.getLast? with
  | some r => if r.1 = (k : Int) then (r.2, R.dropLast) else (d, R)
  | none => (d, R)
/-- What shape.Walk tells from place k on: rights is what its stack holds. -/
def walkGo : List Nd → Nat → List (Int × Int) → Int → List (Int × Int)
  | [], _, _, _ => []
  | x :: l, k, R, d => ((k : Int), (popAt k R d).1) :: (if x.leaf then walkGo l (k + 1) (popAt k R d).2 (popAt k R d).1 else walkGo l (k + 1) ((popAt k R d).2 ++ [(x.right, (popAt k R d).1 + 1)]) ((popAt k R d).1 + 1))
def walkOf (l : List Nd) : List (Int × Int) := walkGo l 0 [] 0
theorem popAt_nil (k : Nat) (d : Int) : popAt k [] d = (d, []) := rfl
theorem popAt_eq {k : Nat} {R : List (Int × Int)} {r : Int × Int} {d : Int} (h : r.1 = (k : Int)) : popAt k (R ++ [r]) d = (r.2, R) := by simp [popAt, h]
theorem popAt_ne {k : Nat} {R : List (Int × Int)} {r : Int × Int} {d : Int} (h : ¬ r.1 = (k : Int)) : popAt k (R ++ [r]) d = (d, R ++ [r]) := by simp [popAt, h]
theorem walkGo_cons {x : Nd} {l : List Nd} {k : Nat} {R R' : List (Int × Int)} {d d' : Int} (h : popAt k R d = (d', R')) :
    walkGo (x :: l) k R d = ((k : Int), d') :: (if x.leaf then walkGo l (k + 1) R' d' else walkGo l (k + 1) (R' ++ [(x.right, d' + 1)]) (d' + 1)) := by simp [walkGo, h]

structure WInv (R : List (Int × Int)) (d : Int) (k : Nat) : Prop where
  d0 : 0 ≤ d
  dk : d ≤ k
  len : R.length ≤ k
  all : ∀ r ∈ R, 0 ≤ r.2 ∧ r.2 ≤ k
theorem WInv.nil : WInv [] 0 0 := ⟨by omega, by omega, by simp, by simp⟩
theorem WInv.pop {R : List (Int × Int)} {r : Int × Int} {d : Int} {k : Nat} (h : WInv (R ++ [r]) d k) : WInv R r.2 k :=
  ⟨(h.all r (by simp)).1, (h.all r (by simp)).2, by have := h.len; simp at this; omega, fun q hq => h.all q (by simp [hq])⟩
theorem WInv.succ {R : List (Int × Int)} {d : Int} {k : Nat} (h : WInv R d k) : WInv R d (k + 1) :=
  ⟨h.d0, by have := h.dk; omega, by have := h.len; omega, fun q hq => by have := h.all q hq; omega⟩
theorem WInv.push {R : List (Int × Int)} {d a : Int} {k : Nat} (h : WInv R d k) : WInv (R ++ [(a, d + 1)]) (d + 1) (k + 1) :=
  ⟨by have := h.d0; omega, by have := h.dk; omega, by have := h.len; simp; omega, fun q hq => by
    simp only [List.mem_append, List.mem_singleton] at hq
    rcases hq with hq | rfl
    · have := h.all q hq; omega
    · have := h.d0; have := h.dk; simp only; omega⟩

def valPair (W : World) (M : List Nat) (x : Int × Int) (args : Array Value) : Prop := args = #[.int .i64 x.1, .int .i64 x.2]

attribute [local go_sem] Oper.semAt_some

end Go.Proofs.Yteafbhpjjibdeaa
