/-
Results of several cells.
-/
import Derived.Test.YtglghgjbnoldaaaMem
namespace Go.Proofs.Ytglghgjbnoldaaa
set_option linter.unusedVariables false
set_option linter.unusedSimpArgs false
open Go.RowKit

/-- Two results: one of several cells, and a plain one. -/
theorem results_aggtmp {fn : Func} {p q : Tmp} {ty : TypeId} {P : Program} (h : fn.results = #[.cell p ty, .tmp q]) {n : Nat} (ha : ∀ w, (isAgg ty).run P w = .ok true w) (hs : ∀ w, (sizeOf ty).run P w = .ok n w) (tmps : Array Value) (w : World) {b : Nat} {cs : Array Value} {t : TypeId} {f : Nat × Nat}
    (hp : tmps.getD p undef = .pointer (some ⟨b, 0, none⟩)) (hb : w.heap[b]? = some (.cells cs t f)) (hn : cs.size = n) {v : Value} (hv : tmps.getD q undef = v) : (results fn tmps).run P w = .ok (.tuple #[.agg cs, v]) w := by
  subst hv
  have hp' : tmps[p]?.getD undef = .pointer (some ⟨b, 0, none⟩) := by simpa using hp
  have hl := run_loadCells_list (P := P) w ⟨b, 0, none⟩ cs.toList (fun j v hj => by
    have e : (⟨b, 0, none⟩ : Addr).add j = ⟨b, j, none⟩ := by unfold Addr.add; split <;> simp_all
    rw [e, cell_of_block hb]
    simpa using hj)
  rw [Array.length_toList, hn] at hl
  simp [results, h, hp', asAddr, loadVar, ha, hs, hl, Sem.run_bind, Result.andThen]
theorem int64_wf {x : Int} (h1 : -9223372036854775808 ≤ x) (h2 : x ≤ 9223372036854775807) : (Lit.int .i64 x).wf = true := by
  have e1 : IntKind.i64.min = -9223372036854775808 := by decide
  have e2 : IntKind.i64.max = 9223372036854775807 := by decide
  show (decide (IntKind.i64.min ≤ x) && decide (x ≤ IntKind.i64.max)) = true
  rw [e1, e2]
  simp only [Bool.and_eq_true, decide_eq_true_eq]
  exact ⟨h1, h2⟩
end Go.Proofs.Ytglghgjbnoldaaa
