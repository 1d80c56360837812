/-
Forests as arguments.
-/
import Derived.Test.YtiplifkbegmeiaaOpenNd
import Derived.Test.YtiplifkbegmeiaaFo2
namespace Go.Proofs.Ytiplifkbegmeiaa
set_option linter.unusedVariables false
set_option linter.unusedSimpArgs false
open Go.RowKit

def kFo : Kd Fo where
  sz := 5
  rep F w cs x := ∃ vL vT, cs = [.int .i64 x.dim, .int .i64 x.leaf, .int .i64 x.depth, vL, vT] ∧ (Kd.int .i32).slice.slice.rep F w [vL] x.L ∧ kNd.slice.slice.rep F w [vT] x.T ∧
    (Lit.int .i64 x.dim).wf = true ∧ (Lit.int .i64 x.leaf).wf = true ∧ (Lit.int .i64 x.depth).wf = true
  len h := by obtain ⟨vL, vT, rfl, _⟩ := h; rfl
  one h := by
    obtain ⟨vL, vT, rfl, h1, h2, _⟩ := h
    intro v hv
    simp at hv
    rcases hv with rfl | rfl | rfl | rfl | rfl
    · rfl
    · rfl
    · rfl
    · exact (Kd.int .i32).slice.slice.one h1 _ (by simp)
    · exact kNd.slice.slice.one h2 _ (by simp)
  mono h hF hw := by
    obtain ⟨vL, vT, h0, h1, h2, h3⟩ := h
    exact ⟨vL, vT, h0, Kd.mono _ h1 hF hw, Kd.mono _ h2 hF hw, h3⟩

theorem opensS_fo : kFo.OpensS Try.prog 25 Fo.small := by
  have oi := opensS_of (opens_int (P := Try.prog) Try.underlying3 (by kernel_rfl))
  have oL1 := opensS_slice (P := Try.prog) Try.underlying26 (by kernel_rfl) (opensS_of (opens_int (P := Try.prog) Try.underlying21 (by kernel_rfl))) (by decide)
  have oL := opensS_slice (P := Try.prog) Try.underlying22 (by kernel_rfl) oL1 (by decide)
  have oT := opensS_slice (P := Try.prog) Try.underlying23 (by kernel_rfl) opensS_nds (by decide)
  have hc : Try.prog.cellsOf 25 = 5 := by kernel_rfl
  refine ⟨hc, fun {H enc W fuel cs x} h => ?_⟩
  obtain ⟨xs, n, _, hx, hl, hxs, hf⟩ := DataW.trod_struct Try.underlying25 h
  rw [hc] at hl
  have hxs : xs.length = 5 := hxs
  match xs, hxs with
  | [x0, x1, x2, x3, x4], _ =>
    obtain ⟨y0, h0, _⟩ := field_openS oi (hf 0 _ rfl) rfl
    obtain ⟨y1, h1, _⟩ := field_openS oi (hf 1 _ rfl) rfl
    obtain ⟨y2, h2, _⟩ := field_openS oi (hf 2 _ rfl) rfl
    obtain ⟨y3, h3, s3⟩ := field_openS oL (hf 3 _ rfl) rfl
    obtain ⟨y4, h4, s4⟩ := field_openS oT (hf 4 _ rfl) rfl
    clear hf h
    match cs, hl with
    | [c0, c1, c2, c3, c4], _ =>
      obtain ⟨e0, g0⟩ := at_int h0
      obtain ⟨e1, g1⟩ := at_int h1
      obtain ⟨e2, g2⟩ := at_int h2
      have h3' : (Kd.int .i32).slice.slice.At [] W [c3] y3 := by simpa [Kd.slice] using h3
      have h4' : kNd.slice.slice.At [] W [c4] y4 := by simpa [Kd.slice] using h4
      simp [Kd.int] at e0 e1 e2
      subst e0 e1 e2
      refine ⟨⟨y0, y1, y2, y3, y4⟩, ⟨⟨_, _, rfl, h3'.out, h4'.out, g0, g1, g2⟩⟩, fun hw => ?_⟩
      have w3 := s3 (fun n hn => hw n (by rw [hx]; simp only [DataW.weights, Try.underlying25]; simp [DataW.weightsEach]; exact .inr (.inr (.inr (.inl hn)))))
      have w4 := s4 (fun n hn => hw n (by rw [hx]; simp only [DataW.weights, Try.underlying25]; simp [DataW.weightsEach]; exact .inr (.inr (.inr (.inr hn)))))
      refine ⟨fun x hx => ?_, fun t ht => ?_⟩
      · have := (w3.2 x hx).1
        rw [show Try.prog.bytesOf 21 = 4 by kernel_rfl] at this
        exact reach_small (b := 4) (by decide) this
      · have := w4.2 t ht
        refine ⟨reach_small (b := Try.prog.bytesOf 58) (by decide +kernel) this.1, this.2⟩

theorem fo_arr {w : World} {s : Array Value} {x : Fo} (h : kFo.At [] w s.toList x) : ∃ vL vT, s = #[.int .i64 x.dim, .int .i64 x.leaf, .int .i64 x.depth, vL, vT] ∧ FoAt [] w vL vT x := by
  obtain ⟨vL, vT, h0, h1, h2, h3, h4, h5⟩ := h.out
  exact ⟨vL, vT, Array.toList_inj.1 h0, ⟨h1⟩, ⟨h2⟩, h3, h4, h5⟩

end Go.Proofs.Ytiplifkbegmeiaa
