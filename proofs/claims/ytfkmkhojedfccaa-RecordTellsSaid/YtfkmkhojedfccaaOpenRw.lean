/-
Rows as arguments.
-/
import Derived.Test.YtfkmkhojedfccaaRecApart
import Derived.Test.YtfkmkhojedfccaaOpenNd
namespace Go.Proofs.Ytfkmkhojedfccaa
set_option linter.unusedVariables false
set_option linter.unusedSimpArgs false
open Go.RowKit

def Rw.small (x : Rw) : Prop := x.pl.normal.length ≤ 70368744177664

theorem opensS_rw : kRw.OpensS Try.prog 26 Rw.small := by
  have oi := opensS_of (opens_int (P := Try.prog) Try.underlying3 (by kernel_rfl))
  have ob := opensS_of (opens_bool (P := Try.prog) Try.underlying4 (by kernel_rfl))
  have hc : Try.prog.cellsOf 26 = 6 := by kernel_rfl
  refine ⟨hc, fun {H enc W fuel cs x} h => ?_⟩
  obtain ⟨xs, n, _, hx, hl, hxs, hf⟩ := DataW.trod_struct Try.underlying26 h
  rw [hc] at hl
  have hxs : xs.length = 5 := hxs
  match xs, hxs with
  | [x0, x1, x2, x3, x4], _ =>
    obtain ⟨y0, h0, _⟩ := field_openS ob (hf 0 _ rfl) rfl
    obtain ⟨y1, h1, _⟩ := field_openS oi (hf 1 _ rfl) rfl
    obtain ⟨y2, h2, _⟩ := field_openS oi (hf 2 _ rfl) rfl
    obtain ⟨y3, h3, s3⟩ := field_openS opensS_pl (hf 3 _ rfl) rfl
    obtain ⟨y4, h4, _⟩ := field_openS oi (hf 4 _ rfl) rfl
    clear hf h
    match cs, hl with
    | [c0, c1, c2, c3, c4, c5], _ =>
      have e0 := at_bool h0
      obtain ⟨e1, g1⟩ := at_int h1
      obtain ⟨e2, g2⟩ := at_int h2
      obtain ⟨e4, g4⟩ := at_int h4
      have h3' : kPl.At [] W [c3, c4] y3 := by simpa [kPl] using h3
      obtain ⟨vn, e3, g3, g3'⟩ := pl_at h3'
      simp [Kd.int, Kd.bool] at e0 e1 e2 e4 e3
      obtain ⟨rfl, rfl⟩ := e3
      subst e0 e1 e2 e4
      refine ⟨⟨y0, y1, y2, y3, y4⟩, ⟨⟨_, rfl, g3.out, g1, g2, g3', g4⟩⟩, fun hw => ?_⟩
      have w3 := s3 (fun n hn => hw n (by rw [hx]; simp only [DataW.weights, Try.underlying26]; simp [DataW.weightsEach]; exact .inr (.inr (.inr (.inl hn)))))
      exact reach_small (b := 4) (by decide) w3

theorem rw_arr {w : World} {s : Array Value} {x : Rw} (h : kRw.At [] w s.toList x) : ∃ vn, s = #[.bool x.leaf, .int .i64 x.count, .int .i64 x.place, vn, .int .i64 x.pl.off, .int .i64 x.right] ∧ RwAt [] w vn x := by
  obtain ⟨vn, h1, h2⟩ := rw_open h
  exact ⟨vn, Array.toList_inj.1 h1, h2⟩

end Go.Proofs.Ytfkmkhojedfccaa
