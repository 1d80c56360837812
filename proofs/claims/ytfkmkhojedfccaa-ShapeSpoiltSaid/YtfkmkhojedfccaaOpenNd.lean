/-
How []api.Node of a claim's input reads: with what fits into memory.
-/
import Derived.Test.YtfkmkhojedfccaaShapeLaws
import Derived.SizedLaws
import Derived.Deep.Slices
namespace Go.Proofs.Ytfkmkhojedfccaa
set_option linter.unusedVariables false
set_option linter.unusedSimpArgs false
open Go.RowKit

/-- As Kd.Opens; and what the weights say. -/
structure Kd.OpensS {α : Type} (K : Kd α) (P : Program) (T : TypeId) (small : α → Prop) : Prop where
  cells : P.cellsOf T = K.sz
  open_ : ∀ {H : Type} {enc : TypeId × Value → H} {W : World} {fuel : Nat} {cs : List Value} {x : DataW H × List MemPlace}, DataW.trod enc P W 0 (fun _ => true) true fuel T cs = some x → ∃ y, K.At [] W cs y ∧ ((∀ n ∈ x.1.weights P T, n ≤ reachBytes) → small y)

theorem opensS_of {α : Type} {K : Kd α} {P : Program} {T : TypeId} (h : K.Opens P T) : K.OpensS P T (fun _ => True) :=
  ⟨h.cells, fun hx => by obtain ⟨y, hy⟩ := h.open_ hx; exact ⟨y, hy, fun _ => trivial⟩⟩

theorem weightsAll_mem {H : Type} {P : Program} {e : TypeId} : ∀ {ds : List (DataW H)} {d : DataW H}, d ∈ ds → ∀ n ∈ d.weights P e, n ∈ DataW.weightsAll P e ds
  | d0 :: ds, d, hd, n, hn => by
    simp only [DataW.weightsAll, List.mem_append]
    rcases List.mem_cons.1 hd with rfl | hd
    · exact .inl hn
    · exact .inr (weightsAll_mem hd n hn)

theorem opensS_slice {α : Type} {K : Kd α} {P : Program} {T E : TypeId} {small : α → Prop} (hT : P.underlying T = some (.slice E)) (hc : P.cellsOf T = 1) (hK : K.OpensS P E small) (hz : 0 < K.sz) :
    K.slice.OpensS P T (fun l => l.length * P.bytesOf E ≤ reachBytes ∧ ∀ x ∈ l, small x) := by
  refine ⟨hc, fun {H enc W fuel cs x} h => ?_⟩
  rcases Go.Deep.open_slice hT h with ⟨rfl, _⟩ | ⟨a, len, cap, m, n, D, Pl, rfl, _, hlc, hcm, hm, hxe, hel⟩
  · exact ⟨[], Kd.slice_nil K [] W none 0 (by simp [maxLen]), fun _ => ⟨by simp, by simp⟩⟩
  · have hm' : m = cap := by simpa using hm
    subst hm'
    obtain ⟨l, hl, hl2⟩ := choose_list (List.range len) (fun i _ (x : α) => ∃ cs', W.cells? 0 (a.add (i * P.cellsOf E)) (P.cellsOf E) = some cs' ∧ K.At [] W cs' x ∧ ((∀ n ∈ (D i).weights P E, n ≤ reachBytes) → small x)) (fun i _ hi => by
      have hi2 := (List.getElem?_eq_some_iff.1 hi).1
      simp at hi2
      obtain ⟨cs', h1, h2⟩ := hel i (by omega)
      obtain ⟨y, hy, hy2⟩ := hK.open_ h2
      exact ⟨y, cs', h1, hy, hy2⟩)
    simp only [List.length_range] at hl
    have hl3 : ∀ (i : Nat) x, l[i]? = some x → ∃ cs', W.cells? 0 (a.add (i * P.cellsOf E)) (P.cellsOf E) = some cs' ∧ K.At [] W cs' x ∧ ((∀ n ∈ (D i).weights P E, n ≤ reachBytes) → small x) := fun i x hx => by
      have hi := (List.getElem?_eq_some_iff.1 hx).1
      exact hl2 i i x (by rw [List.getElem?_eq_getElem (by simp; omega)]; simp) hx
    subst hl
    have hsp : l ≠ [] → a.spot = none := by
      intro hne
      obtain ⟨y, hy⟩ : ∃ y, l[0]? = some y := by cases l with | nil => exact absurd rfl hne | cons y l => exact ⟨y, rfl⟩
      obtain ⟨cs', h1, h2, _⟩ := hl3 0 y hy
      obtain ⟨_, hlen, hcell⟩ := World.cells?_some h1
      rw [hK.cells] at hlen hcell
      have h0 := hcell 0 (by omega)
      obtain ⟨v0, hv0⟩ : ∃ v, cs'[0]? = some v := by
        cases hh : cs'[0]? with
        | none => simp at hh; subst hh; simp at hlen; omega
        | some v => exact ⟨v, rfl⟩
      rw [hv0] at h0
      have := spot_of_cell h0
      simpa [Addr.add] using this
    refine ⟨l, ?_, fun hw => ⟨?_, fun x hx => ?_⟩⟩
    · refine ⟨⟨some a, m, rfl, hlc, hcm, fun i x hi => ?_⟩⟩
      have hsp := hsp (by rintro rfl; simp at hi)
      obtain ⟨cs', h1, h2, _⟩ := hl3 i x hi
      obtain ⟨_, hlen, hcell⟩ := World.cells?_some h1
      rw [hK.cells] at h1 hlen hcell
      have h0 := hcell 0 (by omega)
      obtain ⟨v0, hv0⟩ : ∃ v, cs'[0]? = some v := by
        cases hh : cs'[0]? with
        | none => simp at hh; subst hh; simp at hlen; omega
        | some v => exact ⟨v, rfl⟩
      rw [hv0] at h0
      have hblk := cell_lt h0
      rw [add_plain hsp] at h0 hblk
      refine ⟨a.block, a.off, by obtain ⟨q1, q2, q3⟩ := a; have hsp : q3 = none := hsp; subst hsp; rfl, ⟨hblk, List.not_mem_nil⟩, hblk, cs', h2.out, fun j v hj => ?_⟩
      have hjl : j < K.sz := by rw [← hlen]; exact (List.getElem?_eq_some_iff.1 hj).1
      have := hcell j hjl
      rw [add_plain hsp, hj] at this
      exact this
    · have := hw ((l.length + (m - l.length)) * P.bytesOf E) (by rw [hxe]; simp [DataW.weights, hT])
      exact Nat.le_trans (Nat.mul_le_mul_right _ (by omega)) this
    · obtain ⟨i, hi, rfl⟩ := List.getElem_of_mem hx
      obtain ⟨cs', _, _, hs⟩ := hl3 i _ (List.getElem?_eq_getElem hi)
      refine hs (fun n hn => hw n ?_)
      rw [hxe]
      simp only [DataW.weights, hT, List.mem_cons, List.mem_append]
      exact .inr (.inl (weightsAll_mem (List.mem_map.2 ⟨i, by simpa using hi, rfl⟩) n hn))

theorem field_openS {α : Type} {K : Kd α} {P : Program} {T : TypeId} {small : α → Prop} (hK : K.OpensS P T small) {H : Type} {enc : TypeId × Value → H} {W : World} {n o i : Nat} {cs : List Value} {xs : List (DataW H × List MemPlace)}
    (h : DataW.trod enc P W 0 (fun _ => true) true n T ((cs.drop o).take (P.cellsOf T)) = xs[i]?) {x : DataW H × List MemPlace} (hx : xs[i]? = some x) : ∃ y, K.At [] W ((cs.drop o).take K.sz) y ∧ ((∀ n ∈ x.1.weights P T, n ≤ reachBytes) → small y) := by
  rw [hx, hK.cells] at h
  exact hK.open_ h

def Pl.small (x : Pl) : Prop := x.normal.length * 4 ≤ reachBytes

theorem opensS_pl : kPl.OpensS Try.prog 24 Pl.small := by
  have oi := opensS_of (opens_int (P := Try.prog) Try.underlying2 (by kernel_rfl))
  have on := opensS_slice (P := Try.prog) Try.underlying22 (by kernel_rfl) (opensS_of (opens_int (P := Try.prog) Try.underlying21 (by kernel_rfl))) (by decide)
  have hc : Try.prog.cellsOf 24 = 2 := by kernel_rfl
  refine ⟨hc, fun {H enc W fuel cs x} h => ?_⟩
  obtain ⟨xs, n, _, hx, hl, hxs, hf⟩ := DataW.trod_struct Try.underlying24 h
  rw [hc] at hl
  have hxs : xs.length = 2 := hxs
  match xs, hxs with
  | [x0, x1], _ =>
    obtain ⟨y0, h0, s0⟩ := field_openS on (hf 0 _ rfl) rfl
    obtain ⟨y1, h1, _⟩ := field_openS oi (hf 1 _ rfl) rfl
    clear hf h
    match cs, hl with
    | [c0, c1], _ =>
      obtain ⟨e1, g1⟩ := at_int h1
      simp [Kd.int] at e1
      subst e1
      have h0' : (Kd.int .i32).slice.At [] W [c0] y0 := by simpa [Kd.slice] using h0
      refine ⟨⟨y0, y1⟩, pl_mk h0' g1, fun hw => ?_⟩
      have := (s0 (fun n hn => hw n (by rw [hx]; simp only [DataW.weights, Try.underlying24]; simp [DataW.weightsEach]; exact .inl hn))).1
      rw [show Try.prog.bytesOf 21 = 4 by kernel_rfl] at this
      exact this

theorem reach_small {n b : Nat} (hb : 2 ≤ b) (h : n * b ≤ reachBytes) : n ≤ 70368744177664 := by
  have : reachBytes = 140737488351232 := by decide
  rw [this] at h
  have : n * 2 ≤ n * b := Nat.mul_le_mul_left _ hb
  omega

theorem opensS_nd : kNd.OpensS Try.prog 48 Nd.small := by
  have oi := opensS_of (opens_int (P := Try.prog) Try.underlying3 (by kernel_rfl))
  have ob := opensS_of (opens_bool (P := Try.prog) Try.underlying4 (by kernel_rfl))
  have os := opensS_slice (P := Try.prog) Try.underlying46 (by kernel_rfl) oi (by decide)
  have hc : Try.prog.cellsOf 48 = 6 := by kernel_rfl
  refine ⟨hc, fun {H enc W fuel cs x} h => ?_⟩
  obtain ⟨xs, n, _, hx, hl, hxs, hf⟩ := DataW.trod_struct Try.underlying48 h
  rw [hc] at hl
  have hxs : xs.length = 5 := hxs
  match xs, hxs with
  | [x0, x1, x2, x3, x4], _ =>
    obtain ⟨y0, h0, _⟩ := field_openS ob (hf 0 _ rfl) rfl
    obtain ⟨y1, h1, s1⟩ := field_openS os (hf 1 _ rfl) rfl
    obtain ⟨y2, h2, s2⟩ := field_openS opensS_pl (hf 2 _ rfl) rfl
    obtain ⟨y3, h3, _⟩ := field_openS oi (hf 3 _ rfl) rfl
    obtain ⟨y4, h4, _⟩ := field_openS oi (hf 4 _ rfl) rfl
    clear hf h
    match cs, hl with
    | [c0, c1, c2, c3, c4, c5], _ =>
      have e0 := at_bool h0
      obtain ⟨e3, g3⟩ := at_int h3
      obtain ⟨e4, g4⟩ := at_int h4
      have h1' : (Kd.int .i64).slice.At [] W [c1] y1 := by simpa [Kd.slice] using h1
      have h2' : kPl.At [] W [c2, c3] y2 := by simpa [kPl] using h2
      obtain ⟨vn, e2, g2, g2'⟩ := pl_at h2'
      simp [Kd.int, Kd.bool] at e0 e3 e4 e2
      obtain ⟨rfl, rfl⟩ := e2
      subst e0 e3 e4
      have hnd : NdAt [] W c1 c2 ⟨y0, y1, y2, y3, y4⟩ := ⟨h1', g2, g2', g3, g4⟩
      refine ⟨⟨y0, y1, y2, y3, y4⟩, hnd.shut, fun hw => ?_⟩
      have w1 := (s1 (fun n hn => hw n (by rw [hx]; simp only [DataW.weights, Try.underlying48]; simp [DataW.weightsEach]; exact .inr (.inl hn)))).1
      have w2 := s2 (fun n hn => hw n (by rw [hx]; simp only [DataW.weights, Try.underlying48]; simp [DataW.weightsEach]; exact .inr (.inr (.inl hn))))
      rw [show Try.prog.bytesOf 3 = 8 by kernel_rfl] at w1
      exact ⟨reach_small (by decide) w1, reach_small (b := 4) (by decide) w2⟩

theorem opensS_nds : kNd.slice.OpensS Try.prog 43 (fun l => l.length * Try.prog.bytesOf 48 ≤ reachBytes ∧ ∀ x ∈ l, x.small) :=
  opensS_slice Try.underlying43 (by kernel_rfl) opensS_nd (by decide)

/-! ### The laws, as their rows want them -/
def NdsSmall (l : List Nd) : Prop := l.length * Try.prog.bytesOf 48 ≤ reachBytes ∧ ∀ x ∈ l, x.small

end Go.Proofs.Ytfkmkhojedfccaa
