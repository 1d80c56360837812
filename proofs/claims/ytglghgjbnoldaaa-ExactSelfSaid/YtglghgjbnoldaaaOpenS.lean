/-
How slices of a claim's input read: with what fits into memory.
-/
import Derived.Test.YtglghgjbnoldaaaClone
import Derived.SizedLaws
import Derived.Deep.Slices
namespace Go.Proofs.Ytglghgjbnoldaaa
set_option linter.unusedVariables false
set_option linter.unusedSimpArgs false
open Go.RowKit

/-- As Kd.Opens; and what the weights say. -/
structure Kd.OpensS {α : Type} (K : Kd α) (P : Program) (T : TypeId) (small : α → Prop) : Prop where
  cells : P.cellsOf T = K.sz
  open_ : ∀ {H : Type} {enc : TypeId × Value → H} {W : World} {fuel : Nat} {cs : List Value} {x : DataW H × List MemPlace}, DataW.trod enc P W 0 (fun _ => true) true fuel T cs = some x → ∃ y, K.At [] W cs y ∧ ((∀ n ∈ x.1.weights P T, n ≤ reachBytes) → small y)

theorem opensS_of {α : Type} {K : Kd α} {P : Program} {T : TypeId} (h : K.Opens P T) : K.OpensS P T (fun _ => True) :=
  ⟨h.cells, fun hx => by obtain ⟨y, hy⟩ := h.open_ hx; exact ⟨y, hy, fun _ => trivial⟩⟩

theorem weightsAll_mem {H : Type} {P : Program} {e : TypeId} : ∀ {ds : List (DataW H)} {d : DataW H}, d ∈ ds → ∀ n ∈ d.weights P e, n ∈ DataW.weightsAll P e ds
  | d0 :: ds, d, hd, n, hn => by
    simp only [DataW.weightsAll, List.mem_append]
    rcases List.mem_cons.1 hd with rfl | hd
    · exact .inl hn
    · exact .inr (weightsAll_mem hd n hn)

theorem opensS_slice {α : Type} {K : Kd α} {P : Program} {T E : TypeId} {small : α → Prop} (hT : P.underlying T = some (.slice E)) (hc : P.cellsOf T = 1) (hK : K.OpensS P E small) (hz : 0 < K.sz) :
    K.slice.OpensS P T (fun l => l.length * P.bytesOf E ≤ reachBytes ∧ ∀ x ∈ l, small x) := by
  refine ⟨hc, fun {H enc W fuel cs x} h => ?_⟩
  rcases Go.Deep.open_slice hT h with ⟨rfl, _⟩ | ⟨a, len, cap, m, n, D, Pl, rfl, _, hlc, hcm, hm, hxe, hel⟩
  · exact ⟨[], Kd.slice_nil K [] W none 0 (by simp [maxLen]), fun _ => ⟨by simp, by simp⟩⟩
  · have hm' : m = cap := by simpa using hm
    subst hm'
    obtain ⟨l, hl, hl2⟩ := choose_list (List.range len) (fun i _ (x : α) => ∃ cs', W.cells? 0 (a.add (i * P.cellsOf E)) (P.cellsOf E) = some cs' ∧ K.At [] W cs' x ∧ ((∀ n ∈ (D i).weights P E, n ≤ reachBytes) → small x)) (fun i _ hi => by
      have hi2 := (List.getElem?_eq_some_iff.1 hi).1
      simp at hi2
      obtain ⟨cs', h1, h2⟩ := hel i (by omega)
      obtain ⟨y, hy, hy2⟩ := hK.open_ h2
      exact ⟨y, cs', h1, hy, hy2⟩)
    simp only [List.length_range] at hl
    have hl3 : ∀ (i : Nat) x, l[i]? = some x → ∃ cs', W.cells? 0 (a.add (i * P.cellsOf E)) (P.cellsOf E) = some cs' ∧ K.At [] W cs' x ∧ ((∀ n ∈ (D i).weights P E, n ≤ reachBytes) → small x) := fun i x hx => by
      have hi := (List.getElem?_eq_some_iff.1 hx).1
      exact hl2 i i x (by rw [List.getElem?_eq_getElem (by simp; omega)]; simp) hx
    subst hl
    have hsp : l ≠ [] → a.spot = none := by
      intro hne
      obtain ⟨y, hy⟩ : ∃ y, l[0]? = some y := by cases l with | nil => exact absurd rfl hne | cons y l => exact ⟨y, rfl⟩
      obtain ⟨cs', h1, h2, _⟩ := hl3 0 y hy
      obtain ⟨_, hlen, hcell⟩ := World.cells?_some h1
      rw [hK.cells] at hlen hcell
      have h0 := hcell 0 (by omega)
      obtain ⟨v0, hv0⟩ : ∃ v, cs'[0]? = some v := by
        cases hh : cs'[0]? with
        | none => simp at hh; subst hh; simp at hlen; omega
        | some v => exact ⟨v, rfl⟩
      rw [hv0] at h0
      have := spot_of_cell h0
      simpa [Addr.add] using this
    refine ⟨l, ?_, fun hw => ⟨?_, fun x hx => ?_⟩⟩
    · refine ⟨⟨some a, m, rfl, hlc, hcm, fun i x hi => ?_⟩⟩
      have hsp := hsp (by rintro rfl; simp at hi)
      obtain ⟨cs', h1, h2, _⟩ := hl3 i x hi
      obtain ⟨_, hlen, hcell⟩ := World.cells?_some h1
      rw [hK.cells] at h1 hlen hcell
      have h0 := hcell 0 (by omega)
      obtain ⟨v0, hv0⟩ : ∃ v, cs'[0]? = some v := by
        cases hh : cs'[0]? with
        | none => simp at hh; subst hh; simp at hlen; omega
        | some v => exact ⟨v, rfl⟩
      rw [hv0] at h0
      have hblk := cell_lt h0
      rw [add_plain hsp] at h0 hblk
      refine ⟨a.block, a.off, by obtain ⟨q1, q2, q3⟩ := a; have hsp : q3 = none := hsp; subst hsp; rfl, ⟨hblk, List.not_mem_nil⟩, hblk, cs', h2.out, fun j v hj => ?_⟩
      have hjl : j < K.sz := by rw [← hlen]; exact (List.getElem?_eq_some_iff.1 hj).1
      have := hcell j hjl
      rw [add_plain hsp, hj] at this
      exact this
    · have := hw ((l.length + (m - l.length)) * P.bytesOf E) (by rw [hxe]; simp [DataW.weights, hT])
      exact Nat.le_trans (Nat.mul_le_mul_right _ (by omega)) this
    · obtain ⟨i, hi, rfl⟩ := List.getElem_of_mem hx
      obtain ⟨cs', _, _, hs⟩ := hl3 i _ (List.getElem?_eq_getElem hi)
      refine hs (fun n hn => hw n ?_)
      rw [hxe]
      simp only [DataW.weights, hT, List.mem_cons, List.mem_append]
      exact .inr (.inl (weightsAll_mem (List.mem_map.2 ⟨i, by simpa using hi, rfl⟩) n hn))

theorem reach_small {n b : Nat} (hb : 2 ≤ b) (h : n * b ≤ reachBytes) : n ≤ 70368744177664 := by
  have : reachBytes = 140737488351232 := by decide
  rw [this] at h
  have : n * 2 ≤ n * b := Nat.mul_le_mul_left _ hb
  omega


/-- A list of lists of int32 of the input: each fits into memory. -/
theorem rows_small {P : Program} {E : TypeId} {L : List (List Int)} (hb : P.bytesOf E = 4) {n : Nat} (h : L.length * n ≤ reachBytes ∧ ∀ x ∈ L, x.length * P.bytesOf E ≤ reachBytes ∧ ∀ y ∈ x, True) : ∀ x ∈ L, x.length ≤ 70368744177664 := fun x hx => by
  have := (h.2 x hx).1
  rw [hb] at this
  exact reach_small (by decide) this

end Go.Proofs.Ytglghgjbnoldaaa
