/-
The law ExactSelf: the plain part. The first of the ranking of an own row.
-/
import Derived.Test.YtglghgjbnoldaaaLaw22
import Derived.Test.YtglghgjbnoldaaaOpenS
namespace Go.Proofs.Ytglghgjbnoldaaa
set_option linter.unusedVariables false
set_option linter.unusedSimpArgs false
open Go.RowKit

theorem mem_uins (out : List Int) (x z : Int) : z ∈ uins out x ↔ z ∈ out ∨ z = x := by
  unfold uins
  simp only
  generalize (out.takeWhile (fun y => decide (y < x))).length = k
  split
  · rename_i h
    have := List.mem_of_getElem? h
    constructor
    · intro hz; exact .inl hz
    · rintro (hz | rfl)
      · exact hz
      · exact this
  · have e : z ∈ out ↔ z ∈ out.take k ∨ z ∈ out.drop k := by
      rw [← List.mem_append, List.take_append_drop]
    rw [e]
    simp only [List.mem_append, List.mem_singleton]
    constructor
    · rintro ((h | h) | h)
      · exact .inl (.inl h)
      · exact .inr h
      · exact .inl (.inr h)
    · rintro ((h | h) | h)
      · exact .inl (.inl h)
      · exact .inr h
      · exact .inl (.inr h)
theorem mem_uniq (l : List Int) (z : Int) : z ∈ uniq l ↔ z ∈ l := by
  have : ∀ (l out : List Int), z ∈ l.foldl uins out ↔ z ∈ out ∨ z ∈ l := by
    intro l
    induction l with
    | nil => intro out; simp
    | cons x l ih =>
      intro out
      rw [List.foldl_cons, ih, mem_uins]
      simp only [List.mem_cons]
      constructor
      · rintro ((h | h) | h)
        · exact .inl h
        · exact .inr (.inl h)
        · exact .inr (.inr h)
      · rintro (h | h | h)
        · exact .inl (.inl h)
        · exact .inl (.inr h)
        · exact .inr h
  have := this l []
  simpa [uniq] using this
theorem mem_ids {n : Nat} {z : Int} : z ∈ idsN n ↔ ∃ i : Nat, i < n ∧ z = (i : Int) := by
  unfold idsN
  simp only [List.mem_map, List.mem_range]
  constructor
  · rintro ⟨i, h, rfl⟩; exact ⟨i, h, rfl⟩
  · rintro ⟨i, h, rfl⟩; exact ⟨i, h, rfl⟩
theorem mem_res {L : List (List Int)} {v : List Int} {r : Rs} : r ∈ resOf L v (uniq (idsN L.length)) ↔ ∃ i y, L[i]? = some y ∧ r = ⟨((i : Nat) : Int), farI y v⟩ := by
  unfold resOf
  simp only [List.mem_map, List.mem_filter, mem_uniq, mem_ids]
  have fa : ∀ (i : Nat) y, L[i]? = some y → farAt L (i : Int) v = farI y v := fun i y hy => by
    unfold farAt
    rw [if_neg (by omega)]
    simp [hy]
  constructor
  · rintro ⟨z, ⟨⟨i, hi, rfl⟩, _⟩, rfl⟩
    have hy : L[i]? = some L[i] := List.getElem?_eq_getElem hi
    exact ⟨i, _, hy, by rw [fa i _ hy]⟩
  · rintro ⟨i, y, hy, rfl⟩
    have hi := (List.getElem?_eq_some_iff.1 hy).1
    refine ⟨(i : Int), ⟨⟨i, hi, rfl⟩, ?_⟩, by rw [fa i _ hy]⟩
    simp
    exact hi

theorem sq_true {x y : Int} (hx : coordBad x = false) (hy : coordBad y = false) : 0 ≤ sq x y ∧ sq x y ≤ 4398046511104 ∧ (sq x y = 0 → x = y) := by
  unfold coordBad at hx hy
  simp at hx hy
  obtain ⟨d, hd⟩ : ∃ d, x - y = d := ⟨_, rfl⟩
  have h1 : d.natAbs ≤ 2097152 := by omega
  have h2 := Nat.mul_le_mul h1 h1
  have h3 : ((d.natAbs * d.natAbs : Nat) : Int) = d * d := Int.natAbs_mul_self
  have e : sq x y = d * d := by
    unfold sq
    rw [hd, wrap_64]
    unfold wrap64
    omega
  rw [e]
  refine ⟨by omega, by omega, fun h0 => ?_⟩
  rcases Int.mul_eq_zero.1 h0 with h | h <;> omega
theorem farGo_ge : ∀ (a b : List Int) (n : Int), a.length = b.length → (∀ x ∈ a, coordBad x = false) → (∀ x ∈ b, coordBad x = false) → 0 ≤ n → n + (a.length : Int) * 4398046511104 ≤ 4611686018427387904 → n ≤ farGo a b n ∧ (farGo a b n = n → a = b)
  | [], [], n, _, _, _, _, _ => by simp [farGo]
  | [], _ :: _, n, h, _, _, _, _ => by simp at h
  | _ :: _, [], n, h, _, _, _, _ => by simp at h
  | x :: a, y :: b, n, h, ha, hb, h0, hn => by
    obtain ⟨s1, s2, s3⟩ := sq_true (ha x (by simp)) (hb y (by simp))
    simp only [List.length_cons] at hn
    have hn2 : n + sq x y + (a.length : Int) * 4398046511104 ≤ 4611686018427387904 := by
      have : (((a.length + 1 : Nat)) : Int) * 4398046511104 = (a.length : Int) * 4398046511104 + 4398046511104 := by omega
      omega
    have e : IntKind.i64.wrap (n + sq x y) = n + sq x y := by
      rw [wrap_64]
      unfold wrap64
      omega
    simp only [farGo]
    rw [e]
    obtain ⟨i1, i2⟩ := farGo_ge a b (n + sq x y) (by simpa using h) (fun z hz => ha z (by simp [hz])) (fun z hz => hb z (by simp [hz])) (by omega) hn2
    refine ⟨by omega, fun hq => ?_⟩
    have hz : sq x y = 0 := by omega
    rw [s3 hz, i2 (by omega)]
theorem farI_self : ∀ (a : List Int) (n : Int), (∀ x ∈ a, coordBad x = false) → 0 ≤ n → n ≤ 4611686018427387904 → farGo a a n = n
  | [], n, _, _, _ => rfl
  | x :: a, n, h, h0, h1 => by
    have e : IntKind.i64.wrap (n + sq x x) = n := by
      have : sq x x = 0 := by
        unfold sq
        rw [Int.sub_self, Int.zero_mul]
        rfl
      rw [this, Int.add_zero, wrap_64]
      unfold wrap64
      omega
    simp only [farGo]
    rw [e]
    exact farI_self a n (fun z hz => h z (by simp [hz])) h0 h1
theorem vecCheck_ok {v : List Int} {dim : Int} (h : vecCheck v dim = 0) : 1 ≤ dim ∧ dim ≤ 1024 ∧ (v.length : Int) = dim ∧ ∀ x ∈ v, coordBad x = false := by
  unfold vecCheck at h
  split at h
  · simp at h
  · split at h
    · simp at h
    · split at h
      · simp at h
      · rename_i h1 h2 h3
        exact ⟨by omega, by omega, by omega, fun x hx => by
          cases hc : coordBad x with
          | false => rfl
          | true => exact absurd (List.any_eq_true.2 ⟨x, hx, hc⟩) h3⟩
theorem far_law {a b : List Int} {dim : Int} (ha : vecCheck a dim = 0) (hb : vecCheck b dim = 0) : 0 ≤ farI a b ∧ (farI a b = 0 → a = b) := by
  obtain ⟨d1, d2, la, ca⟩ := vecCheck_ok ha
  obtain ⟨_, _, lb, cb⟩ := vecCheck_ok hb
  exact farGo_ge a b 0 (by omega) ca cb (by omega) (by omega)

/-- The first of the ranking of a row of the items. -/
theorem self_law {L : List (List Int)} {dim : Int} {id : Nat} {v : List Int} {out : List Rs} (hL : ∀ x ∈ L, vecCheck x dim = 0) (hv : L[id]? = some v) (ho : out = (sort4 (resOf L v (uniq (idsN L.length)))).take (1 : Int).toNat) :
    ∃ m : Nat, out = [⟨(m : Int), 0⟩] ∧ m ≤ id ∧ L[m]? = some v ∧ ∀ i y, i < m → L[i]? = some y → (y == v) = false := by
  have hvm := hL v (List.mem_of_getElem? hv)
  obtain ⟨p1, p2⟩ := sort4_spec (resOf L v (uniq (idsN L.length)))
  have hself : (⟨(id : Int), 0⟩ : Rs) ∈ resOf L v (uniq (idsN L.length)) := mem_res.2 ⟨id, v, hv, by
    have : farI v v = 0 := farI_self v 0 (vecCheck_ok hvm).2.2.2 (by omega) (by omega)
    rw [this]⟩
  cases hs : sort4 (resOf L v (uniq (idsN L.length))) with
  | nil => rw [hs] at p1; have := p1.mem_iff.2 hself; simp at this
  | cons s rest =>
    rw [hs] at p1 p2 ho
    have ho : out = [s] := by simpa using ho
    have hmin : ∀ r ∈ resOf L v (uniq (idsN L.length)), r = s ∨ nearer r s = false := fun r hr => by
      rcases List.mem_cons.1 (p1.mem_iff.2 hr) with h | h
      · exact .inl h
      · exact .inr ((List.pairwise_cons.1 p2).1 r h)
    obtain ⟨m, y, hy, hsm⟩ := mem_res.1 (p1.mem_iff.1 (List.mem_cons_self ..))
    obtain ⟨f0, f1⟩ := far_law (hL y (List.mem_of_getElem? hy)) hvm
    have hfid : farI y v = 0 ∧ m ≤ id := by
      rcases hmin _ hself with h | h
      · rw [hsm] at h
        simp only [Rs.mk.injEq] at h
        omega
      · rw [nearer_false, hsm] at h
        simp only at h
        omega
    have hyv := f1 hfid.1
    subst hyv
    rw [hfid.1] at hsm
    refine ⟨m, by rw [ho, hsm], hfid.2, hy, fun i z hi hz => ?_⟩
    rw [beq_eq_false_iff_ne]
    rintro rfl
    have : (⟨(i : Int), 0⟩ : Rs) ∈ resOf L z (uniq (idsN L.length)) := mem_res.2 ⟨i, z, hz, by rw [hfid.1]⟩
    rcases hmin _ this with h | h
    · rw [hsm] at h
      simp only [Rs.mk.injEq] at h
      omega
    · rw [nearer_false, hsm] at h
      simp only at h
      omega

end Go.Proofs.Ytglghgjbnoldaaa
