/-
marks.Unique at []int.
-/
import Derived.Test.YtglghgjbnoldaaaSortI
namespace Go.Proofs.Ytglghgjbnoldaaa
set_option linter.unusedVariables false
set_option linter.unusedSimpArgs false
open Go.RowKit

theorem sorted_ext : ∀ (a b : List Int), a.Pairwise (· < ·) → b.Pairwise (· < ·) → (∀ x, x ∈ a ↔ x ∈ b) → a = b
  | [], [], _, _, _ => rfl
  | [], y :: b, _, _, h => absurd ((h y).2 (by simp)) (by simp)
  | x :: a, [], _, _, h => absurd ((h x).1 (by simp)) (by simp)
  | x :: a, y :: b, ha, hb, h => by
    rw [List.pairwise_cons] at ha hb
    have e : x = y := by
      have h1 := (h x).1 (by simp)
      have h2 := (h y).2 (by simp)
      rcases List.mem_cons.1 h1 with h1 | h1
      · exact h1
      · rcases List.mem_cons.1 h2 with h2 | h2
        · exact h2.symm
        · have := hb.1 x h1; have := ha.1 y h2; omega
    subst e
    rw [sorted_ext a b ha.2 hb.2 (fun z => ?_)]
    have := h z
    simp only [List.mem_cons] at this
    constructor
    · intro hz
      rcases this.1 (.inr hz) with e | e
      · have := ha.1 z hz; omega
      · exact e
    · intro hz
      rcases this.2 (.inr hz) with e | e
      · have := hb.1 z hz; omega
      · exact e

theorem compact_go (d : Array Int) (hs : ∀ i j, i ≤ j → j < d.size → d[i]! ≤ d[j]!) : ∀ m, m ≤ d.size → (Lib.compactUpTo d m).Pairwise (· < ·) ∧ (∀ x ∈ Lib.compactUpTo d m, ∃ i, i < m ∧ d[i]! = x) ∧ (∀ i, i < m → d[i]! ∈ Lib.compactUpTo d m)
  | 0, _ => by simp [Lib.compactUpTo]
  | m + 1, hm => by
    obtain ⟨h1, h2, h3⟩ := compact_go d hs m (by omega)
    rw [Lib.compactUpTo_succ]
    cases hk : Lib.keeps d m with
    | true =>
      rw [if_pos rfl]
      have hlt : ∀ x ∈ Lib.compactUpTo d m, x < d[m]! := by
        intro x hx
        obtain ⟨i, hi, rfl⟩ := h2 x hx
        have hk' : m = 0 ∨ d[m]! ≠ d[m - 1]! := by simpa [Lib.keeps] using hk
        rcases hk' with rfl | hk'
        · omega
        · have a1 := hs i (m - 1) (by omega) (by omega)
          have a2 := hs (m - 1) m (by omega) (by omega)
          omega
      refine ⟨?_, ?_, ?_⟩
      · rw [List.pairwise_append]
        exact ⟨h1, by simp, fun x hx y hy => by simp at hy; subst hy; exact hlt x hx⟩
      · intro x hx
        rcases List.mem_append.1 hx with hx | hx
        · obtain ⟨i, hi, e⟩ := h2 x hx; exact ⟨i, by omega, e⟩
        · simp at hx; exact ⟨m, by omega, hx.symm⟩
      · intro i hi
        rcases Nat.lt_or_ge i m with hi' | hi'
        · exact List.mem_append_left _ (h3 i hi')
        · have : i = m := by omega
          subst this
          simp
    | false =>
      rw [if_neg (by simp), List.append_nil]
      refine ⟨h1, fun x hx => ?_, fun i hi => ?_⟩
      · obtain ⟨i, hi, e⟩ := h2 x hx; exact ⟨i, by omega, e⟩
      · rcases Nat.lt_or_ge i m with hi' | hi'
        · exact h3 i hi'
        · have : i = m := by omega
          subst this
          have hk' : ¬ (i = 0 ∨ d[i]! ≠ d[i - 1]!) := by simpa [Lib.keeps] using hk
          have e1 : i ≠ 0 := fun h => hk' (.inl h)
          have e2 : d[i]! = d[i - 1]! := by
            rcases Classical.em (d[i]! = d[i - 1]!) with h | h
            · exact h
            · exact absurd (.inr h) hk'
          rw [e2]
          exact h3 (i - 1) (by omega)

/-- What Sort and Compact make of a list is what the document's Unique makes of it. -/
theorem compact_sort (l : List Int) : Lib.compact (sortI l) = uniq l := by
  have hp : (sortI l).Pairwise (fun x y => decide (x ≤ y) = true) := List.pairwise_mergeSort (fun a b c h1 h2 => by simp at h1 h2 ⊢; omega) (fun a b => by simp; omega) l
  have hs : ∀ i j, i ≤ j → j < (sortI l).toArray.size → (sortI l).toArray[i]! ≤ (sortI l).toArray[j]! := by
    intro i j hij hj
    have hj' : j < (sortI l).length := by simpa using hj
    rcases Nat.lt_or_ge i j with h | h
    · have := List.pairwise_iff_getElem.1 hp i j (by omega) hj' h
      simp only [decide_eq_true_eq] at this
      simpa [getElem!_pos, hj', show i < (sortI l).length by omega] using this
    · have : i = j := by omega
      subst this; omega
  obtain ⟨h1, h2, h3⟩ := compact_go (sortI l).toArray hs (sortI l).toArray.size (Nat.le_refl _)
  have hc : Lib.compact (sortI l) = Lib.compactUpTo (sortI l).toArray (sortI l).toArray.size := by simp [Lib.compact]
  obtain ⟨u1, u2, _⟩ := uniq_props l [] (by simp)
  refine sorted_ext _ _ (by rw [hc]; exact h1) u1 (fun x => ?_)
  rw [hc]
  have hu : x ∈ uniq l ↔ x ∈ l := by
    have := u2 x
    simpa [uniq] using this
  rw [hu]
  constructor
  · intro hx
    obtain ⟨i, hi, e⟩ := h2 x hx
    have hi' : i < (sortI l).length := by simpa using hi
    have : (sortI l).toArray[i]! = (sortI l)[i] := by simp [getElem!_pos, hi']
    rw [this] at e
    exact sortI_mem.1 (e ▸ List.getElem_mem hi')
  · intro hx
    obtain ⟨i, hi, e⟩ := List.getElem_of_mem (sortI_mem.2 hx)
    have := h3 i (by simpa using hi)
    have e2 : (sortI l).toArray[i]! = (sortI l)[i] := by simp [getElem!_pos, hi]
    rw [e2, e] at this
    exact this

theorem flatten_take {n : Nat} : ∀ (css : List (List Value)) (k : Nat), (∀ cs ∈ css, cs.length = n) → (css.take k).flatten = css.flatten.take (k * n)
  | [], k, _ => by simp
  | c :: css, 0, _ => by simp
  | c :: css, k + 1, h => by
    have hc := h c (by simp)
    have e1 : List.take ((k + 1) * n) c = c := List.take_of_length_le (by rw [hc, Nat.add_mul]; omega)
    have e2 : (k + 1) * n - c.length = k * n := by rw [hc, Nat.add_mul]; omega
    rw [List.take_succ_cons, List.flatten_cons, List.flatten_cons, flatten_take css k (fun x hx => h x (by simp [hx])), List.take_append, e1, e2]

/-- The first ones of an owned row. -/
theorem Row.takeN {α : Type} {K : Kd α} {M : List Nat} {e : TypeId} {B g cap : Nat} {w : World} {l : List α} (h : Row K M e B w (.slice (some ⟨g, 0, none⟩) l.length cap) l) {k : Nat} (hk : k ≤ l.length) :
    Row K M e B w (.slice (some ⟨g, 0, none⟩) k cap) (l.take k) := by
  obtain ⟨css, ⟨h0, h1⟩, h2, h3⟩ := h.out
  have hlens := row_len h2 h3
  have hkl : (l.take k).length = k := by rw [List.length_take]; omega
  rcases h1 with h1 | ⟨g', cap', cur, hv, hb, hg, hn, hm, hsz, htk⟩
  · exact absurd h1.1 (by simp)
  · simp at hv
    obtain ⟨rfl, rfl⟩ := hv
    refine ⟨css.take k, ⟨?_, .inr ⟨g, cap, cur, by rw [hkl], hb, hg, by omega, hm, hsz, ?_⟩⟩, by simp; omega, fun i cs x h4 h5 => ?_⟩
    · rw [flatten_take css k hlens, List.length_take, h0, hkl]
      have : k * K.sz ≤ l.length * K.sz := Nat.mul_le_mul_right _ hk
      omega
    · rw [flatten_take css k hlens, ← htk, List.take_take, hkl]
      congr 1
      have : k * K.sz ≤ l.length * K.sz := Nat.mul_le_mul_right _ hk
      omega
    · have hi := (List.getElem?_eq_some_iff.1 h4).1
      simp only [List.length_take] at hi
      rw [List.getElem?_take_of_lt (by omega)] at h4 h5
      exact h3 i cs x h4 h5

theorem compact_len (l : List Int) : (Lib.compact l).length ≤ l.length := by
  unfold Lib.compact Lib.compactUpTo
  rw [List.length_map]
  have := List.length_filter_le (Lib.keeps l.toArray) (List.range l.length)
  simpa using this
theorem compact_mem {l : List Int} {x : Int} (h : x ∈ Lib.compact l) : x ∈ l := by
  unfold Lib.compact Lib.compactUpTo at h
  obtain ⟨i, hi, rfl⟩ := List.mem_map.1 h
  have hi' : i < l.length := List.mem_range.1 (List.mem_filter.1 hi).1
  simp [getElem!_pos, hi']

theorem compact_int_calls (v : Value) (l : List Int) (B : Nat) (w : World) (h : Row (Kd.int .i64) [] 3 B w v l) (hlen : l.length ≤ 1099511627776) :
    Calls Try.prog 27 #[v] w fun e w' => ∃ v', e = .returned v' ∧ Upd (ob v) w w' ∧ ob v' = ob v ∧ Row (Kd.int .i64) [] 3 B w' v' (Lib.compact l) := by
  rcases h.form with ⟨rfl, rfl⟩ | ⟨g, cap, rfl, h1, h2, h3, h4⟩
  · refine (Try.slices_Compact_int_empty none 0 w).mono ?_
    rintro e w' ⟨he, rfl⟩
    exact ⟨_, he, Upd.refl _ _, rfl, h⟩
  · refine (Try.slices_Compact_int g 0 cap l w (row_holds h) (by omega) h3).mono ?_
    rintro e w' ⟨he, n, rfl⟩
    refine ⟨_, he, upd_put' _ w n g 0 _, rfl, ?_⟩
    have hr := row_put h (l' := Lib.compact l ++ List.replicate (l.length - (Lib.compact l).length) 0) (by have := compact_len l; simp; omega)
      (fun x hx => by
        rcases List.mem_append.1 hx with hx | hx
        · exact row_wf h x (compact_mem hx)
        · rw [List.eq_of_mem_replicate hx]; decide) n #[]
    have e0 : ∀ W : World, Sort.grow W #[] = W := fun W => by simp [Sort.grow]
    rw [e0] at hr
    have := hr.takeN (k := (Lib.compact l).length) (by simp)
    rwa [List.take_left] at this

end Go.Proofs.Ytglghgjbnoldaaa
