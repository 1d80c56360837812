/-
Items: data.New, Len, Dim, Add, Of.
-/
import Derived.Test.YtglghgjbnoldaaaVec
import Derived.Test.YtglghgjbnoldaaaClone
import Derived.Test.YtglghgjbnoldaaaRefB
import Derived.Test.YtglghgjbnoldaaaEnds
namespace Go.Proofs.Ytglghgjbnoldaaa
set_option linter.unusedVariables false
set_option linter.unusedSimpArgs false
open Go.RowKit

/-- Items: a dimension, and all coordinates, one behind the other. -/
structure IsItems (w : World) (N : List Nat) (p : Nat) (dim : Int) (l : List Int) : Prop where
  out : ∃ v, w.heap[p]? = some (.cells #[.int .i64 dim, v] 85) ∧ (Kd.int .i32).slice.At N w [v] l
theorem IsItems.upd {w w' : World} {N S N' : List Nat} {p : Nat} {dim : Int} {l : List Int} (h : IsItems w N p dim l) (hu : Upd S w w') (hS : ∀ k, k ∈ S → k ∈ N) (hp : p ∉ S) (hN : ∀ k, k ∈ N' → k ∈ N ∨ w.heap.size ≤ k) : IsItems w' N' p dim l := by
  obtain ⟨v, h1, h2⟩ := h.out
  exact ⟨v, (hu.block _ (block_lt h1) hp).trans h1, h2.upd hu hS hN⟩
theorem IsItems.below {w w' : World} {N : List Nat} {p : Nat} {dim : Int} {l : List Int} (h : IsItems w N p dim l) (hu : Below w.heap.size w w') : IsItems w' N p dim l :=
  h.upd (Upd.ofBelow hu []) (by simp) (by simp) (fun k hk => .inl hk)

theorem dim_calls (w : World) (N : List Nat) (p : Nat) (dim : Int) (l : List Int) (h : IsItems w N p dim l) :
    Calls Try.prog 33 #[.pointer (some ⟨p, 0, none⟩)] w fun e w' => e = .returned (.int .i64 dim) ∧ w = w' := by
  obtain ⟨v, h1, h2⟩ := h.out
  have c0 : w.cell? ⟨p, 0, none⟩ = some (.int .i64 dim) := by rw [cell_of_block h1]; rfl
  clear h h1 h2
  go_enter Try.func33, Try.ntmps33
  go_wp2_with fail
  go_ret
  exact ⟨rfl, rfl⟩

set_option maxHeartbeats 1000000 in
theorem len_calls (w : World) (N : List Nat) (p : Nat) (dim : Int) (l : List Int) (n : Nat) (h : IsItems w N p dim l) (hd : 1 ≤ dim) (hn : (l.length : Int) = n * dim) :
    Calls Try.prog 30 #[.pointer (some ⟨p, 0, none⟩)] w fun e w' => e = .returned (.int .i64 (n : Int)) ∧ ∃ m, w' = w.drewN m := by
  obtain ⟨v, h1, h2⟩ := h.out
  obtain ⟨ao, cap, rfl, hl, hcap⟩ := Kd.slice_form h2
  unfold maxLen at hcap
  have c0 : w.cell? ⟨p, 0, none⟩ = some (.int .i64 dim) := by rw [cell_of_block h1]; rfl
  have c1 : w.cell? ⟨p, 1, none⟩ = some (.slice ao l.length cap) := by rw [cell_of_block h1]; rfl
  have hq : (l.length : Int) / dim = (n : Int) := by rw [hn]; exact Int.mul_ediv_cancel _ (by omega)
  have hz : (dim == 0) = false := by rw [beq_eq_false_iff_ne]; omega
  have hz2 : dim ≠ 0 := by omega
  have ht : (l.length : Int).tdiv dim = (n : Int) := by rw [Int.tdiv_eq_ediv_of_nonneg (by omega)]; exact hq
  have hw : IntKind.i64.wrap (n : Int) = (n : Int) := IntWalk.i64_in _ (by
    have : (n : Int) * 1 ≤ n * dim := Int.mul_le_mul_of_nonneg_left hd (by omega)
    omega)
  clear h h1 h2 hq hn
  go_enter Try.func30, Try.ntmps30
  go_wp2_with fail
  go_quiet (fail)
  clear ht hw
  go_wp2_with fail
  go_ret
  exact ⟨rfl, _, rfl⟩

/-- Items that a call has made. -/
structure OwnItems (w : World) (B p : Nat) (dim : Int) (v : Value) (l : List Int) : Prop where
  hd : w.heap[p]? = some (.cells #[.int .i64 dim, v] 85)
  row : Row (Kd.int .i32) [] 21 B w v l
  ne : p ∉ ob v
  le : B ≤ p
theorem OwnItems.upd {w w' : World} {B p : Nat} {dim : Int} {v : Value} {l : List Int} (H : OwnItems w B p dim v l) {S : List Nat} (hu : Upd S w w') (h1 : p ∉ S) (h2 : ∀ k, k ∈ ob v → k ∉ S) : OwnItems w' B p dim v l :=
  ⟨(hu.block _ (block_lt H.hd) h1).trans H.hd, ((H.row.int_any (M' := S)).upd hu (fun k hk => hk) h2 (M' := S) (fun k hk => .inl hk)).int_any, H.ne, H.le⟩
theorem OwnItems.is {w : World} {B p : Nat} {dim : Int} {v : Value} {l : List Int} (H : OwnItems w B p dim v l) (N : List Nat) (hN : ∀ k, k ∈ N → k < B) : IsItems w N p dim l :=
  ⟨v, H.hd, (H.row.int_any (M' := N)).read (fun k hk hm => by have := (H.row.ob_lt k hk).1; have := hN k hm; omega)⟩

theorem A.infoI32 : (Try.prog.info? 21).map (fun i => (i.zero, i.size, i.bytes)) = some (some (.int .i32 0), 1, 4) := by kernel_rfl

theorem data_new_calls (dim : Int) (hd1 : 1 ≤ dim) (hd2 : dim ≤ 1024) (w : World) :
    Calls Try.prog 39 #[.int .i64 dim] w fun e w' => ∃ p, e = .returned (.tuple #[.pointer (some ⟨p, 0, none⟩), .int .i64 0]) ∧ OwnItems w' w.heap.size p dim (.slice none 0 0) [] ∧ Below w.heap.size w w' := by
  have hb := (Below.refl w.heap.size w).alloc (Nat.le_refl _) (.cells #[.int .i64 dim, .slice none 0 0] 85)
  have HB := Lib.hid hb
  clear hb
  go_enter Try.func39, Try.ntmps39
  go_wp2_with fail
  go_ret2
  exact ⟨w.heap.size, rfl, ⟨Go.heap_alloc_new w _, Row.nil _ _ _ _ _, by simp [ob, Value.ownBlock], Nat.le_refl _⟩, HB.out⟩

set_option maxHeartbeats 2000000 in
set_option maxRecDepth 100000 in
theorem add_calls (w : World) (B p : Nat) (dim : Int) (v : Value) (l : List Int) (n : Nat) (vx : Value) (x : List Int) (M : List Nat) (H : OwnItems w B p dim v l) (hx : (Kd.int .i32).slice.At (p :: ob v ++ M) w [vx] x) (hc : vecCheck x dim = 0)
    (hn : (l.length : Int) = n * dim) (hn2 : n < 1048576) (hB : B ≤ w.heap.size) :
    Calls Try.prog 40 #[.pointer (some ⟨p, 0, none⟩), vx] w fun e w' => e = .returned (.tuple #[.int .i64 (n : Int), .int .i64 0]) ∧
      ∃ v', OwnItems w' B p dim v' (l ++ x) ∧ Upd (p :: ob v) w w' ∧ (∀ k, k ∈ ob v' → k ∈ ob v ∨ w.heap.size ≤ k) := by
  obtain ⟨hb21, hxl, hd1, hd2⟩ := Bd21.vec hc
  have HIS : IsItems w [] p dim l := ⟨v, H.hd, H.row.read (by simp)⟩
  have c0 : w.cell? ⟨p, 0, none⟩ = some (.int .i64 dim) := by rw [cell_of_block H.hd]; rfl
  have HC := Lib.hid (vec_check_calls vx x dim _ w hx)
  rw [hc] at HC
  have HL := Lib.hid (len_calls w [] p dim l n HIS hd1 hn)
  obtain ⟨i0, hi, hz0, hz1, hz2⟩ := info_parts A.infoI32
  have hll : (l.length : Int) ≤ 1073741824 := by
    have h1 : (n : Int) * dim ≤ 1048576 * dim := Int.mul_le_mul_of_nonneg_right (by omega) (by omega)
    omega
  obtain ⟨ax, cx, rfl, hlx, hcx⟩ := Kd.slice_form hx
  unfold maxLen at hcx
  have HAP : Hid (∀ m, ∃ v' w', (Builtin.append_ #[23, 23] 23 #[v, .slice ax x.length cx]).run Try.prog (w.drewN m) = .ok v' w' ∧ Row (Kd.int .i32) [] 21 B w' v' (l ++ x) ∧ Upd (ob v) w w' ∧ (ob v' = ob v ∨ ob v' = [w.heap.size])) := Lib.hid (fun m => by
    have hr := (H.upd (S := []) (Upd.drewN [] w m) (by simp) (by simp)).row
    obtain ⟨v', w', a1, a2, a3, a4⟩ := hr.appendAt (P := Try.prog) (t := 23) (ty := 23) (u := .slice ax x.length cx) (l2 := x) Try.underlying23 hi hz0 hz1 hz2 rfl (by decide)
      (hx.upd (S := []) (Upd.drewN [] w m) (by simp) (fun k hk => .inl (by rw [List.append_nil] at hk; simp [hk]))) (by simp [maxLen]; omega) (by first | omega | (simp; omega)) (by simpa using hB)
    exact ⟨v', w', a1, a2, (Upd.drewN _ w m).trans a3, by simpa using a4⟩)
  have HH := Lib.hid H
  obtain ⟨l1, hl1⟩ : ∃ l1, l ++ x = l1 := ⟨_, rfl⟩
  rw [hl1] at HAP ⊢
  obtain ⟨N, hN⟩ : ∃ N : Int, (n : Int) = N := ⟨_, rfl⟩
  have n1 : N < 1048576 := by omega
  have n0 : 0 ≤ N := by omega
  rw [hN] at HL ⊢
  clear hx hi hz0 hz1 hz2 hc H HIS hn hl1 hxl hb21 hn2 hN
  go_enter Try.func40, Try.ntmps40
  go_wp2_with fail
  refine HC.out.mono ?_
  rintro e w1 ⟨rfl, rfl⟩
  clear HC
  go_wp2_with fail
  refine HL.out.mono ?_
  rintro e w1 ⟨rfl, m, rfl⟩
  clear HL c0
  obtain ⟨v', w', hrun, hrow, hu, ho⟩ := HAP.out m
  obtain ⟨a', cap', rfl, hl', hc'⟩ := row_form hrow
  have c1 : w.cell? ⟨p, 1, none⟩ = some v := by rw [cell_of_block HH.out.hd]; rfl
  have hd' := (hu.block p (block_lt HH.out.hd) HH.out.ne).trans HH.out.hd
  have c2 : w'.cell? ⟨p, 1, none⟩ = some v := by rw [cell_of_block hd']; rfl
  have f2 : w'.frozen? ⟨p, 1, none⟩ = false := frozen_of_block hd'
  have HRUN := Lib.hid hrun
  have HROW := Lib.hid hrow
  have HU := Lib.hid hu
  have HO := Lib.hid ho
  have HD := Lib.hid hd'
  clear hrun hrow hu ho hd' HAP hl'
  go_wp2_with (at_builtin; refine append_step rfl _ _ _ rfl rfl rfl HRUN.out ?_)
  go_ret2
  refine ⟨rfl, .slice a' l1.length cap', ⟨(heap_setCell_same w' p 1 _ _ _ HD.out).trans (by simp), ?_, ?_, HH.out.le⟩, (HU.out.mono (fun k hk _ => by simp [hk])).trans (Upd.setCell (S := p :: ob v) (p := ⟨p, 1, none⟩) (by simp) _), ?_⟩
  · have hne : p ∉ ob (Value.slice a' l1.length cap') := by
      rcases HO.out with e | e
      · rw [e]; exact HH.out.ne
      · rw [e]; have := block_lt HH.out.hd; simp; omega
    exact ((HROW.out.int_any (M' := [p])).upd (Upd.setCell (S := [p]) (p := ⟨p, 1, none⟩) (by simp) _) (by simp) (fun k hk hm => by simp at hm; subst hm; exact hne hk) (M' := [p]) (fun k hk => .inl hk)).int_any
  · rcases HO.out with e | e
    · rw [e]; exact HH.out.ne
    · rw [e]; have := block_lt HH.out.hd; simp; omega
  · intro k hk
    rcases HO.out with e | e
    · rw [e] at hk; exact .inl hk
    · rw [e] at hk; simp at hk; exact .inr (by omega)

/-- Items' vectors that may be. -/
def firstCheck (dim : Int) (L : List (List Int)) : Int := ((L.find? (fun x => vecCheck x dim != 0)).map (fun x => vecCheck x dim)).getD 0
def dataCheck (dim : Int) (L : List (List Int)) : Int := if dim < 1 ∨ 1024 < dim then 1 else firstCheck dim L
theorem dataCheck_ok {dim : Int} {L : List (List Int)} (h : dataCheck dim L = 0) : 1 ≤ dim ∧ dim ≤ 1024 ∧ ∀ x ∈ L, vecCheck x dim = 0 := by
  unfold dataCheck at h
  split at h
  · simp at h
  · refine ⟨by omega, by omega, fun x hx => ?_⟩
    cases hf : L.find? (fun x => vecCheck x dim != 0) with
    | none =>
      have := List.find?_eq_none.1 hf x hx
      simpa using this
    | some y =>
      unfold firstCheck at h
      rw [hf] at h
      have := List.find?_some hf
      simp at this h
      exact absurd h this

theorem flat_dim {dim : Int} : ∀ (L : List (List Int)), (∀ x ∈ L, (x.length : Int) = dim) → (L.flatten.length : Int) = L.length * dim
  | [], _ => by simp
  | x :: L, h => by
    have h1 := h x (by simp)
    have h2 := flat_dim L (fun y hy => h y (by simp [hy]))
    simp only [List.flatten_cons, List.length_append, List.length_cons]
    rw [show ((L.length + 1 : Nat) : Int) * dim = L.length * dim + dim by rw [Int.natCast_add, Int.add_mul]; simp]
    omega

set_option maxHeartbeats 2000000 in
set_option maxRecDepth 100000 in
theorem of_calls_ok (dim : Int) (v : Value) (L : List (List Int)) (M : List Nat) (w : World) (h : (Kd.int .i32).slice.slice.At M w [v] L) (hc : dataCheck dim L = 0) (hL : L.length ≤ 1048576) :
    Calls Try.prog 22 #[.int .i64 dim, v] w fun e w' => ∃ p, e = .returned (.tuple #[.pointer (some ⟨p, 0, none⟩), .int .i64 0]) ∧ w.heap.size ≤ p ∧ (∃ v', OwnItems w' w.heap.size p dim v' L.flatten) ∧ Below w.heap.size w w' := by
  obtain ⟨hd1, hd2, hall⟩ := dataCheck_ok hc
  obtain ⟨ao, cap, rfl, hl, hcap⟩ := Kd.slice_form h
  unfold maxLen at hcap
  have H := Lib.hid h
  have HALL := Lib.hid hall
  have HN := Lib.hid (data_new_calls dim hd1 hd2 w)
  have HLL := Lib.hid hL
  clear h hall hc hL
  go_enter Try.func22, Try.ntmps22
  go_wp2_with fail
  refine HN.out.mono ?_
  rintro e w1 ⟨p, rfl, hown1, hb1⟩
  have HO1 := Lib.hid hown1
  have HB1 := Lib.hid hb1
  clear hown1 hb1 HN
  go_wp2_with fail
  go_loopw [22] (fun i wr => ∃ (k : Nat) (v' : Value), k ≤ L.length ∧ i = .int .i64 k ∧ Hid (OwnItems wr w.heap.size p dim v' (L.take k).flatten) ∧ Hid (Below w.heap.size w wr)) (fun i _ => L.length - (intOf i).toNat)
  case atStart => exact ⟨0, _, Nat.zero_le _, rfl, HO1, HB1⟩
  case round =>
    obtain ⟨k, v', hk, rfl, hown, hw⟩ := hrel
    by_cases hlt : k < L.length
    · obtain ⟨x, hx⟩ : ∃ x, L[k]? = some x := ⟨_, List.getElem?_eq_getElem hlt⟩
      have hpp := hown.out.le
      have hob := hown.out.row.ob_lt
      obtain ⟨b, o, c, vi, hv, _, _, _, _, c0, hxi⟩ := lists_at (H.out.upd (Upd.ofBelow hw.out []) (by simp) (M' := p :: ob v' ++ []) (fun j hj => by
        rw [List.append_nil] at hj
        rcases List.mem_cons.1 hj with rfl | hj
        · exact .inr hpp
        · exact .inr (hob j hj).1)) hx
      simp at hv
      obtain ⟨rfl, rfl⟩ := hv
      have hsn : (L.take (k + 1)).flatten = (L.take k).flatten ++ x := by rw [take_snoc' hx]; simp
      have hfd := flat_dim (dim := dim) (L.take k) (fun y hy => (Bd21.vec (HALL.out y (List.mem_of_mem_take hy))).2.1)
      rw [List.length_take, show min k L.length = k by omega] at hfd
      have HA := Lib.hid (add_calls wr w.heap.size p dim v' _ k vi x [] hown.out hxi (HALL.out x (List.mem_of_getElem? hx)) hfd (by have := HLL.out; omega) hw.out.size)
      have HSN := Lib.hid hsn
      have HOL := Lib.hid hob
      have i0 : (0 : Int) ≤ (k : Int) := by omega
      have i1 : (k : Int) < (L.length : Int) := by omega
      clear hx hsn hfd hxi hob
      go_wp2_with fail
      refine HA.out.mono ?_
      rintro e w2 ⟨rfl, v2, hown2, hu2, ho2⟩
      have HO2 := Lib.hid hown2
      have HB2 := Lib.hid (hw.out.trans (hu2.belowB hw.out.size (fun j hj => by
        rcases List.mem_cons.1 hj with rfl | hj
        · exact hpp
        · exact (HOL.out j hj).1)))
      clear hown2 hu2 ho2 HA
      go_wp2_with fail
      go_roundw
      case rel => exact ⟨k + 1, v2, by omega, by go_num, by rw [HSN.out]; exact HO2, HB2⟩
      case measure => simp [intOf]; omega
    · have hkk : k = L.length := by omega
      have HF : Hid (OwnItems wr w.heap.size p dim v' L.flatten) := Lib.hid (by
        have := hown.out
        rw [List.take_of_length_le (by omega)] at this
        exact this)
      clear hown hkk
      go_wp2_with fail
      go_ret2
      exact ⟨p, rfl, HF.out.le, ⟨v', HF.out⟩, hw.out⟩

end Go.Proofs.Ytglghgjbnoldaaa
