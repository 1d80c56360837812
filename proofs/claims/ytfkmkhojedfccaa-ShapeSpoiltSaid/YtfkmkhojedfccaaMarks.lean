/-
Contracts of marks: New, Has, Add, Len, over the set that it is.
-/
import Derived.Test.YtfkmkhojedfccaaPlain
import Derived.Deep.DeepCutAuto
import Derived.Deep.CutBlock
namespace Go.Proofs.Ytfkmkhojedfccaa
set_option linter.unusedVariables false
set_option linter.unusedSimpArgs false
open Go.RowKit

/-- A block p is the set of those met (S, in the order of their coming) of n; g: the bits' block. -/
structure IsSet (w : World) (p g : Nat) (n : Nat) (S : List Int) : Prop where
  hp : w.heap[p]? = some (.cells #[.int .i64 n, .int .i64 S.length, .slice (some ⟨g, 0, none⟩) ((n + 63) / 64) ((n + 63) / 64)] 187)
  hg : ∃ (ws : List Nat) (t : TypeId), w.heap[g]? = some (.cells (ws.map (fun x : Nat => Value.int .u64 (x : Int))).toArray t) ∧ ws.length = (n + 63) / 64 ∧ (∀ x ∈ ws, x < 2 ^ 64) ∧
    ∀ i : Nat, i < n → ∃ x, ws[i / 64]? = some x ∧ x.testBit (i % 64) = decide ((i : Int) ∈ S)
  ne : p ≠ g
  nd : S.Nodup
  le : ∀ x ∈ S, 0 ≤ x ∧ x < (n : Int)
  nm : n < 2 ^ 62

theorem IsSet.upd {w w' : World} {p g n : Nat} {S : List Int} {T : List Nat} (h : IsSet w p g n S) (hu : Upd T w w') (hp : p ∉ T) (hg : g ∉ T) : IsSet w' p g n S := by
  obtain ⟨ws, t, h1, h2⟩ := h.hg
  exact ⟨(hu.block p (block_lt h.hp) hp).trans h.hp, ⟨ws, t, (hu.block g (block_lt h1) hg).trans h1, h2⟩, h.ne, h.nd, h.le, h.nm⟩

theorem nodup_len : ∀ (n : Nat) (S : List Int), S.Nodup → (∀ x ∈ S, 0 ≤ x ∧ x < (n : Int)) → S.length ≤ n
  | 0, [], _, _ => by simp
  | 0, x :: S, _, h => by have := h x (by simp); omega
  | n + 1, S, hn, h => by
    have ih := nodup_len n (S.erase (n : Int)) (hn.erase _) (fun x hx => by
      rw [hn.mem_erase_iff] at hx
      have := h x hx.2
      have := hx.1
      omega)
    rw [List.length_erase] at ih
    split at ih <;> omega

theorem bit_is (x k : Nat) (h : x < 2 ^ 64) : (bits .and .u64 ((x : Int) / 2 ^ k) 1 == 1) = x.testBit k := by
  have e : (x : Int) / 2 ^ k = ((x >>> k : Nat) : Int) := by rw [Nat.shiftRight_eq_div_pow, Int.natCast_ediv, Int.natCast_pow]; rfl
  have hlt : x >>> k < 18446744073709551616 := by rw [Nat.shiftRight_eq_div_pow]; exact Nat.lt_of_le_of_lt (Nat.div_le_self _ _) h
  rw [e]
  have hz : ((x >>> k : Nat) : Int) < 18446744073709551616 := Int.ofNat_lt.2 hlt
  rw [u64_and _ 1 (Int.natCast_nonneg _) hz (by omega) (by omega)]
  simp only [Int.toNat_natCast, Nat.testBit]
  have h1 : (1 : Int).toNat = 1 := rfl
  rw [h1, Nat.and_comm 1]
  rcases Nat.mod_two_eq_zero_or_one (x >>> k) with h0 | h0 <;> simp [Nat.and_one_is_mod, h0]

theorem bit_set (x k : Nat) (h : x < 2 ^ 64) (hk : k < 64) : bits .or .u64 (x : Int) (IntKind.u64.wrap (2 ^ k)) = ((x ||| 2 ^ k : Nat) : Int) ∧ x ||| 2 ^ k < 2 ^ 64 := by
  have hp : 2 ^ k < 2 ^ 64 := Nat.pow_lt_pow_right (by decide) hk
  have hw : IntKind.u64.wrap (2 ^ k) = ((2 ^ k : Nat) : Int) := by
    have : ((2 ^ k : Nat) : Int) = 2 ^ k := by rw [Int.natCast_pow]; rfl
    rw [← this]
    have h2 : ((2 ^ k : Nat) : Int) < 18446744073709551616 := Int.ofNat_lt.2 hp
    exact IntWalk.u64_in _ ⟨Int.natCast_nonneg _, by omega⟩
  rw [hw]
  generalize 2 ^ k = y at *
  rw [u64_or _ _ (by omega) (by omega) (by omega) (by omega)]
  exact ⟨by simp, Nat.or_lt_two_pow h hp⟩

theorem marks_len_calls (p g n : Nat) (S : List Int) (w : World) (h : IsSet w p g n S) :
    Calls Try.prog 92 #[.pointer (some ⟨p, 0, none⟩)] w fun e w' => e = .returned (.int .i64 S.length) ∧ w = w' := by
  have c1 : w.cell? ⟨p, 1, none⟩ = some (.int .i64 S.length) := by rw [cell_of_block h.hp]; rfl
  clear h
  go_enter Try.func92, Try.ntmps92
  go_wp2
  go_ret
  exact ⟨rfl, rfl⟩

theorem marks_has_calls (p g n : Nat) (S : List Int) (id : Int) (w : World) (h : IsSet w p g n S) :
    Calls Try.prog 111 #[.pointer (some ⟨p, 0, none⟩), .int .i64 id] w fun e w' => e = .returned (.bool (decide (id ∈ S))) ∧ w = w' := by
  have c0 : w.cell? ⟨p, 0, none⟩ = some (.int .i64 n) := by rw [cell_of_block h.hp]; rfl
  have c2 : w.cell? ⟨p, 2, none⟩ = some (.slice (some ⟨g, 0, none⟩) ((n + 63) / 64) ((n + 63) / 64)) := by rw [cell_of_block h.hp]; rfl
  have hle := Lib.hid h.le
  have hnm := h.nm
  by_cases hlo : 0 ≤ id
  · by_cases hhi : id < n
    · obtain ⟨i, rfl⟩ : ∃ i : Nat, id = i := ⟨id.toNat, by omega⟩
      have hi : i < n := by omega
      obtain ⟨ws, t, h1, h2, h3, h4⟩ := h.hg
      obtain ⟨x, hx, hb⟩ := h4 i hi
      have hx64 := h3 x (List.mem_of_getElem? hx)
      have c3 : w.cell? ⟨g, i / 64, none⟩ = some (.int .u64 (x : Int)) := by rw [cell_of_block h1]; simp [hx]
      rw [← hb]
      have HB := Lib.hid hb
      clear h h1 h2 h3 h4 hx hb
      go_enter Try.func111, Try.ntmps111
      go_wp2_with fail
      go_ret
      rw [bit_is x (i % 64) hx64]
      exact ⟨rfl, rfl⟩
    · have e : decide (id ∈ S) = false := by rw [decide_eq_false_iff_not]; intro hm; have := hle.out _ hm; omega
      rw [e]
      clear h e
      go_enter Try.func111, Try.ntmps111
      go_wp2_with fail
      go_ret
      exact ⟨rfl, rfl⟩
  · have e : decide (id ∈ S) = false := by rw [decide_eq_false_iff_not]; intro hm; have := hle.out _ hm; omega
    rw [e]
    clear h e
    go_enter Try.func111, Try.ntmps111
    go_wp2_with fail
    go_ret
    exact ⟨rfl, rfl⟩

/-- What is met already, or can't be, isn't added. -/
def addsTo (n : Nat) (S : List Int) (id : Int) : Bool := decide (0 ≤ id ∧ id < (n : Int) ∧ id ∉ S)

set_option maxHeartbeats 1000000 in
theorem marks_add_calls (p g n : Nat) (S : List Int) (id : Int) (w : World) (h : IsSet w p g n S) :
    Calls Try.prog 91 #[.pointer (some ⟨p, 0, none⟩), .int .i64 id] w fun e w' => e = .returned (.bool (addsTo n S id)) ∧ Upd [p, g] w w' ∧ IsSet w' p g n (if addsTo n S id then S ++ [id] else S) := by
  have c0 : w.cell? ⟨p, 0, none⟩ = some (.int .i64 n) := by rw [cell_of_block h.hp]; rfl
  have c1 : w.cell? ⟨p, 1, none⟩ = some (.int .i64 S.length) := by rw [cell_of_block h.hp]; rfl
  have c2 : w.cell? ⟨p, 2, none⟩ = some (.slice (some ⟨g, 0, none⟩) ((n + 63) / 64) ((n + 63) / 64)) := by rw [cell_of_block h.hp]; rfl
  have hle := Lib.hid h.le
  have hnm := h.nm
  by_cases hlo : 0 ≤ id
  · by_cases hhi : id < n
    · have HC := Lib.hid (marks_has_calls p g n S id w h)
      by_cases hmem : id ∈ S
      · have e : addsTo n S id = false := by simp [addsTo, hmem]
        have e2 : decide (id ∈ S) = true := by simp [hmem]
        rw [e]
        rw [e2] at HC
        simp only [Bool.false_eq_true, if_false]
        have HS := Lib.hid h
        clear h hmem e e2 hle
        go_enter Try.func91, Try.ntmps91
        go_wp2_with fail
        refine HC.out.mono ?_
        rintro e w' ⟨rfl, rfl⟩
        go_wp2_with fail
        go_ret
        exact ⟨rfl, Upd.refl _ _, HS.out⟩
      · have e : addsTo n S id = true := by simp [addsTo, hmem, hlo, hhi]
        have e2 : decide (id ∈ S) = false := by simp [hmem]
        rw [e]
        rw [e2] at HC
        simp only [if_true]
        obtain ⟨i, rfl⟩ : ∃ i : Nat, id = i := ⟨id.toNat, by omega⟩
        have hi : i < n := by omega
        obtain ⟨ws, t, h1, h2, h3, h4⟩ := h.hg
        obtain ⟨x, hx, hb⟩ := h4 i hi
        have hx64 := h3 x (List.mem_of_getElem? hx)
        have c3 : w.cell? ⟨g, i / 64, none⟩ = some (.int .u64 (x : Int)) := by rw [cell_of_block h1]; simp [hx]
        have f3 : w.frozen? ⟨g, i / 64, none⟩ = false := frozen_of_block h1
        obtain ⟨W1, hW1⟩ : ∃ W1, (w.setCell ⟨g, i / 64, none⟩ (.int .u64 (bits .or .u64 (x : Int) (IntKind.u64.wrap (2 ^ (i % 64)))))).drew = W1 := ⟨_, rfl⟩
        have hW2 := hW1
        rw [(bit_set x (i % 64) hx64 (Nat.mod_lt _ (by decide))).1] at hW2
        have HW2 := Lib.hid hW2
        have e1 : W1.heap[p]? = w.heap[p]? := by
          rw [← hW2]; exact Below.heap_setCell _ _ _ _ h.ne
        have hset : IsSet (W1.setCell ⟨p, 1, none⟩ (.int .i64 ((S.length : Int) + 1))) p g n (S ++ [(i : Int)]) := by
          have hb2 := (bit_set x (i % 64) hx64 (Nat.mod_lt _ (by decide))).2
          have e2 := heap_setCell_same W1 p 1 _ _ (.int .i64 ((S.length : Int) + 1)) (e1.trans h.hp)
          have e3 : W1.heap[g]? = some (.cells ((ws.map (fun x : Nat => Value.int .u64 (x : Int))).toArray.setIfInBounds (i / 64) (.int .u64 ((x ||| 2 ^ (i % 64) : Nat) : Int))) t) := by
            rw [← hW2]; exact heap_setCell_same w g (i / 64) _ _ _ h1
          refine ⟨e2.trans ?_, ⟨ws.set (i / 64) (x ||| 2 ^ (i % 64)), t, (Below.heap_setCell _ _ _ _ (fun e => h.ne e.symm)).trans (e3.trans ?_), by simp [h2], ?_, ?_⟩, h.ne, ?_, ?_, h.nm⟩
          · simp
          · congr 1
            congr 1
            apply Array.ext'
            simp [List.map_set]
          · intro y hy
            rcases List.mem_or_eq_of_mem_set hy with hy | rfl
            · exact h3 y hy
            · exact hb2
          · intro j hj
            obtain ⟨y, hy, hyb⟩ := h4 j hj
            by_cases hji : j / 64 = i / 64
            · refine ⟨x ||| 2 ^ (i % 64), by rw [hji, List.getElem?_set_self (List.getElem?_eq_some_iff.1 hx).1], ?_⟩
              rw [hji, hx] at hy
              cases hy
              rw [Nat.testBit_or, hyb, Nat.testBit_two_pow]
              by_cases hjj : j = i
              · subst hjj; simp
              · have : i % 64 ≠ j % 64 := by omega
                simp [this]
                omega
            · refine ⟨y, by rw [List.getElem?_set_ne (fun e => hji e.symm)]; exact hy, ?_⟩
              rw [hyb]
              have : j ≠ i := by rintro rfl; exact hji rfl
              simp
              omega
          · rw [List.nodup_append]
            exact ⟨h.nd, by simp, by simp only [List.mem_singleton]; rintro a ha b rfl rfl; exact hmem ha⟩
          · intro y hy
            rcases List.mem_append.1 hy with hy | hy
            · exact h.le y hy
            · simp at hy; subst hy; omega
        have hupd : Upd [p, g] w (W1.setCell ⟨p, 1, none⟩ (.int .i64 ((S.length : Int) + 1))) := by
          rw [← hW1]
          exact ((Upd.setCell (by simp) _).trans (Upd.drew _ _)).trans (Upd.setCell (by simp) _)
        have HSET := Lib.hid hset
        have HUPD := Lib.hid hupd
        have hSl : (S.length : Int) ≤ n := Int.ofNat_le.2 (nodup_len n S h.nd h.le)
        clear hset hupd
        have d1 : W1.cell? ⟨p, 1, none⟩ = some (.int .i64 S.length) := by rw [cell_of_block (e1.trans h.hp)]; rfl
        have g1 : W1.frozen? ⟨p, 1, none⟩ = false := frozen_of_block (e1.trans h.hp)
        clear hW2 e1
        have HS := Lib.hid h
        clear h hmem e e2 hle h1 h2 h3 h4 hx hb
        go_enter Try.func91, Try.ntmps91
        go_wp2_with fail
        refine HC.out.mono ?_
        rintro e w' ⟨rfl, rfl⟩
        go_wp2_with fail
        go_region
        clear hW1
        go_wp2_with fail
        go_ret
        exact ⟨rfl, HUPD.out, HSET.out⟩
    · have e : addsTo n S id = false := by simp [addsTo]; intros; omega
      rw [e]
      simp only [Bool.false_eq_true, if_false]
      have HS := Lib.hid h
      clear h e
      go_enter Try.func91, Try.ntmps91
      go_wp2_with fail
      go_ret
      exact ⟨rfl, Upd.refl _ _, HS.out⟩
  · have e : addsTo n S id = false := by simp [addsTo]; intros; omega
    rw [e]
    simp only [Bool.false_eq_true, if_false]
    have HS := Lib.hid h
    clear h e
    go_enter Try.func91, Try.ntmps91
    go_wp2_with fail
    go_ret
    exact ⟨rfl, Upd.refl _ _, HS.out⟩

theorem A.infoU64 : (Try.prog.info? 54).map (fun i => (i.zero, i.size, i.bytes)) = some (some (.int .u64 0), 1, 8) := by kernel_rfl

theorem madeCells_zero (v : Value) (m : Nat) : madeCells #[v] m = (List.replicate m v).toArray := by
  apply Array.ext
  · simp [madeCells]
  · intro i h1 h2
    simp [madeCells, Nat.mod_one]

/-- The words of an empty set. -/
def noWords (m : Nat) : Obj := .cells ((List.replicate m 0).map (fun x : Nat => Value.int .u64 (x : Int))).toArray 54

theorem made_u64 (m : Nat) (hm : m ≤ 1099511627776) (x : Int) (hx : x = m) (w : World) :
    (Instr.makeSlice 55 (.int .i64 x) (.int .i64 x)).run Try.prog w = .ok (.slice (some ⟨w.heap.size, 0, none⟩) m m) (w.alloc (noWords m)) := by
  obtain ⟨i0, hi, hz0, hz1, hz2⟩ := info_parts A.infoU64
  subst hx
  have h := run_make (P := Try.prog) w 55 54 i0 _ Try.underlying55 hi hz0 .i64 .i64 m m (by omega) (by omega) (by rw [hz2]; omega) (by omega)
  rw [h, hz1, Nat.mul_one]
  simp only [Int.toNat_natCast, Value.cells]
  rw [madeCells_zero]
  simp [noWords]

theorem isSet_new (w : World) (n : Nat) (hn : n < 2 ^ 62) {B : Nat} (hB : B ≤ w.heap.size) :
    IsSet ((w.alloc (noWords ((n + 63) / 64))).alloc (.cells #[.int .i64 n, .int .i64 0, .slice (some ⟨w.heap.size, 0, none⟩) ((n + 63) / 64) ((n + 63) / 64)] 187)) (w.heap.size + 1) w.heap.size n [] := by
  refine ⟨?_, ⟨List.replicate ((n + 63) / 64) 0, 54, ?_, by simp, ?_, ?_⟩, by omega, by simp, by simp, hn⟩
  · have := Go.heap_alloc_new (w.alloc (noWords ((n + 63) / 64))) (.cells #[.int .i64 n, .int .i64 0, .slice (some ⟨w.heap.size, 0, none⟩) ((n + 63) / 64) ((n + 63) / 64)] 187)
    simpa using this
  · rw [Below.heap_alloc _ _ _ (by simp)]
    exact Go.heap_alloc_new w _
  · intro x hx
    rw [List.mem_replicate] at hx
    rw [hx.2]
    decide
  · intro i hi
    exact ⟨0, by rw [List.getElem?_replicate]; simp; omega, by simp⟩

set_option maxHeartbeats 1000000 in
theorem marks_new_calls (k : Int) (hk : k ≤ 1099511627776) (w : World) :
    Calls Try.prog 90 #[.int .i64 k] w fun e w' => ∃ p g, e = .returned (.pointer (some ⟨p, 0, none⟩)) ∧ Below w.heap.size w w' ∧ IsSet w' p g k.toNat [] ∧ w.heap.size ≤ p ∧ w.heap.size ≤ g := by
  have hb2 : ∀ o1 o2, Below w.heap.size w ((w.alloc o1).alloc o2) := fun o1 o2 => ((Below.refl _ w).alloc (Nat.le_refl _) o1).alloc (by simp) o2
  have HB := Lib.hid hb2
  clear hb2
  by_cases hlo : 0 ≤ k
  · obtain ⟨n, rfl⟩ : ∃ n : Nat, k = n := ⟨k.toNat, by omega⟩
    have hm : max (n : Int) 0 = (n : Int) := by omega
    have hmk := made_u64 ((n + 63) / 64) (by omega) (((n : Int) + 64 - 1) / 64) (by omega) w
    have hnew := Lib.hid (isSet_new w n (by omega) (Nat.le_refl _))
    rw [Int.toNat_natCast]
    generalize noWords ((n + 63) / 64) = o at *
    go_enter Try.func90, Try.ntmps90
    go_wp2_with fail
    go_ret
    exact ⟨_, _, rfl, HB.out _ _, hnew.out, by omega, by omega⟩
  · have hm : max k 0 = 0 := by omega
    have hkz : k.toNat = 0 := by omega
    rw [hkz]
    have hmk := made_u64 0 (by omega) 0 rfl w
    have hnew := Lib.hid (isSet_new w 0 (by omega) (Nat.le_refl _))
    simp only [Nat.zero_add, show (63 : Nat) / 64 = 0 from rfl] at hnew
    generalize noWords 0 = o at *
    go_enter Try.func90, Try.ntmps90
    go_wp2_with fail
    go_ret
    exact ⟨_, rfl, HB.out _ _, _, hnew.out, by omega, by omega⟩

end Go.Proofs.Ytfkmkhojedfccaa
