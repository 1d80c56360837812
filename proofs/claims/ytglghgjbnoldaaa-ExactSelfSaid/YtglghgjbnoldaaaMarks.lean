/-
Contracts of marks: New, Has, Add, Len, over the set that it is.
-/
import Derived.Test.YtglghgjbnoldaaaPlain
import Derived.Deep.DeepCutAuto
import Derived.Deep.CutBlock
namespace Go.Proofs.Ytglghgjbnoldaaa
set_option linter.unusedVariables false
set_option linter.unusedSimpArgs false
open Go.RowKit

theorem nodup_len : ∀ (n : Nat) (S : List Int), S.Nodup → (∀ x ∈ S, 0 ≤ x ∧ x < (n : Int)) → S.length ≤ n
  | 0, [], _, _ => by simp
  | 0, x :: S, _, h => by have := h x (by simp); omega
  | n + 1, S, hn, h => by
    have ih := nodup_len n (S.erase (n : Int)) (hn.erase _) (fun x hx => by
      rw [hn.mem_erase_iff] at hx
      have := h x hx.2
      have := hx.1
      omega)
    rw [List.length_erase] at ih
    split at ih <;> omega

theorem bit_is (x k : Nat) (h : x < 2 ^ 64) : (bits .and .u64 ((x : Int) / 2 ^ k) 1 == 1) = x.testBit k := by
  have e : (x : Int) / 2 ^ k = ((x >>> k : Nat) : Int) := by rw [Nat.shiftRight_eq_div_pow, Int.natCast_ediv, Int.natCast_pow]; rfl
  have hlt : x >>> k < 18446744073709551616 := by rw [Nat.shiftRight_eq_div_pow]; exact Nat.lt_of_le_of_lt (Nat.div_le_self _ _) h
  rw [e]
  have hz : ((x >>> k : Nat) : Int) < 18446744073709551616 := Int.ofNat_lt.2 hlt
  rw [u64_and _ 1 (Int.natCast_nonneg _) hz (by omega) (by omega)]
  simp only [Int.toNat_natCast, Nat.testBit]
  have h1 : (1 : Int).toNat = 1 := rfl
  rw [h1, Nat.and_comm 1]
  rcases Nat.mod_two_eq_zero_or_one (x >>> k) with h0 | h0 <;> simp [Nat.and_one_is_mod, h0]

theorem bit_set (x k : Nat) (h : x < 2 ^ 64) (hk : k < 64) : bits .or .u64 (x : Int) (IntKind.u64.wrap (2 ^ k)) = ((x ||| 2 ^ k : Nat) : Int) ∧ x ||| 2 ^ k < 2 ^ 64 := by
  have hp : 2 ^ k < 2 ^ 64 := Nat.pow_lt_pow_right (by decide) hk
  have hw : IntKind.u64.wrap (2 ^ k) = ((2 ^ k : Nat) : Int) := by
    have : ((2 ^ k : Nat) : Int) = 2 ^ k := by rw [Int.natCast_pow]; rfl
    rw [← this]
    have h2 : ((2 ^ k : Nat) : Int) < 18446744073709551616 := Int.ofNat_lt.2 hp
    exact IntWalk.u64_in _ ⟨Int.natCast_nonneg _, by omega⟩
  rw [hw]
  generalize 2 ^ k = y at *
  rw [u64_or _ _ (by omega) (by omega) (by omega) (by omega)]
  exact ⟨by simp, Nat.or_lt_two_pow h hp⟩

/-- What is met already, or can't be, isn't added. -/
def addsTo (n : Nat) (S : List Int) (id : Int) : Bool := decide (0 ≤ id ∧ id < (n : Int) ∧ id ∉ S)

theorem A.infoU64 : (Try.prog.info? 102).map (fun i => (i.zero, i.size, i.bytes)) = some (some (.int .u64 0), 1, 8) := by kernel_rfl

theorem madeCells_zero (v : Value) (m : Nat) : madeCells #[v] m = (List.replicate m v).toArray := by
  apply Array.ext
  · simp [madeCells]
  · intro i h1 h2
    simp [madeCells, Nat.mod_one]

/-- The words of an empty set. -/
def noWords (m : Nat) : Obj := .cells ((List.replicate m 0).map (fun x : Nat => Value.int .u64 (x : Int))).toArray 102

end Go.Proofs.Ytglghgjbnoldaaa
