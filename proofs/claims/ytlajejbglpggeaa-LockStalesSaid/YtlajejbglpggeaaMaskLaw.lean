/-
  A number's low bits: masks by all ones.
-/
import Derived.WalkKit
import Derived.Laws.BitsLemmas
namespace Go.Proofs.Ytlajejbglpggeaa
open Go.RowKit

theorem and_ones (p : Nat) (hp : p ≤ 62) (m : Int) (hm : (BitVec.ofInt 64 m).toNat = 2 ^ p - 1) (n : Int) : bits .and .i64 n m = n % ((2 ^ p : Nat) : Int) := by
  have key : (BitVec.ofInt 64 n &&& BitVec.ofInt 64 m).toNat = (n % ((2 ^ 64 : Nat) : Int)).toNat % 2 ^ p := by
    rw [BitVec.toNat_and, BitVec.toNat_ofInt, hm, Nat.and_two_pow_sub_one_eq_mod]
  show IntKind.i64.wrap ((BitVec.ofInt 64 n &&& BitVec.ofInt 64 m).toNat : Nat) = _
  rw [key]
  have hd : (2 ^ p : Nat) ∣ 2 ^ 64 := Nat.pow_dvd_pow 2 (by omega)
  have h0 : 0 ≤ n % ((2 ^ 64 : Nat) : Int) := Int.emod_nonneg _ (by decide)
  have h1 : (((n % ((2 ^ 64 : Nat) : Int)).toNat % 2 ^ p : Nat) : Int) = n % ((2 ^ p : Nat) : Int) := by
    rw [Int.natCast_emod, Int.toNat_of_nonneg h0]
    exact Int.emod_emod_of_dvd n (Int.natCast_dvd_natCast.2 hd)
  rw [h1, IntKind.wrap_i64]
  have hlt : (2 ^ p : Nat) ≤ 2 ^ 62 := Nat.pow_le_pow_right (by decide) hp
  have hpos : 0 < (2 ^ p : Nat) := Nat.two_pow_pos p
  have h2 := Int.emod_nonneg n (show ((2 ^ p : Nat) : Int) ≠ 0 by omega)
  have h3 := Int.emod_lt_of_pos n (show (0 : Int) < ((2 ^ p : Nat) : Int) by omega)
  generalize (2 ^ p : Nat) = q at *
  omega
/-- a mask's value, as a letter -/
theorem mask_in (p : Nat) (hp : p ≤ 62) (m : Int) (hm : (BitVec.ofInt 64 m).toNat = 2 ^ p - 1) (n : Int) : ∃ k : Int, bits .and .i64 n m = k ∧ k = n % ((2 ^ p : Nat) : Int) ∧ 0 ≤ k ∧ k ≤ ((2 ^ p : Nat) : Int) - 1 := by
  have hpos : 0 < (2 ^ p : Nat) := Nat.two_pow_pos p
  have h2 := Int.emod_nonneg n (show ((2 ^ p : Nat) : Int) ≠ 0 by omega)
  have h3 := Int.emod_lt_of_pos n (show (0 : Int) < ((2 ^ p : Nat) : Int) by omega)
  exact ⟨_, and_ones p hp m hm n, rfl, h2, by omega⟩
end Go.Proofs.Ytlajejbglpggeaa
