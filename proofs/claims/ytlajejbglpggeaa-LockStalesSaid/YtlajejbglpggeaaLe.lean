/-
  Plain laws of numbers in bytes, the lowest first; of a chain of a panic with an error.
-/
import Derived.Test.YtlajejbglpggeaaBase0
namespace Go.Proofs.Ytlajejbglpggeaa
open Go.RowKit

/-- a number's lowest bytes, the lowest first -/
def leB : Nat → Nat → Bs
  | 0, _ => []
  | k + 1, n => UInt8.ofNat n :: leB k (n / 256)
/-- the number that bytes are -/
def leN : Bs → Nat
  | [] => 0
  | c :: r => c.toNat + 256 * leN r
theorem leB_length : ∀ (k n : Nat), (leB k n).length = k
  | 0, _ => rfl
  | k + 1, n => by simp [leB, leB_length k]
theorem leN_leB : ∀ (k n : Nat), leN (leB k n) = n % 256 ^ k
  | 0, n => by simp [leB, leN, Nat.mod_one]
  | k + 1, n => by
    have h := leN_leB k (n / 256)
    show (UInt8.ofNat n).toNat + 256 * leN (leB k (n / 256)) = _
    have e : n % 2 ^ 8 = n % 256 := rfl
    rw [h, UInt8.toNat_ofNat', e, Nat.pow_succ 256 k, Nat.mul_comm (256 ^ k) 256, Nat.mod_mul]
theorem leN_lt : ∀ l : Bs, leN l < 256 ^ l.length
  | [] => by simp [leN]
  | c :: r => by
    have h := leN_lt r
    have hc := c.toNat_lt
    show c.toNat + 256 * leN r < 256 ^ (r.length + 1)
    rw [Nat.pow_succ]
    omega
theorem leB_take : ∀ (i k n : Nat), i ≤ k → (leB k n).take i = leB i n
  | 0, _, _, _ => by simp [leB]
  | i + 1, 0, _, h => by omega
  | i + 1, k + 1, n, h => by simp [leB, leB_take i k (n / 256) (by omega)]
theorem leB_snoc : ∀ (i n : Nat), leB (i + 1) n = leB i n ++ [UInt8.ofNat (n / 256 ^ i)]
  | 0, n => by simp [leB]
  | i + 1, n => by
    have h := leB_snoc i (n / 256)
    show UInt8.ofNat n :: leB (i + 1) (n / 256) = UInt8.ofNat n :: leB i (n / 256) ++ _
    rw [h, Nat.div_div_eq_div_mul, Nat.pow_succ, Nat.mul_comm 256]
    simp
theorem leN_append : ∀ (a b : Bs), leN (a ++ b) = leN a + 256 ^ a.length * leN b
  | [], b => by simp [leN]
  | c :: r, b => by
    have h := leN_append r b
    show c.toNat + 256 * leN (r ++ b) = c.toNat + 256 * leN r + 256 ^ (r.length + 1) * leN b
    rw [h, Nat.pow_succ, Nat.mul_add, Nat.mul_comm (256 ^ r.length) 256, Nat.mul_assoc, Nat.add_assoc]
theorem leB_leN : ∀ l : Bs, leB l.length (leN l) = l
  | [] => rfl
  | c :: r => by
    have h := leB_leN r
    show UInt8.ofNat (c.toNat + 256 * leN r) :: leB r.length ((c.toNat + 256 * leN r) / 256) = c :: r
    have hc := c.toNat_lt
    have h1 : (c.toNat + 256 * leN r) / 256 = leN r := by omega
    have h2 : UInt8.ofNat (c.toNat + 256 * leN r) = c := by
      apply UInt8.toNat_inj.1
      rw [UInt8.toNat_ofNat']
      omega
    rw [h1, h2, h]
theorem leB_inj {k n m : Nat} (h : leB k n = leB k m) : n % 256 ^ k = m % 256 ^ k := by rw [← leN_leB, ← leN_leB, h]
/-- a size within its bounds -/
def heldB (n : Int) : Int := min (max n 1) 8
theorem heldB_in (n : Int) : 1 ≤ heldB n ∧ heldB n ≤ 8 := by unfold heldB; omega
/-- what a panic with an error's number leaves -/
def errChain (k : Int) : List PanicEntry := [{ v := .iface 29 (.int .i64 k), recovered := false }]
end Go.Proofs.Ytlajejbglpggeaa
