/-
  Numbers out of bytes: sums of bytes and the bitwise or of what does not overlap.
-/
import Derived.Test.YthmenbehpblljaaAid
namespace Go.Proofs.Ythmenbehpblljaa
open Go Go.RowKit

/-- The number that bytes denote, the least one first. -/
def leSum (f : Nat → Int) : Nat → Int
  | 0 => 0
  | k + 1 => leSum f k + f k * 2 ^ (8 * k)

theorem leSum_bd (f : Nat → Int) (h : ∀ i, 0 ≤ f i ∧ f i ≤ 255) (k : Nat) : 0 ≤ leSum f k ∧ leSum f k < 2 ^ (8 * k) := by
  induction k with
  | zero => simp [leSum]
  | succ k ih =>
    obtain ⟨h0, h1⟩ := h k
    have e : (2 : Int) ^ (8 * (k + 1)) = 256 * 2 ^ (8 * k) := by rw [Nat.mul_add, Int.pow_add]; omega
    have hp : (0 : Int) < 2 ^ (8 * k) := Int.pow_pos (by decide)
    have h2 : 0 ≤ f k * 2 ^ (8 * k) := Int.mul_nonneg h0 (by omega)
    have h3 : f k * 2 ^ (8 * k) ≤ 255 * 2 ^ (8 * k) := Int.mul_le_mul_of_nonneg_right h1 (by omega)
    simp only [leSum]
    rw [e]
    omega

theorem or_step (A q : Int) (k : Nat) (h0 : 0 ≤ A) (hA : A < 2 ^ (8 * k)) (hq0 : 0 ≤ q) (hq : q ≤ 255) (hk : k < 8) : bits .or .u64 A (IntKind.u64.wrap (q * 2 ^ (8 * k))) = A + q * 2 ^ (8 * k) := by
  obtain ⟨a, rfl⟩ := Int.eq_ofNat_of_zero_le h0
  obtain ⟨b, rfl⟩ := Int.eq_ofNat_of_zero_le hq0
  have hA' : a < 2 ^ (8 * k) := by exact_mod_cast hA
  have hb : b ≤ 255 := by omega
  have hp : 2 ^ (8 * k) ≤ 2 ^ 56 := Nat.pow_le_pow_right (by decide) (by omega)
  have hlt : b * 2 ^ (8 * k) < 18446744073709551616 := by
    have : b * 2 ^ (8 * k) ≤ 255 * 2 ^ 56 := Nat.mul_le_mul hb hp
    omega
  have ec : (b : Int) * 2 ^ (8 * k) = ((b * 2 ^ (8 * k) : Nat) : Int) := by push_cast; rfl
  have ew : IntKind.u64.wrap ((b : Int) * 2 ^ (8 * k)) = ((b * 2 ^ (8 * k) : Nat) : Int) := by
    rw [IntKind.wrap_u64, ec]
    generalize b * 2 ^ (8 * k) = N at hlt ⊢
    omega
  rw [ew, bits_or_u64_nat _ _ (by omega) hlt]
  have e : a ||| b * 2 ^ (8 * k) = b * 2 ^ (8 * k) + a := by
    rw [Nat.or_comm, Nat.mul_comm, ← Nat.two_pow_add_eq_or_of_lt hA']
  rw [e, ec]
  push_cast
  omega
end Go.Proofs.Ythmenbehpblljaa
