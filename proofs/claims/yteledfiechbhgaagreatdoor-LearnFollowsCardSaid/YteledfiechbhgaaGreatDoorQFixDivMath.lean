/- Long division by two half digits, in plain numbers (after Knuth's algorithm D). -/
import Derived.Test.YteledfiechbhgaaGreatDoorQSl
namespace Go.Proofs.YteledfiechbhgaaGreatDoor
open Go Go.RowKit

section
variable {u y d q r y1 y0 : Nat}
theorem kn_mul (hy : y = y1 * 4294967296 + y0) : q * y = q * y1 * 4294967296 + q * y0 := by
  rw [hy, Nat.mul_add, Nat.mul_assoc]
theorem kn_lt (hu : u < y) (hd : d < 4294967296) : (u * 4294967296 + d) / y < 4294967296 := by
  rw [Nat.div_lt_iff_lt_mul (by omega)]
  have : (u + 1) * 4294967296 ≤ y * 4294967296 := Nat.mul_le_mul_right _ hu
  omega
theorem kn_init (hy : y = y1 * 4294967296 + y0) (h1 : 0 < y1) (hd : d < 4294967296) : (u * 4294967296 + d) / y ≤ u / y1 := by
  rw [Nat.le_div_iff_mul_le h1]
  have h := Nat.div_mul_le_self (u * 4294967296 + d) y
  rw [kn_mul hy] at h
  omega
theorem kn_top (hy : y = y1 * 4294967296 + y0) (h0 : y0 < 4294967296) (h1 : 2147483648 ≤ y1) (hu : u < y) : u / y1 ≤ 4294967297 := by
  have : u / y1 < 4294967298 := by
    rw [Nat.div_lt_iff_lt_mul (by omega)]
    omega
  omega
theorem kn_stop (hy : y = y1 * 4294967296 + y0) (hpos : 0 < y) (h : q * y1 + r = u) (hQ : (u * 4294967296 + d) / y ≤ q) (hg : q * y0 ≤ 4294967296 * r + d) : q = (u * 4294967296 + d) / y := by
  refine Nat.le_antisymm ?_ hQ
  rw [Nat.le_div_iff_mul_le hpos, kn_mul hy]
  omega
theorem kn_more (hy : y = y1 * 4294967296 + y0) (hu : u < y) (hd : d < 4294967296) (h : q * y1 + r = u) (hg : 4294967296 * r + d < q * y0 ∨ 4294967296 ≤ q) : (u * 4294967296 + d) / y < q := by
  rcases hg with hg | hg
  · rw [Nat.div_lt_iff_lt_mul (by omega), kn_mul hy]
    omega
  · exact Nat.lt_of_lt_of_le (kn_lt hu hd) hg
theorem kn_break (h0 : y0 < 4294967296) (hr : 4294967296 ≤ r) (hq : q ≤ 4294967296) : q * y0 ≤ 4294967296 * r + d := by
  have : q * y0 ≤ 4294967296 * 4294967296 := Nat.mul_le_mul hq (Nat.le_of_lt h0)
  omega
/-- The two digits make the quotient. -/
theorem kn_join {a b : Nat} (hpos : 0 < y) : ((u * 4294967296 + a) / y) * 4294967296 + (((u * 4294967296 + a) % y) * 4294967296 + b) / y = (u * 18446744073709551616 + a * 4294967296 + b) / y := by
  have h := Nat.div_add_mod (u * 4294967296 + a) y
  obtain ⟨Q, hQ⟩ : ∃ Q, (u * 4294967296 + a) / y = Q := ⟨_, rfl⟩
  obtain ⟨R, hR⟩ : ∃ R, (u * 4294967296 + a) % y = R := ⟨_, rfl⟩
  rw [hQ, hR] at h ⊢
  have e : u * 18446744073709551616 + a * 4294967296 + b = (R * 4294967296 + b) + y * (Q * 4294967296) := by
    have e2 : y * (Q * 4294967296) = y * Q * 4294967296 := (Nat.mul_assoc y Q 4294967296).symm
    omega
  rw [e, Nat.add_mul_div_left _ _ hpos]
  exact Nat.add_comm _ _
/-- Both sides doubled so many times. -/
theorem kn_scale {n y p : Nat} (hp : 0 < p) : n * p / (y * p) = n / y := Nat.mul_div_mul_right _ _ hp
end
end Go.Proofs.YteledfiechbhgaaGreatDoor
