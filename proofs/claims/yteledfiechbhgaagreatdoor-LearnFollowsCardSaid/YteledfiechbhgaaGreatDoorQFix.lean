/- The contracts of the package fix. -/
import Derived.Test.YteledfiechbhgaaGreatDoorQErrIs
import Derived.Test.YteledfiechbhgaaGreatDoorQLays
import Derived.Shelf.Small.Bits
import Derived.Shelf.Bits.Mul64
import Derived.Laws.Externs
namespace Go.Proofs.YteledfiechbhgaaGreatDoor
open Go Go.RowKit Go.Shelf Go.Proofs.Mul64

theorem bits_Mul64 (x y : Nat) (hx : x < 18446744073709551616) (hy : y < 18446744073709551616) (w : World) :
    Calls Tryz.prog 182 #[.int .u64 x, .int .u64 y] w fun e w' => e = .returned (.tuple #[.int .u64 ((x * y / 18446744073709551616 : Nat) : Int), .int .u64 ((x * y % 18446744073709551616 : Nat) : Int)]) ∧ w' = w := Any.bits_Mul64 Tryz.lays264 x y hx hy w
theorem bits_Add64 (x y c : Nat) (hx : x < 18446744073709551616) (hy : y < 18446744073709551616) (hc : c ≤ 1) (w : World) :
    (callFunc 184 #[.int .u64 x, .int .u64 y, .int .u64 c]).run Tryz.prog w =
      .ok (.value (.tuple #[.int .u64 (((x + y + c) % 18446744073709551616 : Nat) : Int), .int .u64 (((x + y + c) / 18446744073709551616 : Nat) : Int)])) w := by
  rw [run_callFunc_extern Tryz.func184 (by kernel_rfl) (by kernel_rfl) (by kernel_rfl) (e := add64Entry) (by kernel_rfl), run_add64 x y c (by omega) (by omega) (by omega) (by omega)]
  simp only [Result.andThen]
  congr 5 <;> omega

def fadd (a b : Nat) : Nat := if a + b < 18446744073709551616 then a + b else 18446744073709551615
def fsub (a b : Nat) : Nat := a - b
def fmul (a b : Nat) : Nat := if a * b / 4611686018427387904 < 18446744073709551616 then a * b / 4611686018427387904 else 18446744073709551615
def fover (a b : Nat) : Nat := if a * 4611686018427387904 / b < 18446744073709551616 then a * 4611686018427387904 / b else 18446744073709551615

theorem add0 (a b : Nat) (ha : a < 18446744073709551616) (hb : b < 18446744073709551616) (w : World) :
    (callFunc 184 #[.int .u64 a, .int .u64 b, .int .u64 0]).run Tryz.prog w =
      .ok (.value (.tuple #[.int .u64 (((a + b) % 18446744073709551616 : Nat) : Int), .int .u64 (((a + b) / 18446744073709551616 : Nat) : Int)])) w := bits_Add64 a b 0 ha hb (by omega) w
theorem or4 (h l : Nat) (hh : h < 4611686018427387904) (hl : l < 4) : bits .or .u64 ((4 * h : Nat) : Int) (l : Int) = ((4 * h + l : Nat) : Int) := by
  have e := bits_or_u64_nat (4 * h) l (by omega) (by omega)
  rw [e]
  congr 1
  have h1 : 4 * h = h <<< 2 := by rw [Nat.shiftLeft_eq]; omega
  rw [h1, ← Nat.shiftLeft_add_eq_or_of_lt (by omega)]
theorem Fix_Add (a b : Nat) (ha : a < 18446744073709551616) (hb : b < 18446744073709551616) (w : World) :
    Calls Tryz.prog 96 #[.int .u64 a, .int .u64 b] w fun r w' => r = .returned (.int .u64 (fadd a b : Nat)) ∧ Keep w w' := by
  have hc := add0 a b ha hb
  unfold fadd
  go_enter Tryz.func96, Tryz.ntmps96
  by_cases h : a + b < 18446744073709551616
  · have e1 : (a + b) / 18446744073709551616 = 0 := by omega
    have e2 : (a + b) % 18446744073709551616 = a + b := by omega
    rw [if_pos h]
    simp only [e1, e2] at hc
    go_wp2_with (simp only [hc])
    go_ret
    exact ⟨rfl, Keep.refl _⟩
  · have e1 : (a + b) / 18446744073709551616 = 1 := by omega
    rw [if_neg h]
    simp only [e1] at hc
    go_wp2_with (simp only [hc])
    go_ret
    exact ⟨rfl, Keep.refl _⟩
theorem Fix_Mul (a b : Nat) (ha : a < 18446744073709551616) (hb : b < 18446744073709551616) (w : World) :
    Calls Tryz.prog 90 #[.int .u64 a, .int .u64 b] w fun r w' => r = .returned (.int .u64 (fmul a b : Nat)) ∧ Keep w w' := by
  have hc := fun w => bits_Mul64 a b ha hb w
  have hlt : a * b < 18446744073709551616 * 18446744073709551616 := by
    have := Nat.mul_le_mul (Nat.le_of_lt ha) (Nat.le_of_lt hb)
    rcases Nat.eq_zero_or_pos a with rfl | h0
    · omega
    · exact Nat.lt_of_lt_of_le (Nat.mul_lt_mul_of_pos_left hb h0) (Nat.mul_le_mul_right _ (Nat.le_of_lt ha))
  obtain ⟨p, hp⟩ : ∃ p, a * b = p := ⟨_, rfl⟩
  unfold fmul
  rw [hp] at hlt ⊢
  simp only [hp] at hc
  obtain ⟨h, hh⟩ : ∃ h, p / 18446744073709551616 = h := ⟨_, rfl⟩
  obtain ⟨l, hl⟩ : ∃ l, p % 18446744073709551616 = l := ⟨_, rfl⟩
  have hpl : p = 18446744073709551616 * h + l := by omega
  have hl' : l < 18446744073709551616 := by omega
  have hh' : h < 18446744073709551616 := by omega
  simp only [hh, hl] at hc
  clear hh hl hp
  have hcH := hide hc
  clear hc
  go_enter Tryz.func90, Tryz.ntmps90
  by_cases hs : h < 4611686018427387904
  · have e1 : (h : Int) / 4611686018427387904 = 0 := by omega
    have e2 : IntKind.u64.wrap ((h : Int) * 4) = ((4 * h : Nat) : Int) := by rw [show (h : Int) * 4 = ((4 * h : Nat) : Int) by omega]; exact wrapN _ (by omega)
    have e3 : (l : Int) / 4611686018427387904 = ((l / 4611686018427387904 : Nat) : Int) := by omega
    have e4 : p / 4611686018427387904 = 4 * h + l / 4611686018427387904 := by omega
    rw [e4, if_pos (by omega)]
    have e5 := or4 h (l / 4611686018427387904) hs (by omega)
    obtain ⟨m, hm⟩ : ∃ m, 4 * h = m := ⟨_, rfl⟩
    obtain ⟨q, hq⟩ : ∃ q, l / 4611686018427387904 = q := ⟨_, rfl⟩
    obtain ⟨t, ht⟩ : ∃ t, m + q = t := ⟨_, rfl⟩
    rw [hm] at e2 e5 ⊢
    rw [hq] at e3 e5 ⊢
    rw [ht] at e5 ⊢
    clear e4 hpl hm hq ht
    go_wp2_with (go_at_call 182; refine (hcH.out _).mono ?_; rintro r w1 ⟨rfl, rfl⟩)
    go_ret
    exact ⟨rfl, Keep.refl _⟩
  · rw [if_neg (by omega)]
    have e1 : ((h : Int) / 4611686018427387904 != 0) = true := by rw [bne_iff_ne]; omega
    clear hpl
    go_wp2_with (go_at_call 182; refine (hcH.out _).mono ?_; rintro r w1 ⟨rfl, rfl⟩)
    go_ret
    exact ⟨rfl, Keep.refl _⟩
end Go.Proofs.YteledfiechbhgaaGreatDoor
