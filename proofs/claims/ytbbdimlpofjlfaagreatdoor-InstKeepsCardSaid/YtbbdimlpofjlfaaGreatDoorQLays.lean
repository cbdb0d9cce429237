/- texts of ours -/
import Derived.Shelf.Small.Bits
import Derived.Shelf.Bits.Mul64
import Derived.Test.YtbbdimlpofjlfaaGreatDoorProg
import Derived.Test.YtbbdimlpofjlfaaGreatDoorQErrIs
import Derived.Laws.Externs
/-
  DERIVED: THE SHELF's CONTRACTS AT THIS DUMP, IN PLAIN WORDS (tools/lay-plain.mjs out of 'YtbbdimlpofjlfaaGreatDoorLaysSrc.lean', which tools/lay-shelf.mjs wrote): THE SAME DECLARATIONS UNDER THE SAME NAMES: 'import', 'namespace', 'open', 'def', 'theorem' AND NOTHING ELSE: no command of the shelf's: FOR A HAND-IN. Each laying: the table of numbers ('.._ren') and one theorem, a field a fact of the dump's own or the kernel's comparison; each contract: ONE APPLICATION.
-/
namespace Go.Proofs
open Go.Shelf
def Tryz.lays264_ren : Go.Shelf.Ren := ⟨fun | 264 => 336 | n => n, fun | 53 => 67 | 46 => 344 | n => n, fun | n => n⟩
theorem Tryz.lays264 : Go.Proofs.Lays.n264 Tryz.prog Tryz.lays264_ren := {
  mixed := by kernel_rfl
  f264 := Tryz.func336.trans (congrArg some (by kernel_rfl))
  t46 := Tryz.underlying344
  a46 := Tryz.isAgg344
  z46 := Tryz.sizeOf344
  v46 := Tryz.zeroValue344
  t53 := Tryz.underlying67
  a53 := Tryz.isAgg67
  z53 := Tryz.sizeOf67
  v53 := Tryz.zeroValue67 }
def Tryz.lays134_ren : Go.Shelf.Ren := ⟨fun | 134 => 256 | 129 => 266 | n => n, fun | 53 => 67 | 3 => 3 | 4 => 4 | 46 => 344 | 5 => 5 | 9 => 9 | n => n, fun | n => n⟩
theorem Tryz.lays134 : Go.Proofs.Lays.n134 Tryz.prog Tryz.lays134_ren := {
  mixed := by kernel_rfl
  f129 := Tryz.func266.trans (congrArg some (by kernel_rfl))
  f134 := Tryz.func256.trans (congrArg some (by kernel_rfl))
  t3 := Tryz.underlying3
  a3 := Tryz.isAgg3
  z3 := Tryz.sizeOf3
  v3 := Tryz.zeroValue3
  t4 := Tryz.underlying4
  a4 := Tryz.isAgg4
  z4 := Tryz.sizeOf4
  v4 := Tryz.zeroValue4
  t5 := Tryz.underlying5
  a5 := Tryz.isAgg5
  z5 := Tryz.sizeOf5
  v5 := Tryz.zeroValue5
  t9 := Tryz.underlying9
  a9 := Tryz.isAgg9
  z9 := Tryz.sizeOf9
  v9 := Tryz.zeroValue9
  t46 := Tryz.underlying344
  a46 := Tryz.isAgg344
  z46 := Tryz.sizeOf344
  v46 := Tryz.zeroValue344
  t53 := Tryz.underlying67
  a53 := Tryz.isAgg67
  z53 := Tryz.sizeOf67
  v53 := Tryz.zeroValue67 }
end Go.Proofs
/- The contracts of the package fix. -/
namespace Go.Proofs.YtbbdimlpofjlfaaGreatDoor
open Go Go.RowKit Go.Shelf Go.Proofs.Mul64

theorem bits_Mul64 (x y : Nat) (hx : x < 18446744073709551616) (hy : y < 18446744073709551616) (w : World) :
    Calls Tryz.prog 336 #[.int .u64 x, .int .u64 y] w fun e w' => e = .returned (.tuple #[.int .u64 ((x * y / 18446744073709551616 : Nat) : Int), .int .u64 ((x * y % 18446744073709551616 : Nat) : Int)]) ∧ w' = w := Any.bits_Mul64 Tryz.lays264 x y hx hy w
theorem bits_Add64 (x y c : Nat) (hx : x < 18446744073709551616) (hy : y < 18446744073709551616) (hc : c ≤ 1) (w : World) :
    (callFunc 333 #[.int .u64 x, .int .u64 y, .int .u64 c]).run Tryz.prog w =
      .ok (.value (.tuple #[.int .u64 (((x + y + c) % 18446744073709551616 : Nat) : Int), .int .u64 (((x + y + c) / 18446744073709551616 : Nat) : Int)])) w := by
  rw [run_callFunc_extern Tryz.func333 (by kernel_rfl) (by kernel_rfl) (by kernel_rfl) (e := add64Entry) (by kernel_rfl), run_add64 x y c (by omega) (by omega) (by omega) (by omega)]
  simp only [Result.andThen]
  congr 5 <;> omega

def fadd (a b : Nat) : Nat := if a + b < 18446744073709551616 then a + b else 18446744073709551615
def fsub (a b : Nat) : Nat := a - b
def fmul (a b : Nat) : Nat := if a * b / 4611686018427387904 < 18446744073709551616 then a * b / 4611686018427387904 else 18446744073709551615
def fover (a b : Nat) : Nat := if a * 4611686018427387904 / b < 18446744073709551616 then a * 4611686018427387904 / b else 18446744073709551615

theorem add0 (a b : Nat) (ha : a < 18446744073709551616) (hb : b < 18446744073709551616) (w : World) :
    (callFunc 333 #[.int .u64 a, .int .u64 b, .int .u64 0]).run Tryz.prog w =
      .ok (.value (.tuple #[.int .u64 (((a + b) % 18446744073709551616 : Nat) : Int), .int .u64 (((a + b) / 18446744073709551616 : Nat) : Int)])) w := bits_Add64 a b 0 ha hb (by omega) w
theorem or4 (h l : Nat) (hh : h < 4611686018427387904) (hl : l < 4) : bits .or .u64 ((4 * h : Nat) : Int) (l : Int) = ((4 * h + l : Nat) : Int) := by
  have e := bits_or_u64_nat (4 * h) l (by omega) (by omega)
  rw [e]
  congr 1
  have h1 : 4 * h = h <<< 2 := by rw [Nat.shiftLeft_eq]; omega
  rw [h1, ← Nat.shiftLeft_add_eq_or_of_lt (by omega)]
theorem Fix_Add (a b : Nat) (ha : a < 18446744073709551616) (hb : b < 18446744073709551616) (w : World) :
    Calls Tryz.prog 325 #[.int .u64 a, .int .u64 b] w fun r w' => r = .returned (.int .u64 (fadd a b : Nat)) ∧ Keep w w' := by
  have hc := add0 a b ha hb
  unfold fadd
  go_enter Tryz.func325, Tryz.ntmps325
  by_cases h : a + b < 18446744073709551616
  · have e1 : (a + b) / 18446744073709551616 = 0 := by omega
    have e2 : (a + b) % 18446744073709551616 = a + b := by omega
    rw [if_pos h]
    simp only [e1, e2] at hc
    go_wp2_with (simp only [hc])
    go_ret
    exact ⟨rfl, Keep.refl _⟩
  · have e1 : (a + b) / 18446744073709551616 = 1 := by omega
    rw [if_neg h]
    simp only [e1] at hc
    go_wp2_with (simp only [hc])
    go_ret
    exact ⟨rfl, Keep.refl _⟩
theorem Fix_Mul (a b : Nat) (ha : a < 18446744073709551616) (hb : b < 18446744073709551616) (w : World) :
    Calls Tryz.prog 330 #[.int .u64 a, .int .u64 b] w fun r w' => r = .returned (.int .u64 (fmul a b : Nat)) ∧ Keep w w' := by
  have hc := fun w => bits_Mul64 a b ha hb w
  have hlt : a * b < 18446744073709551616 * 18446744073709551616 := by
    have := Nat.mul_le_mul (Nat.le_of_lt ha) (Nat.le_of_lt hb)
    rcases Nat.eq_zero_or_pos a with rfl | h0
    · omega
    · exact Nat.lt_of_lt_of_le (Nat.mul_lt_mul_of_pos_left hb h0) (Nat.mul_le_mul_right _ (Nat.le_of_lt ha))
  obtain ⟨p, hp⟩ : ∃ p, a * b = p := ⟨_, rfl⟩
  unfold fmul
  rw [hp] at hlt ⊢
  simp only [hp] at hc
  obtain ⟨h, hh⟩ : ∃ h, p / 18446744073709551616 = h := ⟨_, rfl⟩
  obtain ⟨l, hl⟩ : ∃ l, p % 18446744073709551616 = l := ⟨_, rfl⟩
  have hpl : p = 18446744073709551616 * h + l := by omega
  have hl' : l < 18446744073709551616 := by omega
  have hh' : h < 18446744073709551616 := by omega
  simp only [hh, hl] at hc
  clear hh hl hp
  have hcH := hide hc
  clear hc
  go_enter Tryz.func330, Tryz.ntmps330
  by_cases hs : h < 4611686018427387904
  · have e1 : (h : Int) / 4611686018427387904 = 0 := by omega
    have e2 : IntKind.u64.wrap ((h : Int) * 4) = ((4 * h : Nat) : Int) := by rw [show (h : Int) * 4 = ((4 * h : Nat) : Int) by omega]; exact wrapN _ (by omega)
    have e3 : (l : Int) / 4611686018427387904 = ((l / 4611686018427387904 : Nat) : Int) := by omega
    have e4 : p / 4611686018427387904 = 4 * h + l / 4611686018427387904 := by omega
    rw [e4, if_pos (by omega)]
    have e5 := or4 h (l / 4611686018427387904) hs (by omega)
    obtain ⟨m, hm⟩ : ∃ m, 4 * h = m := ⟨_, rfl⟩
    obtain ⟨q, hq⟩ : ∃ q, l / 4611686018427387904 = q := ⟨_, rfl⟩
    obtain ⟨t, ht⟩ : ∃ t, m + q = t := ⟨_, rfl⟩
    rw [hm] at e2 e5 ⊢
    rw [hq] at e3 e5 ⊢
    rw [ht] at e5 ⊢
    clear e4 hpl hm hq ht
    go_wp2_with (go_at_call 336; refine (hcH.out _).mono ?_; rintro r w1 ⟨rfl, rfl⟩)
    go_ret
    exact ⟨rfl, Keep.refl _⟩
  · rw [if_neg (by omega)]
    have e1 : ((h : Int) / 4611686018427387904 != 0) = true := by rw [bne_iff_ne]; omega
    clear hpl
    go_wp2_with (go_at_call 336; refine (hcH.out _).mono ?_; rintro r w1 ⟨rfl, rfl⟩)
    go_ret
    exact ⟨rfl, Keep.refl _⟩
end Go.Proofs.YtbbdimlpofjlfaaGreatDoor
