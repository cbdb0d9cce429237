/- The contracts of the package fix: over, fault, Div, Whole. -/
import Derived.Test.YteledfiechbhgaaGreatDoorQFixDiv
namespace Go.Proofs.YteledfiechbhgaaGreatDoor
open Go Go.RowKit Go.Shelf Go.Proofs.Mul64

theorem Keep.holds {w w' : World} (k : Keep w w') : Holds w w' [] := (Holds.start w).keep k
theorem Div64_any (hi lo y : Nat) (hl : lo < 18446744073709551616) (h : hi < y) (hy : y < 18446744073709551616) (w : World) :
    Calls Tryz.prog 244 #[.int .u64 hi, .int .u64 lo, .int .u64 y] w fun r w' => ∃ m : Int, r = .returned (.tuple #[.int .u64 (((hi * 18446744073709551616 + lo) / y : Nat) : Int), .int .u64 m]) ∧ Keep w w' := by
  rcases Nat.eq_zero_or_pos hi with rfl | h0
  · rw [Nat.zero_mul, Nat.zero_add]
    refine (Div64_small lo y hl hy (by omega) w).mono ?_
    rintro e w' ⟨rfl, hk⟩
    exact ⟨_, rfl, hk⟩
  · exact Div64_big hi lo y hl h0 h hy w
theorem Fix_over (a b : Nat) (_ha : a < 18446744073709551616) (hb : b < 18446744073709551616) (h0 : 0 < b) (w : World) :
    Calls Tryz.prog 188 #[.int .u64 a, .int .u64 b] w fun r w' => r = .returned (.int .u64 (fover a b : Nat)) ∧ Keep w w' := by
  obtain ⟨hi, hhi⟩ : ∃ hi, a / 4 = hi := ⟨_, rfl⟩
  obtain ⟨lo, hlo⟩ : ∃ lo, a * 4611686018427387904 % 18446744073709551616 = lo := ⟨_, rfl⟩
  have e1 : (a : Int) / 4 = (hi : Int) := by omega
  have e2 : IntKind.u64.wrap ((a : Int) * 4611686018427387904) = (lo : Int) := by rw [IntKind.wrap_u64]; omega
  have hsum : a * 4611686018427387904 = hi * 18446744073709551616 + lo := by omega
  have hll : lo < 18446744073709551616 := by omega
  unfold fover
  rw [hsum]
  clear hhi hlo hsum
  by_cases hc : b ≤ hi
  · have hc' : (b : Int) ≤ hi := by omega
    have hge : ¬ (hi * 18446744073709551616 + lo) / b < 18446744073709551616 := by
      rw [Nat.div_lt_iff_lt_mul h0]
      have := Nat.mul_le_mul_left 18446744073709551616 hc
      omega
    rw [if_neg hge]
    clear hge
    go_enter Tryz.func188, Tryz.ntmps188
    go_wp2
    go_ret
    exact ⟨rfl, Keep.refl _⟩
  · have hc' : ¬ (b : Int) ≤ hi := by omega
    have hlt : (hi * 18446744073709551616 + lo) / b < 18446744073709551616 := by
      rw [Nat.div_lt_iff_lt_mul h0]
      have := Nat.mul_le_mul_left 18446744073709551616 (show hi + 1 ≤ b by omega)
      omega
    rw [if_pos hlt]
    have hd := hide (Div64_any hi lo b hll (by omega) hb w)
    obtain ⟨q, hq⟩ : ∃ q, (hi * 18446744073709551616 + lo) / b = q := ⟨_, rfl⟩
    rw [hq] at hd ⊢
    clear hlt hq
    go_enter Tryz.func188, Tryz.ntmps188
    go_wp2_with (go_at_call 244; (with_reducible refine hd.out.mono ?_); rintro r w1 ⟨m, rfl, hk⟩; have hk := hide hk)
    go_ret
    exact ⟨rfl, hk.out⟩
theorem Fix_fault (op : ByteArray) (w : World) :
    Calls Tryz.prog 179 #[.string op] w fun r w' => ∃ v, r = .returned v ∧ Keep w w' ∧ ErrAt w' (.fault op ⟨#[]⟩ (.no 1)) v := by
  go_enter Tryz.func179, Tryz.ntmps179
  go_wp2
  go_ret
  refine ⟨_, rfl, (Keep.refl _).alloc, ?_⟩
  exact (Holds.mkErr (L := []) rfl (Holds.start w).alloc).errAt

/-! ### Quotients -/
def fdiv (a b : Nat) : Nat := if b = 0 then 0 else fover a b
def divE (b : Nat) : EV := if b = 0 then .fault ⟨#[100, 105, 118]⟩ ⟨#[]⟩ (.no 1) else .nil
def fwhole (m n : Int) : Nat := if m < 0 ∨ n ≤ 0 then 0 else fover m.toNat n.toNat
def wholeE (m n : Int) : EV := if m < 0 ∨ n ≤ 0 then .fault ⟨#[119, 104, 111, 108, 101]⟩ ⟨#[]⟩ (.no 1) else .nil
theorem Fix_Div (a b : Nat) (ha : a < 18446744073709551616) (hb : b < 18446744073709551616) (w : World) :
    Calls Tryz.prog 180 #[.int .u64 a, .int .u64 b] w fun r w' => ∃ v, r = .returned (.tuple #[.int .u64 (fdiv a b : Nat), v]) ∧ Keep w w' ∧ ErrAt w' (divE b) v := by
  unfold fdiv divE
  rcases Nat.eq_zero_or_pos b with rfl | h0
  · rw [if_pos rfl, if_pos rfl]
    go_enter Tryz.func180, Tryz.ntmps180
    go_wp2_with (go_at_call 179; (with_reducible refine (Fix_fault _ _).mono ?_); rintro r w1 ⟨v, rfl, hk, he⟩; have hk := hide hk; have he := hide he)
    go_ret2
    exact ⟨v, rfl, hk.out, he.out⟩
  · have hz : ((b : Int) == 0) = false := by rw [beq_eq_false_iff_ne]; omega
    have hz' : ¬ (b : Int) = 0 := by omega
    have hH := hide h0
    rw [if_neg (by omega), if_neg (by omega)]
    clear h0
    go_enter Tryz.func180, Tryz.ntmps180
    go_wp2_with (go_at_call 188; (with_reducible refine (Fix_over a b ha hb hH.out _).mono ?_); rintro r w1 ⟨rfl, hk⟩; have hk := hide hk)
    go_ret2
    exact ⟨.nilIface, rfl, hk.out, rfl⟩
theorem Fix_Whole_bad (m n : Int) (h : m < 0 ∨ n ≤ 0) (w : World) :
    Calls Tryz.prog 104 #[.int .i64 m, .int .i64 n] w fun r w' => ∃ v, r = .returned (.tuple #[.int .u64 (fwhole m n : Nat), v]) ∧ Keep w w' ∧ ErrAt w' (wholeE m n) v := by
  unfold fwhole wholeE
  rw [if_pos h, if_pos h]
  by_cases h1 : m < 0
  · clear h
    go_enter Tryz.func104, Tryz.ntmps104
    go_wp2_with (go_at_call 179; (with_reducible refine (Fix_fault _ _).mono ?_); rintro r w1 ⟨v, rfl, hk, he⟩; have hk := hide hk; have he := hide he)
    go_ret2
    exact ⟨v, rfl, hk.out, he.out⟩
  · have h2 : n ≤ 0 := by omega
    clear h
    go_enter Tryz.func104, Tryz.ntmps104
    go_wp2_with (go_at_call 179; (with_reducible refine (Fix_fault _ _).mono ?_); rintro r w1 ⟨v, rfl, hk, he⟩; have hk := hide hk; have he := hide he)
    go_ret2
    exact ⟨v, rfl, hk.out, he.out⟩
theorem Fix_Whole_ok (a b : Nat) (ha : a < 9223372036854775808) (hb : b < 9223372036854775808) (h0 : 0 < b) (w : World) :
    Calls Tryz.prog 104 #[.int .i64 a, .int .i64 b] w fun r w' => r = .returned (.tuple #[.int .u64 (fover a b : Nat), .nilIface]) ∧ Keep w w' := by
  have e1 : ¬ (a : Int) < 0 := by omega
  have e2 : ¬ (b : Int) ≤ 0 := by omega
  have e3 : IntKind.u64.wrap (a : Int) = (a : Int) := wrapN _ (by omega)
  have e4 : IntKind.u64.wrap (b : Int) = (b : Int) := wrapN _ (by omega)
  have hH := hide h0
  clear h0
  go_enter Tryz.func104, Tryz.ntmps104
  go_wp2_with (go_at_call 188; (with_reducible refine (Fix_over a b (by omega) (by omega) hH.out _).mono ?_); rintro r w1 ⟨rfl, hk⟩; have hk := hide hk)
  go_ret2
  exact ⟨rfl, hk.out⟩
theorem Fix_Whole (m n : Int) (hm : -9223372036854775808 ≤ m ∧ m ≤ 9223372036854775807) (hn : -9223372036854775808 ≤ n ∧ n ≤ 9223372036854775807) (w : World) :
    Calls Tryz.prog 104 #[.int .i64 m, .int .i64 n] w fun r w' => ∃ v, r = .returned (.tuple #[.int .u64 (fwhole m n : Nat), v]) ∧ Keep w w' ∧ ErrAt w' (wholeE m n) v := by
  by_cases h : m < 0 ∨ n ≤ 0
  · exact Fix_Whole_bad m n h w
  · obtain ⟨a, rfl⟩ : ∃ a : Nat, m = a := ⟨m.toNat, by omega⟩
    obtain ⟨b, rfl⟩ : ∃ b : Nat, n = b := ⟨n.toNat, by omega⟩
    unfold fwhole wholeE
    rw [if_neg h, if_neg h, Int.toNat_natCast, Int.toNat_natCast]
    refine (Fix_Whole_ok a b (by omega) (by omega) (by omega) w).mono ?_
    rintro e w' ⟨rfl, hk⟩
    exact ⟨.nilIface, rfl, hk, rfl⟩
end Go.Proofs.YteledfiechbhgaaGreatDoor
