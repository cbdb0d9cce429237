/- The contracts of the package fix: Pow, Exp, Fall. -/
import Derived.Test.YtbbdimlpofjlfaaGreatDoorQFixDivMath
import Derived.Laws.Bits128
namespace Go.Proofs.YtbbdimlpofjlfaaGreatDoor
open Go Go.RowKit Go.Shelf Go.Proofs.Mul64

theorem fmul_lt (a b : Nat) : fmul a b < 18446744073709551616 := by unfold fmul; split <;> omega
theorem fadd_lt (a b : Nat) : fadd a b < 18446744073709551616 := by unfold fadd; split <;> omega
theorem fover_lt (a b : Nat) : fover a b < 18446744073709551616 := by unfold fover; split <;> omega
theorem fdiv_lt (a b : Nat) : fdiv a b < 18446744073709551616 := by unfold fdiv; split; omega; exact fover_lt _ _
theorem i64_and1 (n : Int) : bits .and .i64 n 1 = n % 2 := by
  have h127 : (BitVec.ofInt 64 1).toNat = 2 ^ 1 - 1 := by decide
  have key : (BitVec.ofInt 64 n &&& BitVec.ofInt 64 1).toNat = (n % ((2 ^ 64 : Nat) : Int)).toNat % 2 ^ 1 := by
    rw [BitVec.toNat_and, BitVec.toNat_ofInt, h127, Nat.and_two_pow_sub_one_eq_mod]
  show IntKind.i64.wrap ((BitVec.ofInt 64 n &&& BitVec.ofInt 64 1).toNat : Nat) = n % 2
  rw [key, IntKind.wrap_i64]
  omega
def fpowL (out x n : Nat) : Nat := if h : n = 0 then out else fpowL (if n % 2 = 1 then fmul out x else out) (fmul x x) (n / 2)
  termination_by n
  decreasing_by omega
def fpow (x : Nat) (n : Int) : Nat := if n < 0 then 0 else fpowL 4611686018427387904 x n.toNat
def powE (n : Int) : EV := if n < 0 then .fault ⟨#[112, 111, 119]⟩ ⟨#[]⟩ (.no 1) else .nil
theorem Fix_Pow_ok (x n : Nat) (hx : x < 18446744073709551616) (hn : n < 9223372036854775808) (w : World) :
    Calls Tryz.prog 328 #[.int .u64 x, .int .i64 n] w fun r w' => r = .returned (.tuple #[.int .u64 (fpowL 4611686018427387904 x n : Nat), .nilIface]) ∧ Keep w w' := by
  have e1 : ¬ (n : Int) < 0 := by omega
  have hn' := hide hn
  clear hn
  obtain ⟨t, ht⟩ : ∃ t, fpowL 4611686018427387904 x n = t := ⟨_, rfl⟩
  rw [ht]
  have ht := hide ht
  go_enter Tryz.func328, Tryz.ntmps328
  go_wp2
  go_loopw [0, 1, 6] (fun a b c wr => ∃ x n o : Nat, a = .int .u64 x ∧ b = .int .i64 n ∧ c = .int .u64 o ∧ x < 18446744073709551616 ∧ n < 9223372036854775808 ∧ o < 18446744073709551616 ∧ fpowL o x n = t ∧ Keep w wr) (fun a b c _ => (intOf b).toNat)
  case atStart => exact ⟨x, n, 4611686018427387904, rfl, rfl, rfl, hx, hn'.out, by omega, ht.out, Keep.refl _⟩
  case round =>
    obtain ⟨x, n, o, rfl, rfl, rfl, hx, hn, ho, hp, hk⟩ := hrel
    have hp := hide hp
    have hkr := hide hk
    clear hk
    rcases Nat.eq_zero_or_pos n with rfl | h0
    · have ht : o = t := by have := hp.out; unfold fpowL at this; simpa using this
      subst ht
      go_wp2
      go_ret2
      exact ⟨rfl, hkr.out⟩
    · have h0' : 0 < (n : Int) := by omega
      have e2 : bits .and .i64 (n : Int) 1 = ((n % 2 : Nat) : Int) := by rw [i64_and1]; omega
      have e3 : (n : Int) / 2 = ((n / 2 : Nat) : Int) := by omega
      have hstep : fpowL (if n % 2 = 1 then fmul o x else o) (fmul x x) (n / 2) = t := by
        have := hp.out
        rw [fpowL, dif_neg (by omega)] at this
        exact this
      rcases Nat.mod_two_eq_zero_or_one n with hm | hm
      · rw [hm] at e2 hstep
        rw [if_neg (by omega)] at hstep
        have hst := hide hstep
        have hlt := hide (show n / 2 < n by omega)
        obtain ⟨k, hk⟩ : ∃ k, n / 2 = k := ⟨_, rfl⟩
        rw [hk] at e3 hst hlt
        clear hk hm hstep
        go_wp2_with (go_at_call 330; (with_reducible refine (Fix_Mul x x hx hx _).mono ?_); rintro r w1 ⟨rfl, hk⟩; have hk := hide hk)
        go_roundw
        case rel => exact ⟨_, k, o, rfl, rfl, rfl, fmul_lt _ _, by have := hlt.out; omega, ho, hst.out, hkr.out.trans hk.out⟩
        case measure => (have := hlt.out; simp [intOf]; omega)
      · rw [hm] at e2 hstep
        rw [if_pos rfl] at hstep
        have hst := hide hstep
        have hlt := hide (show n / 2 < n by omega)
        obtain ⟨k, hk⟩ : ∃ k, n / 2 = k := ⟨_, rfl⟩
        rw [hk] at e3 hst hlt
        clear hk hm hstep
        go_wp2_with (first
          | (go_at_call 330; (with_reducible refine (Fix_Mul o x ho hx _).mono ?_); rintro r w1 ⟨rfl, hk⟩; have hk1 := hide hk; clear hk)
          | (go_at_call 330; (with_reducible refine (Fix_Mul x x hx hx _).mono ?_); rintro r w2 ⟨rfl, hk⟩; have hk := hide hk))
        go_roundw
        case rel => exact ⟨_, k, _, rfl, rfl, rfl, fmul_lt _ _, by have := hlt.out; omega, fmul_lt _ _, hst.out, (hkr.out.trans hk1.out).trans hk.out⟩
        case measure => (have := hlt.out; simp [intOf]; omega)
theorem Fix_Pow (x : Nat) (n : Int) (hx : x < 18446744073709551616) (hn : -9223372036854775808 ≤ n ∧ n ≤ 9223372036854775807) (w : World) :
    Calls Tryz.prog 328 #[.int .u64 x, .int .i64 n] w fun r w' => ∃ v, r = .returned (.tuple #[.int .u64 (fpow x n : Nat), v]) ∧ Keep w w' ∧ ErrAt w' (powE n) v := by
  by_cases h : n < 0
  · unfold fpow powE
    rw [if_pos h, if_pos h]
    go_enter Tryz.func328, Tryz.ntmps328
    go_wp2_with (go_at_call 222; (with_reducible refine (Fix_fault _ _).mono ?_); rintro r w1 ⟨v, rfl, hk, he⟩; have hk := hide hk; have he := hide he)
    go_ret2
    exact ⟨v, rfl, hk.out, he.out⟩
  · obtain ⟨k, rfl⟩ : ∃ k : Nat, n = k := ⟨n.toNat, by omega⟩
    unfold fpow powE
    rw [if_neg h, if_neg h, Int.toNat_natCast]
    refine (Fix_Pow_ok x k hx (by omega) w).mono ?_
    rintro e w' ⟨rfl, hk⟩
    exact ⟨.nilIface, rfl, hk, rfl⟩

/-! ### The exponential, and its fall -/
def fexpL (x : Nat) : Nat → Nat → Nat → Nat
  | 0, sum, _ => sum
  | k + 1, sum, term => if term = 0 then sum else fexpL x k (fadd sum (fmul term x / (63 - k))) (fmul term x / (63 - k))
def fexp (x : Nat) : Nat := fexpL x 63 4611686018427387904 4611686018427387904
def ffall (x : Nat) : Nat := fdiv 4611686018427387904 (fexp x)
theorem fexpL_lt (x : Nat) : ∀ k s t, s < 18446744073709551616 → fexpL x k s t < 18446744073709551616
  | 0, s, t, h => h
  | k + 1, s, t, h => by
    unfold fexpL
    split
    · exact h
    · exact fexpL_lt x k _ _ (fadd_lt _ _)
theorem fexp_lt (x : Nat) : fexp x < 18446744073709551616 := fexpL_lt x _ _ _ (by omega)
theorem Fix_Exp (x : Nat) (hx : x < 18446744073709551616) (w : World) :
    Calls Tryz.prog 335 #[.int .u64 x] w fun r w' => r = .returned (.int .u64 (fexp x : Nat)) ∧ Keep w w' := by
  obtain ⟨t, ht⟩ : ∃ t, fexp x = t := ⟨_, rfl⟩
  rw [ht]
  have ht := hide ht
  go_enter Tryz.func335, Tryz.ntmps335
  go_wp2
  go_loopw [3, 4, 5] (fun a b c wr => ∃ s m n : Nat, a = .int .u64 s ∧ b = .int .u64 m ∧ c = .int .u64 n ∧ s < 18446744073709551616 ∧ m < 18446744073709551616 ∧ 1 ≤ n ∧ n ≤ 64 ∧ fexpL x (64 - n) s m = t ∧ Keep w wr) (fun a b c _ => (64 - intOf c).toNat)
  case atStart => exact ⟨4611686018427387904, 4611686018427387904, 1, rfl, rfl, rfl, by omega, by omega, by omega, by omega, ht.out, Keep.refl _⟩
  case round =>
    obtain ⟨s, m, n, rfl, rfl, rfl, hs, hm, hn1, hn2, hp, hk⟩ := hrel
    have hp := hide hp
    have hkr := hide hk
    clear hk
    by_cases hn : n < 64
    · have hn' : (n : Int) < 64 := by omega
      rcases Nat.eq_zero_or_pos m with rfl | h0
      · have hst : s = t := by
          have := hp.out
          rw [show 64 - n = (63 - n) + 1 by omega, fexpL, if_pos rfl] at this
          exact this
        subst hst
        go_wp2
        go_ret
        exact ⟨rfl, hkr.out⟩
      · have h0' : (0 : Int) < m := by omega
        have hst := hp.out
        rw [show 64 - n = (63 - n) + 1 by omega, fexpL, if_neg (by omega), show 63 - (63 - n) = n by omega] at hst
        obtain ⟨z, hz⟩ : ∃ z, fmul m x = z := ⟨_, rfl⟩
        have hzl : z < 18446744073709551616 := by rw [← hz]; exact fmul_lt _ _
        rw [hz] at hst
        have hM := Fix_Mul m x hm hx
        rw [hz] at hM
        have hM := hide hM
        have e1 : (z : Int).tdiv (n : Int) = ((z / n : Nat) : Int) := rfl
        have hq : z / n ≤ z := Nat.div_le_self _ _
        obtain ⟨q, hq'⟩ : ∃ q, z / n = q := ⟨_, rfl⟩
        rw [hq'] at e1 hst hq
        have e2 : IntKind.u64.wrap (q : Int) = (q : Int) := wrapN _ (by omega)
        have e3 : IntKind.u64.wrap ((n : Int) + 1) = ((n + 1 : Nat) : Int) := by rw [IntKind.wrap_u64]; omega
        have hnz : ¬ (n : Int) = 0 := by omega
        have hst := hide hst
        clear hz hq'
        go_wp2_with (first
          | (go_at_call 330; (with_reducible refine (hM.out _).mono ?_); rintro r w1 ⟨rfl, hk⟩; have hk1 := hide hk; clear hk)
          | (go_at_call 325; (with_reducible refine (Fix_Add s q hs (by omega) _).mono ?_); rintro r w2 ⟨rfl, hk⟩; have hk := hide hk))
        go_roundw
        case rel => exact ⟨_, q, n + 1, rfl, rfl, rfl, fadd_lt _ _, by omega, by omega, by omega, by rw [← hst.out, show 64 - (n + 1) = 63 - n by omega], (hkr.out.trans hk1.out).trans hk.out⟩
        case measure => (simp [intOf]; omega)
    · have hn' : ¬ (n : Int) < 64 := by omega
      have hst : s = t := by
        have := hp.out
        rw [show 64 - n = 0 by omega, fexpL] at this
        exact this
      subst hst
      go_wp2
      go_ret
      exact ⟨rfl, hkr.out⟩
theorem Fix_Fall (x : Nat) (hx : x < 18446744073709551616) (w : World) :
    Calls Tryz.prog 329 #[.int .u64 x] w fun r w' => r = .returned (.int .u64 (ffall x : Nat)) ∧ Keep w w' := by
  have hE := hide (Fix_Exp x hx)
  have hl := fexp_lt x
  have hD : ∀ w, Calls Tryz.prog 334 #[.int .u64 4611686018427387904, .int .u64 (fexp x : Nat)] w fun r w' => ∃ v, r = .returned (.tuple #[.int .u64 (fdiv 4611686018427387904 (fexp x) : Nat), v]) ∧ Keep w w' ∧ ErrAt w' (divE (fexp x)) v := fun w => Fix_Div 4611686018427387904 (fexp x) (by omega) hl w
  have hD := hide hD
  unfold ffall
  obtain ⟨t, ht⟩ : ∃ t, fdiv 4611686018427387904 (fexp x) = t := ⟨_, rfl⟩
  rw [ht] at hD ⊢
  clear ht
  go_enter Tryz.func329, Tryz.ntmps329
  go_wp2_with (first
    | (go_at_call 335; (with_reducible refine (hE.out _).mono ?_); rintro r w1 ⟨rfl, hk⟩; have hk1 := hide hk; clear hk)
    | (go_at_call 334; (with_reducible refine (hD.out _).mono ?_); rintro r w2 ⟨v, rfl, hk, he⟩; have hk := hide hk; clear he))
  go_ret
  exact ⟨rfl, hk1.out.trans hk.out⟩
end Go.Proofs.YtbbdimlpofjlfaaGreatDoor
