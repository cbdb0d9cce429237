/- The contracts of the package fix, with their values named. -/
import Derived.Test.YtfdeafiidaepgaaDoorFixMath
namespace Go.Proofs.YtfdeafiidaepgaaDoor
open Go Go.RowKit Go.Shelf Go.Proofs.Mul64

theorem Add_val (a b s : Nat) (h : fadd a b = s) (ha : a < 18446744073709551616) (hb : b < 18446744073709551616) (w : World) :
    Calls Tryd.prog 17 #[.int .u64 a, .int .u64 b] w fun r w' => r = .returned (.int .u64 (s : Nat)) ∧ Keep w w' := by subst h; exact Fix_Add a b ha hb w
theorem Sub_val (a b s : Nat) (h : fsub a b = s) (ha : a < 18446744073709551616) (hb : b < 18446744073709551616) (w : World) :
    Calls Tryd.prog 19 #[.int .u64 a, .int .u64 b] w fun r w' => r = .returned (.int .u64 (s : Nat)) ∧ Keep w w' := by subst h; exact Fix_Sub a b ha hb w
theorem Mul_val (a b s : Nat) (h : fmul a b = s) (ha : a < 18446744073709551616) (hb : b < 18446744073709551616) (w : World) :
    Calls Tryd.prog 21 #[.int .u64 a, .int .u64 b] w fun r w' => r = .returned (.int .u64 (s : Nat)) ∧ Keep w w' := by subst h; exact Fix_Mul a b ha hb w
theorem Exp_val (a s : Nat) (h : fexp a = s) (ha : a < 18446744073709551616) (w : World) :
    Calls Tryd.prog 28 #[.int .u64 a] w fun r w' => r = .returned (.int .u64 (s : Nat)) ∧ Keep w w' := by subst h; exact Fix_Exp a ha w
theorem Fall_val (a s : Nat) (h : ffall a = s) (ha : a < 18446744073709551616) (w : World) :
    Calls Tryd.prog 30 #[.int .u64 a] w fun r w' => r = .returned (.int .u64 (s : Nat)) ∧ Keep w w' := by subst h; exact Fix_Fall a ha w
theorem Div_val (a b s : Nat) (h : fover a b = s) (h0 : 0 < b) (ha : a < 18446744073709551616) (hb : b < 18446744073709551616) (w : World) :
    Calls Tryd.prog 13 #[.int .u64 a, .int .u64 b] w fun r w' => r = .returned (.tuple #[.int .u64 (s : Nat), .nilIface]) ∧ Keep w w' := by
  subst h
  refine (Fix_Div a b ha hb w).mono ?_
  rintro r w' ⟨v, rfl, hk, he⟩
  rw [divE, if_neg (by omega)] at he
  obtain rfl := he
  rw [fdiv, if_neg (by omega)]
  exact ⟨rfl, hk⟩
theorem Div_none (a : Nat) (ha : a < 18446744073709551616) (w : World) :
    Calls Tryd.prog 13 #[.int .u64 a, .int .u64 0] w fun r w' => ∃ v, r = .returned (.tuple #[.int .u64 0, v]) ∧ Keep w w' ∧ ErrAt w' (.fault ⟨#[100, 105, 118]⟩ ⟨#[]⟩ (.no 1)) v := Fix_Div a 0 ha (by omega) w
theorem Whole_val (a b s : Nat) (h : fover a b = s) (h0 : 0 < b) (ha : a < 9223372036854775808) (hb : b < 9223372036854775808) (w : World) :
    Calls Tryd.prog 15 #[.int .i64 a, .int .i64 b] w fun r w' => r = .returned (.tuple #[.int .u64 (s : Nat), .nilIface]) ∧ Keep w w' := by subst h; exact Fix_Whole_ok a b ha hb h0 w
theorem Whole_none (m n : Int) (h : m < 0 ∨ n ≤ 0) (w : World) :
    Calls Tryd.prog 15 #[.int .i64 m, .int .i64 n] w fun r w' => ∃ v, r = .returned (.tuple #[.int .u64 0, v]) ∧ Keep w w' ∧ ErrAt w' (.fault ⟨#[119, 104, 111, 108, 101]⟩ ⟨#[]⟩ (.no 1)) v := by
  have := Fix_Whole_bad m n h w
  rw [fwhole, if_pos h, wholeE, if_pos h] at this
  exact this
theorem Pow_val (x s : Nat) (n : Int) (h : fpow x n = s) (hx : x < 18446744073709551616) (hn : 0 ≤ n ∧ n ≤ 9223372036854775807) (w : World) :
    Calls Tryd.prog 24 #[.int .u64 x, .int .i64 n] w fun r w' => r = .returned (.tuple #[.int .u64 (s : Nat), .nilIface]) ∧ Keep w w' := by
  subst h
  refine (Fix_Pow x n hx (by omega) w).mono ?_
  rintro r w' ⟨v, rfl, hk, he⟩
  rw [powE, if_neg (by omega)] at he
  obtain rfl := he
  exact ⟨rfl, hk⟩
theorem Pow_none (x : Nat) (n : Int) (h : n < 0) (hx : x < 18446744073709551616) (hn : -9223372036854775808 ≤ n) (w : World) :
    Calls Tryd.prog 24 #[.int .u64 x, .int .i64 n] w fun r w' => ∃ v, r = .returned (.tuple #[.int .u64 0, v]) ∧ Keep w w' ∧ ErrAt w' (.fault ⟨#[112, 111, 119]⟩ ⟨#[]⟩ (.no 1)) v := by
  have := Fix_Pow x n hx (by omega) w
  rw [fpow, if_pos h, powE, if_pos h] at this
  exact this
theorem Share_val (a b least s : Nat) (h : fshare a b least = s) (hn : ¬ badShare a b least) (ha : a < 18446744073709551616) (hb : b < 18446744073709551616) (hl : least < 18446744073709551616) (w : World) :
    Calls Tryd.prog 26 #[.int .u64 a, .int .u64 b, .int .u64 least] w fun r w' => r = .returned (.tuple #[.int .u64 (s : Nat), .nilIface]) ∧ Keep w w' := by
  subst h
  rw [fshare, if_neg hn]
  exact Share_ok a b least ha hb hl hn w

/-! ### At numerals -/
theorem Add_0 (a : Nat) (ha : a < 18446744073709551616) (w : World) : Calls Tryd.prog 17 #[.int .u64 a, .int .u64 0] w fun r w' => r = .returned (.int .u64 (a : Nat)) ∧ Keep w w' := Add_val a 0 a (fadd_zero a ha) ha (by omega) w
theorem Add_most (a b : Nat) (h : fadd a b = 18446744073709551615) (ha : a < 18446744073709551616) (hb : b < 18446744073709551616) (w : World) :
    Calls Tryd.prog 17 #[.int .u64 a, .int .u64 b] w fun r w' => r = .returned (.int .u64 18446744073709551615) ∧ Keep w w' := Add_val a b 18446744073709551615 h ha hb w
theorem Most_Add (b : Nat) (hb : b < 18446744073709551616) (w : World) :
    Calls Tryd.prog 17 #[.int .u64 18446744073709551615, .int .u64 b] w fun r w' => r = .returned (.int .u64 18446744073709551615) ∧ Keep w w' := Add_val 18446744073709551615 b 18446744073709551615 (by unfold fadd; split <;> omega) (by omega) hb w
theorem Sub_0 (a : Nat) (ha : a < 18446744073709551616) (w : World) : Calls Tryd.prog 19 #[.int .u64 a, .int .u64 0] w fun r w' => r = .returned (.int .u64 (a : Nat)) ∧ Keep w w' := Sub_val a 0 a (Nat.sub_zero a) ha (by omega) w
theorem Sub_self (a : Nat) (ha : a < 18446744073709551616) (w : World) : Calls Tryd.prog 19 #[.int .u64 a, .int .u64 a] w fun r w' => r = .returned (.int .u64 0) ∧ Keep w w' := Sub_val a a 0 (Nat.sub_self a) ha ha w
theorem Mul_0 (a : Nat) (ha : a < 18446744073709551616) (w : World) : Calls Tryd.prog 21 #[.int .u64 a, .int .u64 0] w fun r w' => r = .returned (.int .u64 0) ∧ Keep w w' := Mul_val a 0 0 (fmul_zero a) ha (by omega) w
theorem Zero_Mul (a : Nat) (ha : a < 18446744073709551616) (w : World) : Calls Tryd.prog 21 #[.int .u64 0, .int .u64 a] w fun r w' => r = .returned (.int .u64 0) ∧ Keep w w' := Mul_val 0 a 0 (by rw [fmul_comm]; exact fmul_zero a) (by omega) ha w
theorem Share_bad00 (least : Nat) (hl : least < 18446744073709551616) (w : World) :
    Calls Tryd.prog 26 #[.int .u64 0, .int .u64 0, .int .u64 least] w fun r w' => ∃ v, r = .returned (.tuple #[.int .u64 0, v]) ∧ Keep w w' ∧ ErrAt w' (.fault ⟨#[115, 104, 97, 114, 101]⟩ ⟨#[]⟩ (.no 1)) v := Share_bad 0 0 least (by omega) (by omega) hl (.inl ⟨rfl, rfl⟩) w
theorem Share_bad0 (b least : Nat) (hb : b < 18446744073709551616) (hl : least < 18446744073709551616) (h : badShare 0 b least) (w : World) :
    Calls Tryd.prog 26 #[.int .u64 0, .int .u64 b, .int .u64 least] w fun r w' => ∃ v, r = .returned (.tuple #[.int .u64 0, v]) ∧ Keep w w' ∧ ErrAt w' (.fault ⟨#[115, 104, 97, 114, 101]⟩ ⟨#[]⟩ (.no 1)) v := Share_bad 0 b least (by omega) hb hl h w
theorem Share_badb (a least : Nat) (ha : a < 18446744073709551616) (hl : least < 18446744073709551616) (h : badShare a 0 least) (w : World) :
    Calls Tryd.prog 26 #[.int .u64 a, .int .u64 0, .int .u64 least] w fun r w' => ∃ v, r = .returned (.tuple #[.int .u64 0, v]) ∧ Keep w w' ∧ ErrAt w' (.fault ⟨#[115, 104, 97, 114, 101]⟩ ⟨#[]⟩ (.no 1)) v := Share_bad a 0 least ha (by omega) hl h w
theorem Share_l0 (a b s : Nat) (h : fshare a b 0 = s) (hn : ¬ badShare a b 0) (ha : a < 18446744073709551616) (hb : b < 18446744073709551616) (w : World) :
    Calls Tryd.prog 26 #[.int .u64 a, .int .u64 b, .int .u64 0] w fun r w' => r = .returned (.tuple #[.int .u64 (s : Nat), .nilIface]) ∧ Keep w w' := Share_val a b 0 s h hn ha hb (by omega) w
theorem Mul_1 (a : Nat) (ha : a < 18446744073709551616) (w : World) : Calls Tryd.prog 21 #[.int .u64 a, .int .u64 4611686018427387904] w fun r w' => r = .returned (.int .u64 (a : Nat)) ∧ Keep w w' := Mul_val a 4611686018427387904 a (fmul_one a ha) ha (by omega) w
theorem One_Add (a s : Nat) (h : fadd 4611686018427387904 a = s) (ha : a < 18446744073709551616) (w : World) : Calls Tryd.prog 17 #[.int .u64 4611686018427387904, .int .u64 a] w fun r w' => r = .returned (.int .u64 (s : Nat)) ∧ Keep w w' := Add_val 4611686018427387904 a s h (by omega) ha w
theorem Whole_1 (a s : Nat) (h : fover a 1 = s) (ha : a < 9223372036854775808) (w : World) : Calls Tryd.prog 15 #[.int .i64 a, .int .i64 1] w fun r w' => r = .returned (.tuple #[.int .u64 (s : Nat), .nilIface]) ∧ Keep w w' := Whole_val a 1 s h (by omega) ha (by omega) w
theorem Pow_0 (x : Nat) (hx : x < 18446744073709551616) (w : World) : Calls Tryd.prog 24 #[.int .u64 x, .int .i64 0] w fun r w' => r = .returned (.tuple #[.int .u64 4611686018427387904, .nilIface]) ∧ Keep w w' := Pow_val x 4611686018427387904 0 (fpow_zero x) hx (by omega) w
theorem Pow_1 (x : Nat) (hx : x < 18446744073709551616) (w : World) : Calls Tryd.prog 24 #[.int .u64 x, .int .i64 1] w fun r w' => r = .returned (.tuple #[.int .u64 (x : Nat), .nilIface]) ∧ Keep w w' := Pow_val x x 1 (fpow_one x hx) hx (by omega) w
theorem Pow_ones (n : Int) (hn : 0 ≤ n ∧ n ≤ 9223372036854775807) (w : World) : Calls Tryd.prog 24 #[.int .u64 4611686018427387904, .int .i64 n] w fun r w' => r = .returned (.tuple #[.int .u64 4611686018427387904, .nilIface]) ∧ Keep w w' := Pow_val 4611686018427387904 4611686018427387904 n (fpow_ones n hn.1) (by omega) hn w
/-! ### Answers that the document fixes -/
section
variable (w : World)
theorem aw_Div : Calls Tryd.prog 13 #[.int .u64 4611686018427387904, .int .u64 9223372036854775808] w fun r w' => r = .returned (.tuple #[.int .u64 2305843009213693952, .nilIface]) ∧ Keep w w' :=
  Div_val 4611686018427387904 9223372036854775808 2305843009213693952 (by decide +kernel) (by omega) (by omega) (by omega) w
theorem aw_Div0 : Calls Tryd.prog 13 #[.int .u64 1, .int .u64 0] w fun r w' => ∃ v, r = .returned (.tuple #[.int .u64 0, v]) ∧ Keep w w' ∧ ErrAt w' (.fault ⟨#[100, 105, 118]⟩ ⟨#[]⟩ (.no 1)) v := Div_none 1 (by omega) w
theorem aw_Pow : Calls Tryd.prog 24 #[.int .u64 2305843009213693952, .int .i64 3] w fun r w' => r = .returned (.tuple #[.int .u64 576460752303423488, .nilIface]) ∧ Keep w w' :=
  Pow_val 2305843009213693952 576460752303423488 3 (by simp [fpow, fpowL]; decide +kernel) (by omega) (by omega) w
theorem aw_Share : Calls Tryd.prog 26 #[.int .u64 4611686018427387904, .int .u64 4611686018427387904, .int .u64 0] w fun r w' => r = .returned (.tuple #[.int .u64 2305843009213693952, .nilIface]) ∧ Keep w w' :=
  Share_val 4611686018427387904 4611686018427387904 0 2305843009213693952 (by decide +kernel) (by decide +kernel) (by omega) (by omega) (by omega) w
theorem aw_Whole : Calls Tryd.prog 15 #[.int .i64 3, .int .i64 2] w fun r w' => r = .returned (.tuple #[.int .u64 6917529027641081856, .nilIface]) ∧ Keep w w' :=
  Whole_val 3 2 6917529027641081856 (by decide +kernel) (by omega) (by omega) (by omega) w
theorem aw_Mul : Calls Tryd.prog 21 #[.int .u64 2305843009213693952, .int .u64 2305843009213693952] w fun r w' => r = .returned (.int .u64 1152921504606846976) ∧ Keep w w' :=
  Mul_val 2305843009213693952 2305843009213693952 1152921504606846976 (by decide +kernel) (by omega) (by omega) w
theorem aw_Add : Calls Tryd.prog 17 #[.int .u64 18446744073709551615, .int .u64 1] w fun r w' => r = .returned (.int .u64 18446744073709551615) ∧ Keep w w' :=
  Add_val 18446744073709551615 1 18446744073709551615 (by decide +kernel) (by omega) (by omega) w
theorem aw_Sub : Calls Tryd.prog 19 #[.int .u64 1, .int .u64 2] w fun r w' => r = .returned (.int .u64 0) ∧ Keep w w' :=
  Sub_val 1 2 0 (by decide +kernel) (by omega) (by omega) w
theorem aw_Exp : Calls Tryd.prog 28 #[.int .u64 0] w fun r w' => r = .returned (.int .u64 4611686018427387904) ∧ Keep w w' :=
  Exp_val 0 4611686018427387904 (by decide +kernel) (by omega) w
theorem aw_Fall : Calls Tryd.prog 30 #[.int .u64 0] w fun r w' => r = .returned (.int .u64 4611686018427387904) ∧ Keep w w' :=
  Fall_val 0 4611686018427387904 (by decide +kernel) (by omega) w
end
set_option maxRecDepth 100000 in
set_option maxHeartbeats 4000000 in
theorem awake01 (w : World) (hE : Env w) : Calls Tryd.prog 12 #[] w fun r w' => r = .returned (.bool true) ∧ Keep w w' := by
  have hE := hide hE
  have k0 := hide (Keep.refl w)
  go_enter Tryd.func12, Tryd.ntmps12
  go_wp2_with (first
    | (go_at_call 13; (with_reducible refine (aw_Div _).mono ?_); rintro r w1 ⟨rfl, h⟩; have k1 := hide (k0.out.trans h); clear h)
    | (go_at_call 13; (with_reducible refine (aw_Div0 _).mono ?_); rintro r w2 ⟨v, rfl, h, he⟩; have k2 := hide (k1.out.trans h); have he := hide he; clear h)
    | (go_at_call 24; (with_reducible refine (aw_Pow _).mono ?_); rintro r w3 ⟨rfl, h⟩; have k3 := hide h; clear h)
    | (go_at_call 26; (with_reducible refine (aw_Share _).mono ?_); rintro r w4 ⟨rfl, h⟩; have k4 := hide (k3.out.trans h); clear h)
    | (go_at_call 15; (with_reducible refine (aw_Whole _).mono ?_); rintro r w5 ⟨rfl, h⟩; have k5 := hide (k4.out.trans h); clear h)
    | (go_at_call 21; (with_reducible refine (aw_Mul _).mono ?_); rintro r w6 ⟨rfl, h⟩; have k6 := hide (k5.out.trans h); clear h)
    | (go_at_call 17; (with_reducible refine (aw_Add _).mono ?_); rintro r w7 ⟨rfl, h⟩; have k7 := hide (k6.out.trans h); clear h)
    | (go_at_call 19; (with_reducible refine (aw_Sub _).mono ?_); rintro r w8 ⟨rfl, h⟩; have k8 := hide (k7.out.trans h); clear h)
    | (go_at_call 23; (with_reducible refine (Wraps_hit _ _ 1 _ _ (hE.out.keep (k2.out.trans k8.out)) (by decide) (he.out.keep k8.out)).mono ?_); rintro r w9 ⟨rfl, h⟩; have k9 := hide (k8.out.trans h); clear h)
    | (go_at_call 28; (with_reducible refine (aw_Exp _).mono ?_); rintro r w10 ⟨rfl, h⟩; have k10 := hide (k9.out.trans h); clear h)
    | (go_at_call 30; (with_reducible refine (aw_Fall _).mono ?_); rintro r w11 ⟨rfl, h⟩; have k11 := hide (k10.out.trans h); clear h))
  go_ret
  exact ⟨rfl, k2.out.trans k11.out⟩
end Go.Proofs.YtfdeafiidaepgaaDoor
