/- The laws FixTells, FixGrows: their walks. -/
import Derived.Test.YtfdeafiidaepgaaDoorFixRefOps
import Derived.Test.YtfdeafiidaepgaaDoorQuiet
namespace Go.Proofs.YtfdeafiidaepgaaDoor
open Go Go.RowKit Go.Shelf Go.Proofs.Mul64

theorem RefShare_any (a b least t : Nat) (ht : fshare a b least = t) (hn : ¬ badShare a b least) (ha : a < 18446744073709551616) (hb : b < 18446744073709551616) (w : World) :
    Calls Tryd.prog 27 #[.int .u64 a, .int .u64 b, .int .u64 least] w fun r w' => r = .returned (.tuple #[.int .u64 (t : Nat), .int .i64 0]) ∧ Keep w w' := by
  rcases Nat.eq_zero_or_pos a with rfl | h0
  · exact RefShare_val0 b least t ht hn hb w
  · exact RefShare_val a b least t h0 ht hn ha hb w
theorem Div_bad (a b : Nat) (h0 : b = 0) (ha : a < 18446744073709551616) (w : World) :
    Calls Tryd.prog 13 #[.int .u64 a, .int .u64 b] w fun r w' => ∃ v, r = .returned (.tuple #[.int .u64 0, v]) ∧ Keep w w' ∧ ErrAt w' (.fault ⟨#[100, 105, 118]⟩ ⟨#[]⟩ (.no 1)) v := by subst h0; exact Div_none a ha w
theorem RefDiv_bad (a b : Nat) (h0 : b = 0) (w : World) :
    Calls Tryd.prog 14 #[.int .u64 a, .int .u64 b] w fun r w' => r = .returned (.tuple #[.int .u64 0, .int .i64 1]) ∧ Keep w w' := by subst h0; exact RefDiv_none a w
theorem RefSub_val (a b s : Nat) (h : fsub a b = s) (ha : a < 18446744073709551616) (hb : b < 18446744073709551616) (w : World) :
    Calls Tryd.prog 20 #[.int .u64 a, .int .u64 b] w fun r w' => r = .returned (.int .u64 (s : Nat)) ∧ Keep w w' := by subst h; exact Ref_Sub a b ha hb w
theorem Wraps_ok (op key : ByteArray) (w : World) :
    Calls Tryd.prog 23 #[.nilIface, .string op, .string key, .int .i64 0] w fun r w' => r = .returned (.bool true) ∧ Keep w w' :=
  (Wraps_zero .nil .nilIface op key w rfl).mono fun _ _ ⟨h1, h2⟩ => ⟨h1, h2 ▸ Keep.refl _⟩

/-! ### Both sides of the quotients -/
/-- What a call of fix tells, and what the reference tells. -/
def Both (x : Nat) (e : EV) (code : Int) (f g : FuncId) (args : Array Value) : Prop :=
  (∀ w, Calls Tryd.prog f args w fun r w' => ∃ v, r = .returned (.tuple #[.int .u64 (x : Nat), v]) ∧ Keep w w' ∧ ErrAt w' e v) ∧
  (∀ w, Calls Tryd.prog g args w fun r w' => r = .returned (.tuple #[.int .u64 (x : Nat), .int .i64 code]) ∧ Keep w w')
theorem both_Div (a b : Nat) (ha : a < 18446744073709551616) (hb : b < 18446744073709551616) :
    ∃ x c, (c = 0 ∨ c = 1) ∧ Both x (if c = 0 then .nil else .fault ⟨#[100, 105, 118]⟩ ⟨#[]⟩ (.no 1)) c 13 14 #[.int .u64 a, .int .u64 b] := by
  rcases Nat.eq_zero_or_pos b with h0 | h0
  · exact ⟨0, 1, .inr rfl, fun w => Div_bad a b h0 ha w, fun w => RefDiv_bad a b h0 w⟩
  · exact ⟨_, 0, .inl rfl, fun w => (Div_val a b _ rfl h0 ha hb w).mono fun _ _ ⟨h1, h2⟩ => ⟨_, h1, h2, rfl⟩, fun w => RefDiv_val a b _ rfl h0 ha hb w⟩
theorem both_Whole (m n : Int) (hm : -9223372036854775808 ≤ m ∧ m ≤ 9223372036854775807) (hn : -9223372036854775808 ≤ n ∧ n ≤ 9223372036854775807) :
    ∃ x c, (c = 0 ∨ c = 1) ∧ Both x (if c = 0 then .nil else .fault ⟨#[119, 104, 111, 108, 101]⟩ ⟨#[]⟩ (.no 1)) c 15 16 #[.int .i64 m, .int .i64 n] := by
  by_cases h : m < 0 ∨ n ≤ 0
  · exact ⟨0, 1, .inr rfl, fun w => Whole_none m n h w, fun w => RefWhole_none m n h w⟩
  · obtain ⟨a, rfl⟩ : ∃ a : Nat, m = a := ⟨m.toNat, by omega⟩
    obtain ⟨b, rfl⟩ : ∃ b : Nat, n = b := ⟨n.toNat, by omega⟩
    exact ⟨_, 0, .inl rfl, fun w => (Whole_val a b _ rfl (by omega) (by omega) (by omega) w).mono fun _ _ ⟨h1, h2⟩ => ⟨_, h1, h2, rfl⟩, fun w => RefWhole_val a b _ rfl (by omega) (by omega) (by omega) w⟩
theorem both_Pow (x : Nat) (n : Int) (hx : x < 18446744073709551616) (hn : -9223372036854775808 ≤ n ∧ n ≤ 9223372036854775807) :
    ∃ y c, (c = 0 ∨ c = 1) ∧ Both y (if c = 0 then .nil else .fault ⟨#[112, 111, 119]⟩ ⟨#[]⟩ (.no 1)) c 24 25 #[.int .u64 x, .int .i64 n] := by
  by_cases h : n < 0
  · exact ⟨0, 1, .inr rfl, fun w => Pow_none x n h hx hn.1 w, fun w => RefPow_none x n h w⟩
  · obtain ⟨a, rfl⟩ : ∃ a : Nat, n = a := ⟨n.toNat, by omega⟩
    exact ⟨_, 0, .inl rfl, fun w => (Pow_val x _ a rfl hx (by omega) w).mono fun _ _ ⟨h1, h2⟩ => ⟨_, h1, h2, rfl⟩, fun w => RefPow_val x a _ rfl hx (by omega) w⟩
theorem both_Share (a b least : Nat) (ha : a < 18446744073709551616) (hb : b < 18446744073709551616) (hl : least < 18446744073709551616) :
    ∃ y c, (c = 0 ∨ c = 1) ∧ Both y (if c = 0 then .nil else .fault ⟨#[115, 104, 97, 114, 101]⟩ ⟨#[]⟩ (.no 1)) c 26 27 #[.int .u64 a, .int .u64 b, .int .u64 least] := by
  by_cases h : badShare a b least
  · exact ⟨0, 1, .inr rfl, fun w => Share_bad a b least ha hb hl h w, fun w => RefShare_bad a b least h w⟩
  · exact ⟨_, 0, .inl rfl, fun w => (Share_val a b least _ rfl h ha hb hl w).mono fun _ _ ⟨h1, h2⟩ => ⟨_, h1, h2, rfl⟩, fun w => RefShare_any a b least _ rfl h ha hb w⟩
/-- The laws' Wraps at what both tell. -/
theorem Wraps_both (op : ByteArray) (c : Int) (hc : c = 0 ∨ c = 1) (v : Value) (w : World) (hE : Env w) (he : ErrAt w (if c = 0 then .nil else .fault op ⟨#[]⟩ (.no 1)) v) :
    Calls Tryd.prog 23 #[v, .string op, .string ⟨#[]⟩, .int .i64 c] w fun r w' => r = .returned (.bool true) ∧ Keep w w' := by
  rcases hc with rfl | rfl
  · rw [if_pos rfl] at he
    obtain rfl := he
    exact Wraps_ok _ _ _
  · rw [if_neg (by omega)] at he
    exact Wraps_hit _ _ 1 _ _ hE (by decide) he
set_option maxRecDepth 100000 in
set_option maxHeartbeats 8000000 in
theorem walk_FixTells (a b : Nat) (m n : Int) (ha : a < 18446744073709551616) (hb : b < 18446744073709551616) (hm : -9223372036854775808 ≤ m ∧ m ≤ 9223372036854775807) (hn : -9223372036854775808 ≤ n ∧ n ≤ 9223372036854775807) (W : World) (hE : Env W) :
    Calls Tryd.prog 3 #[.int .u64 a, .int .u64 b, .int .i64 m, .int .i64 n] W fun e w' => e = .returned (.bool true) ∧ Holds W w' [] := by
  have hE := hide hE
  obtain ⟨x, c, hc, hx, hx2⟩ := both_Div a b ha hb
  obtain ⟨u, d, hd, hu, hu2⟩ := both_Whole m n hm hn
  obtain ⟨s, hs⟩ : ∃ s, fadd a b = s := ⟨_, rfl⟩
  obtain ⟨t, ht⟩ : ∃ t, fsub a b = t := ⟨_, rfl⟩
  obtain ⟨p, hp⟩ : ∃ p, fmul a b = p := ⟨_, rfl⟩
  have hc := hide hc
  have hd := hide hd
  have hx := hide hx
  have hu := hide hu
  have hx2 := hide hx2
  have hu2 := hide hu2
  have hs := hide hs
  have ht := hide ht
  have hp := hide hp
  clear hm hn
  go_enter Tryd.func3, Tryd.ntmps3
  go_wp2_with (first
    | (go_at_call 12; (with_reducible refine (awake01 W hE.out).mono ?_); rintro r wn ⟨rfl, h⟩; have k0 := hide h; clear h; have k := hide (Keep.refl wn))
    | (go_at_call 13; (with_reducible refine (hx.out _).mono ?_); rintro r wn ⟨v, rfl, h, he⟩; replace k0 := hide (k0.out.trans (k.out.trans h)); have e0 := hide he; replace k := hide (Keep.refl wn); clear h he)
    | (go_at_call 14; (with_reducible refine (hx2.out _).mono ?_); rintro r wn ⟨rfl, h⟩; replace k := hide (k.out.trans h); clear h)
    | (go_at_call 15; (with_reducible refine (hu.out _).mono ?_); rintro r wn ⟨v, rfl, h, he⟩; replace k0 := hide (k0.out.trans (k.out.trans h)); replace e0 := hide (e0.out.keep (k.out.trans h)); have e1 := hide he; replace k := hide (Keep.refl wn); clear h he)
    | (go_at_call 16; (with_reducible refine (hu2.out _).mono ?_); rintro r wn ⟨rfl, h⟩; replace k := hide (k.out.trans h); clear h)
    | (go_at_call 17; (with_reducible refine (Add_val a b s hs.out ha hb _).mono ?_); rintro r wn ⟨rfl, h⟩; replace k := hide (k.out.trans h); clear h)
    | (go_at_call 18; (with_reducible refine (RefAdd_val a b s hs.out ha hb _).mono ?_); rintro r wn ⟨rfl, h⟩; replace k := hide (k.out.trans h); clear h)
    | (go_at_call 19; (with_reducible refine (Sub_val a b t ht.out ha hb _).mono ?_); rintro r wn ⟨rfl, h⟩; replace k := hide (k.out.trans h); clear h)
    | (go_at_call 20; (with_reducible refine (RefSub_val a b t ht.out ha hb _).mono ?_); rintro r wn ⟨rfl, h⟩; replace k := hide (k.out.trans h); clear h)
    | (go_at_call 21; (with_reducible refine (Mul_val a b p hp.out ha hb _).mono ?_); rintro r wn ⟨rfl, h⟩; replace k := hide (k.out.trans h); clear h)
    | (go_at_call 22; (with_reducible refine (RefMul_val a b p hp.out ha hb _).mono ?_); rintro r wn ⟨rfl, h⟩; replace k := hide (k.out.trans h); clear h)
    | (go_at_call 23; (with_reducible refine (Wraps_both _ c hc.out _ _ (hE.out.keep (k0.out.trans k.out)) (e0.out.keep k.out)).mono ?_); rintro r wn ⟨rfl, h⟩; replace k := hide (k.out.trans h); clear h)
    | (go_at_call 23; (with_reducible refine (Wraps_both _ d hd.out _ _ (hE.out.keep (k0.out.trans k.out)) (e1.out.keep k.out)).mono ?_); rintro r wn ⟨rfl, h⟩; replace k := hide (k.out.trans h); clear h))
  go_ret
  exact ⟨rfl, (k0.out.trans k.out).holds⟩
set_option maxRecDepth 100000 in
set_option maxHeartbeats 8000000 in
theorem walk_FixGrows (a b least : Nat) (n : Int) (ha : a < 18446744073709551616) (hb : b < 18446744073709551616) (hl : least < 18446744073709551616) (hn : -9223372036854775808 ≤ n ∧ n ≤ 9223372036854775807) (W : World) (hE : Env W) :
    Calls Tryd.prog 4 #[.int .u64 a, .int .u64 b, .int .u64 least, .int .i64 n] W fun e w' => e = .returned (.bool true) ∧ Holds W w' [] := by
  have hE := hide hE
  obtain ⟨x, c, hc, hx, hx2⟩ := both_Pow a n ha hn
  obtain ⟨u, d, hd, hu, hu2⟩ := both_Share a b least ha hb hl
  obtain ⟨s, hs⟩ : ∃ s, fexp a = s := ⟨_, rfl⟩
  obtain ⟨t, ht⟩ : ∃ t, ffall a = t := ⟨_, rfl⟩
  have hc := hide hc
  have hd := hide hd
  have hx := hide hx
  have hu := hide hu
  have hx2 := hide hx2
  have hu2 := hide hu2
  have hs := hide hs
  have ht := hide ht
  clear hn
  go_enter Tryd.func4, Tryd.ntmps4
  go_wp2_with (first
    | (go_at_call 12; (with_reducible refine (awake01 W hE.out).mono ?_); rintro r wn ⟨rfl, h⟩; have k0 := hide h; clear h; have k := hide (Keep.refl wn))
    | (go_at_call 24; (with_reducible refine (hx.out _).mono ?_); rintro r wn ⟨v, rfl, h, he⟩; replace k0 := hide (k0.out.trans (k.out.trans h)); have e0 := hide he; replace k := hide (Keep.refl wn); clear h he)
    | (go_at_call 25; (with_reducible refine (hx2.out _).mono ?_); rintro r wn ⟨rfl, h⟩; replace k := hide (k.out.trans h); clear h)
    | (go_at_call 26; (with_reducible refine (hu.out _).mono ?_); rintro r wn ⟨v, rfl, h, he⟩; replace k0 := hide (k0.out.trans (k.out.trans h)); replace e0 := hide (e0.out.keep (k.out.trans h)); have e1 := hide he; replace k := hide (Keep.refl wn); clear h he)
    | (go_at_call 27; (with_reducible refine (hu2.out _).mono ?_); rintro r wn ⟨rfl, h⟩; replace k := hide (k.out.trans h); clear h)
    | (go_at_call 28; (with_reducible refine (Exp_val a s hs.out ha _).mono ?_); rintro r wn ⟨rfl, h⟩; replace k := hide (k.out.trans h); clear h)
    | (go_at_call 29; (with_reducible refine (RefExp_val a s hs.out ha _).mono ?_); rintro r wn ⟨rfl, h⟩; replace k := hide (k.out.trans h); clear h)
    | (go_at_call 30; (with_reducible refine (Fall_val a t ht.out ha _).mono ?_); rintro r wn ⟨rfl, h⟩; replace k := hide (k.out.trans h); clear h)
    | (go_at_call 31; (with_reducible refine (RefFall_val a t ht.out ha _).mono ?_); rintro r wn ⟨rfl, h⟩; replace k := hide (k.out.trans h); clear h)
    | (go_at_call 23; (with_reducible refine (Wraps_both _ c hc.out _ _ (hE.out.keep (k0.out.trans k.out)) (e0.out.keep k.out)).mono ?_); rintro r wn ⟨rfl, h⟩; replace k := hide (k.out.trans h); clear h)
    | (go_at_call 23; (with_reducible refine (Wraps_both _ d hd.out _ _ (hE.out.keep (k0.out.trans k.out)) (e1.out.keep k.out)).mono ?_); rintro r wn ⟨rfl, h⟩; replace k := hide (k.out.trans h); clear h))
  go_ret
  exact ⟨rfl, (k0.out.trans k.out).holds⟩
end Go.Proofs.YtfdeafiidaepgaaDoor
