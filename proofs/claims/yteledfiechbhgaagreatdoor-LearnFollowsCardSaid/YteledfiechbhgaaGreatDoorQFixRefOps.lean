/- cachewiseref01: Div, Whole, Pow, Exp, Fall, Share. -/
import Derived.Test.YteledfiechbhgaaGreatDoorQFixRefOver
import Derived.Test.YteledfiechbhgaaGreatDoorQFixShare
namespace Go.Proofs.YteledfiechbhgaaGreatDoor
open Go Go.RowKit Go.Shelf Go.Proofs.Mul64

theorem Over_val (a b s : Nat) (h : fover a b = s) (h0 : 0 < b) (ha : a < 18446744073709551616) (hb : b < 18446744073709551616) (w : World) :
    Calls Tryz.prog 44 #[.int .u64 a, .int .u64 b] w fun r w' => r = .returned (.int .u64 (s : Nat)) ∧ Keep w w' := by subst h; exact Ref_over a b ha hb h0 w
theorem RefMul_val (a b s : Nat) (h : fmul a b = s) (ha : a < 18446744073709551616) (hb : b < 18446744073709551616) (w : World) :
    Calls Tryz.prog 164 #[.int .u64 a, .int .u64 b] w fun r w' => r = .returned (.int .u64 (s : Nat)) ∧ Keep w w' := by subst h; exact Ref_Mul a b ha hb w
theorem RefAdd_val (a b s : Nat) (h : fadd a b = s) (ha : a < 18446744073709551616) (hb : b < 18446744073709551616) (w : World) :
    Calls Tryz.prog 267 #[.int .u64 a, .int .u64 b] w fun r w' => r = .returned (.int .u64 (s : Nat)) ∧ Keep w w' := by subst h; exact Ref_Add a b ha hb w
theorem RefDiv_val (a b s : Nat) (h : fover a b = s) (h0 : 0 < b) (ha : a < 18446744073709551616) (hb : b < 18446744073709551616) (w : World) :
    Calls Tryz.prog 231 #[.int .u64 a, .int .u64 b] w fun r w' => r = .returned (.tuple #[.int .u64 (s : Nat), .int .i64 0]) ∧ Keep w w' := by
  have h := hide h
  have k := hide (Keep.refl w)
  have hz : ((b : Int) == 0) = false := by rw [beq_eq_false_iff_ne]; omega
  go_enter Tryz.func231, Tryz.ntmps231
  go_wp2_with (go_at_call 44; (with_reducible refine (Over_val a b s h.out h0 ha hb _).mono ?_); rintro r wn ⟨rfl, h⟩; replace k := hide (k.out.trans h); clear h)
  go_ret2
  exact ⟨rfl, k.out⟩
theorem RefDiv_none (a : Nat) (w : World) :
    Calls Tryz.prog 231 #[.int .u64 a, .int .u64 0] w fun r w' => r = .returned (.tuple #[.int .u64 0, .int .i64 1]) ∧ Keep w w' := by
  go_enter Tryz.func231, Tryz.ntmps231
  go_wp2
  go_ret2
  exact ⟨rfl, Keep.refl w⟩
theorem RefWhole_val (a b s : Nat) (h : fover a b = s) (h0 : 0 < b) (ha : a < 9223372036854775808) (hb : b < 9223372036854775808) (w : World) :
    Calls Tryz.prog 13 #[.int .i64 a, .int .i64 b] w fun r w' => r = .returned (.tuple #[.int .u64 (s : Nat), .int .i64 0]) ∧ Keep w w' := by
  have h := hide h
  have k := hide (Keep.refl w)
  have h1 : ¬ (a : Int) < 0 := by omega
  have h2 : ¬ (b : Int) < 1 := by omega
  have f1 : IntKind.u64.wrap (a : Int) = (a : Int) := by rw [IntKind.wrap_u64]; omega
  have f2 : IntKind.u64.wrap (b : Int) = (b : Int) := by rw [IntKind.wrap_u64]; omega
  have ha' := hide (show a < 18446744073709551616 by omega)
  have hb' := hide (show b < 18446744073709551616 by omega)
  have h0 := hide h0
  clear ha hb
  go_enter Tryz.func13, Tryz.ntmps13
  go_wp2_with (go_at_call 44; (with_reducible refine (Over_val a b s h.out h0.out ha'.out hb'.out _).mono ?_); rintro r wn ⟨rfl, h⟩; replace k := hide (k.out.trans h); clear h)
  go_ret2
  exact ⟨rfl, k.out⟩
theorem RefWhole_none (m n : Int) (h : m < 0 ∨ n ≤ 0) (w : World) :
    Calls Tryz.prog 13 #[.int .i64 m, .int .i64 n] w fun r w' => r = .returned (.tuple #[.int .u64 0, .int .i64 1]) ∧ Keep w w' := by
  by_cases h0 : m < 0
  · clear h
    go_enter Tryz.func13, Tryz.ntmps13
    go_wp2
    go_ret2
    exact ⟨rfl, Keep.refl w⟩
  · have h1 : n < 1 := by omega
    clear h
    go_enter Tryz.func13, Tryz.ntmps13
    go_wp2
    go_ret2
    exact ⟨rfl, Keep.refl w⟩
theorem RefExp_val (x t : Nat) (ht : fexp x = t) (hx : x < 18446744073709551616) (w : World) :
    Calls Tryz.prog 261 #[.int .u64 x] w fun r w' => r = .returned (.int .u64 (t : Nat)) ∧ Keep w w' := by
  have ht := hide ht
  go_enter Tryz.func261, Tryz.ntmps261
  go_wp2
  go_loopw [3, 4, 5] (fun b a c wr => ∃ s m n : Nat, a = .int .u64 s ∧ b = .int .u64 m ∧ c = .int .i64 n ∧ s < 18446744073709551616 ∧ m < 18446744073709551616 ∧ 0 < m ∧ 1 ≤ n ∧ n ≤ 64 ∧ fexpL x (64 - n) s m = t ∧ Keep w wr) (fun b a c _ => (64 - intOf c).toNat)
  case atStart => exact ⟨4611686018427387904, 4611686018427387904, 1, rfl, rfl, rfl, by omega, by omega, by omega, by omega, by omega, ht.out, Keep.refl _⟩
  case round =>
    obtain ⟨s, m, n, rfl, rfl, rfl, hs, hm, h0, hn1, hn2, hp, hk⟩ := hrel
    have hp := hide hp
    have k := hide hk
    clear hk
    by_cases hn : n < 64
    · have hn' : (n : Int) < 64 := by omega
      have hst := hp.out
      rw [show 64 - n = (63 - n) + 1 by omega, fexpL, if_neg (by omega), show 63 - (63 - n) = n by omega] at hst
      obtain ⟨z, hz⟩ : ∃ z, fmul m x = z := ⟨_, rfl⟩
      have hzl : z < 18446744073709551616 := by rw [← hz]; exact fmul_lt _ _
      rw [hz] at hst
      have hz := hide hz
      have e1 : (z : Int).tdiv (n : Int) = ((z / n : Nat) : Int) := rfl
      have hq : z / n ≤ z := Nat.div_le_self _ _
      obtain ⟨q, hq'⟩ : ∃ q, z / n = q := ⟨_, rfl⟩
      rw [hq'] at e1 hst hq
      have e0 : IntKind.u64.wrap (n : Int) = (n : Int) := wrapN _ (by omega)
      have e2 : IntKind.u64.wrap (q : Int) = (q : Int) := wrapN _ (by omega)
      have e3 : IntKind.i64.wrap ((n : Int) + 1) = ((n + 1 : Nat) : Int) := by rw [show (n : Int) + 1 = ((n + 1 : Nat) : Int) by omega]; exact IntWalk.i64_in _ (by omega)
      have hnz : ¬ (n : Int) = 0 := by omega
      have hst := hide hst
      clear hq'
      rcases Nat.eq_zero_or_pos q with rfl | hq0
      · have hst2 : s = t := by
          have := hst.out
          rw [fadd_zero _ hs, fexpL_zero] at this
          exact this
        subst hst2
        go_wp2_with (go_at_call 164; (with_reducible refine (RefMul_val m x z hz.out hm hx _).mono ?_); rintro r wn ⟨rfl, h⟩; replace k := hide (k.out.trans h); clear h)
        go_ret
        exact ⟨rfl, k.out⟩
      · have hqz : ((q : Int) == 0) = false := by rw [beq_eq_false_iff_ne]; omega
        have hql := hide (show q < 18446744073709551616 by omega)
        obtain ⟨s', hs'⟩ : ∃ s', fadd s q = s' := ⟨_, rfl⟩
        have hs'l := hide (show s' < 18446744073709551616 by rw [← hs']; exact fadd_lt _ _)
        rw [hs'] at hst
        have hs' := hide hs'
        go_wp2_with (first
          | (go_at_call 164; (with_reducible refine (RefMul_val m x z hz.out hm hx _).mono ?_); rintro r wn ⟨rfl, h⟩; replace k := hide (k.out.trans h); clear h)
          | (go_at_call 267; (with_reducible refine (RefAdd_val s q s' hs'.out hs hql.out _).mono ?_); rintro r wn ⟨rfl, h⟩; replace k := hide (k.out.trans h); clear h))
        go_roundw
        case rel => exact ⟨s', q, n + 1, rfl, rfl, rfl, hs'l.out, hql.out, hq0, by omega, by omega, by rw [← hst.out, show 64 - (n + 1) = 63 - n by omega], k.out⟩
        case measure => (simp [intOf] <;> omega)
    · have hn' : ¬ (n : Int) < 64 := by omega
      have hst : s = t := by
        have := hp.out
        rw [show 64 - n = 0 by omega, fexpL] at this
        exact this
      subst hst
      go_wp2
      go_ret
      exact ⟨rfl, k.out⟩
theorem OneDiv (e t : Nat) (h : fover 4611686018427387904 e = t) (h0 : 0 < e) (he : e < 18446744073709551616) (w : World) :
    Calls Tryz.prog 231 #[.int .u64 4611686018427387904, .int .u64 e] w fun r w' => r = .returned (.tuple #[.int .u64 (t : Nat), .int .i64 0]) ∧ Keep w w' := RefDiv_val 4611686018427387904 e t h h0 (by omega) he w
theorem RefFall_val (x t : Nat) (ht : ffall x = t) (hx : x < 18446744073709551616) (w : World) :
    Calls Tryz.prog 230 #[.int .u64 x] w fun r w' => r = .returned (.int .u64 (t : Nat)) ∧ Keep w w' := by
  rw [ffall_eq] at ht
  have hl := fexp_lt x
  have h0 := fexp_one x
  obtain ⟨e, he⟩ : ∃ e, fexp x = e := ⟨_, rfl⟩
  rw [he] at ht hl h0
  have h0 := hide (show 0 < e by omega)
  have hl := hide hl
  have ht := hide ht
  have he := hide he
  have k := hide (Keep.refl w)
  go_enter Tryz.func230, Tryz.ntmps230
  go_wp2_with (first
    | (go_at_call 261; (with_reducible refine (RefExp_val x e he.out hx _).mono ?_); rintro r wn ⟨rfl, h⟩; replace k := hide (k.out.trans h); clear h)
    | (go_at_call 231; (with_reducible refine (OneDiv e t ht.out h0.out hl.out _).mono ?_); rintro r wn ⟨rfl, h⟩; replace k := hide (k.out.trans h); clear h))
  go_ret
  exact ⟨rfl, k.out⟩
theorem RefPow_none (x : Nat) (n : Int) (h : n < 0) (w : World) :
    Calls Tryz.prog 229 #[.int .u64 x, .int .i64 n] w fun r w' => r = .returned (.tuple #[.int .u64 0, .int .i64 1]) ∧ Keep w w' := by
  go_enter Tryz.func229, Tryz.ntmps229
  go_wp2
  go_ret2
  exact ⟨rfl, Keep.refl w⟩
theorem fpowL_bit (o x b m : Nat) (hb : b ≤ 1) : fpowL o x (b + 2 * m) = fpowL (if b = 1 then fmul o x else o) (fmul x x) m := by
  by_cases h : b + 2 * m = 0
  · obtain rfl : b = 0 := by omega
    obtain rfl : m = 0 := by omega
    rw [fpowL_zero, if_neg (by omega), fpowL_zero]
  · rw [fpowL_step _ _ _ h]
    have e1 : (b + 2 * m) / 2 = m := by omega
    have e2 : (b + 2 * m) % 2 = b := by omega
    rw [e1, e2]
theorem RefPow_val (x n t : Nat) (ht : fpow x n = t) (hx : x < 18446744073709551616) (hn : n < 9223372036854775808) (w : World) :
    Calls Tryz.prog 229 #[.int .u64 x, .int .i64 n] w fun r w' => r = .returned (.tuple #[.int .u64 (t : Nat), .int .i64 0]) ∧ Keep w w' := by
  rw [fpow, if_neg (by omega), Int.toNat_natCast] at ht
  have ht := hide ht
  have h0 : ¬ (n : Int) < 0 := by omega
  have f1 : IntKind.u64.wrap (n : Int) = (n : Int) := by rw [IntKind.wrap_u64]; omega
  have hn' := hide (show n < 18446744073709551616 by omega)
  have hx' := hide hx
  clear hn hx
  go_enter Tryz.func229, Tryz.ntmps229
  go_wp2_with (go_at_call 86; (with_reducible refine (Ref_row n hn'.out _).mono ?_); rintro r w1 ⟨s, l, rfl, h1, h2, h3, h4, h5⟩
               obtain ⟨ao, cap, rfl⟩ := h1.shape
               rw [bv_length] at h1 ⊢
               have hr := hide h1; have vl := hide h2; have bl := hide h3; have nl := hide h4; have k1 := hide h5; clear h1 h2 h3 h4 h5)
  go_loopw [0, 7, 8] (fun a o i wr => ∃ x' o' j : Nat, a = .int .u64 x' ∧ o = .int .u64 o' ∧ i = .int .i64 j ∧ j ≤ l.length ∧ x' < 18446744073709551616 ∧ o' < 18446744073709551616 ∧ fpowL o' x' (val (l.drop j)) = t ∧ Keep w1 wr) (fun _ _ i _ => (l.length - intOf i).toNat)
  case atStart => exact ⟨x, 4611686018427387904, 0, rfl, rfl, rfl, Nat.zero_le _, hx'.out, by omega, by rw [List.drop_zero, vl.out]; exact ht.out, Keep.refl _⟩
  case round =>
    obtain ⟨x', o', j, rfl, rfl, rfl, hj, hx2, ho2, hv, hk⟩ := hrel
    have hv := hide hv
    have k := hide hk
    clear hk
    have hx2 := hide hx2
    have ho2 := hide ho2
    by_cases hjl : j < l.length
    · have hjl' : (j : Int) < (l.length : Int) := by omega
      have hst := val_drop hjl
      have htb : l.getD j 0 ≤ 1 := by
        have := bitAt_le bl.out j
        unfold bitAt at this
        rw [if_neg (by omega)] at this
        exact this
      have f2 : IntKind.i64.wrap ((j : Int) + 1) = ((j + 1 : Nat) : Int) := by rw [show (j : Int) + 1 = ((j + 1 : Nat) : Int) by omega]; exact IntWalk.i64_in _ (by have := nl.out; omega)
      rcases hr.out with ⟨_, hnil⟩ | ⟨q, off, cap', he, h1, h2, h3⟩
      · have h5 : l.length = 0 := by rw [← bv_length l, hnil]; rfl
        omega
      · obtain ⟨rfl, _, rfl⟩ : ao = some ⟨q, off, none⟩ ∧ True ∧ cap = cap' := by
          simp only [Value.slice.injEq] at he
          exact ⟨he.1, trivial, he.2.2⟩
        have hc := k.out.cell (h3 j _ (bv_get hjl))
        obtain ⟨b, hb⟩ : ∃ b, l.getD j 0 = b := ⟨_, rfl⟩
        rw [hb] at hst htb hc
        have hv2 := hv.out
        rw [hst, fpowL_bit _ _ _ _ htb] at hv2
        obtain ⟨xx, hxx⟩ : ∃ xx, fmul x' x' = xx := ⟨_, rfl⟩
        have hxl := hide (show xx < 18446744073709551616 by rw [← hxx]; exact fmul_lt _ _)
        rw [hxx] at hv2
        have hxx := hide hxx
        clear hst hb he h3
        rcases (by omega : b = 0 ∨ b = 1) with rfl | rfl
        · rw [if_neg (by omega)] at hv2
          have hv2 := hide hv2
          go_wp2_with (go_at_call 164; (with_reducible refine (RefMul_val x' x' xx hxx.out hx2.out hx2.out _).mono ?_); rintro r wn ⟨rfl, h⟩; replace k := hide (k.out.trans h); clear h)
          go_roundw
          case rel => exact ⟨xx, o', j + 1, rfl, rfl, rfl, hjl, hxl.out, ho2.out, hv2.out, k.out⟩
          case measure => (simp [intOf] <;> omega)
        · rw [if_pos rfl] at hv2
          obtain ⟨oo, hoo⟩ : ∃ oo, fmul o' x' = oo := ⟨_, rfl⟩
          have hol := hide (show oo < 18446744073709551616 by rw [← hoo]; exact fmul_lt _ _)
          rw [hoo] at hv2
          have hoo := hide hoo
          have hv2 := hide hv2
          go_wp2_with (first
            | (go_at_call 164; (with_reducible refine (RefMul_val o' x' oo hoo.out ho2.out hx2.out _).mono ?_); rintro r wn ⟨rfl, h⟩; replace k := hide (k.out.trans h); clear h)
            | (go_at_call 164; (with_reducible refine (RefMul_val x' x' xx hxx.out hx2.out hx2.out _).mono ?_); rintro r wn ⟨rfl, h⟩; replace k := hide (k.out.trans h); clear h))
          go_roundw
          case rel => exact ⟨xx, oo, j + 1, rfl, rfl, rfl, hjl, hxl.out, hol.out, hv2.out, k.out⟩
          case measure => (simp [intOf] <;> omega)
    · obtain rfl : j = l.length := by omega
      have hst : o' = t := by
        have := hv.out
        rw [List.drop_length, val, fpowL_zero] at this
        exact this
      subst hst
      go_wp2
      go_ret2
      exact ⟨rfl, k1.out.trans k.out⟩
/-! ### Shares -/
theorem RefShare_bad (a b least : Nat) (hl : badShare a b least) (w : World) :
    Calls Tryz.prog 166 #[.int .u64 a, .int .u64 b, .int .u64 least] w fun r w' => r = .returned (.tuple #[.int .u64 0, .int .i64 1]) ∧ Keep w w' := by
  have hcase : (a = 0 ∧ b = 0) ∨ (0 < a ∧ 2305843009213693952 < least) ∨ (a = 0 ∧ 0 < b ∧ 2305843009213693952 < least) := by unfold badShare at hl; omega
  have hl := hide hl
  rcases hcase with ⟨rfl, rfl⟩ | ⟨h1, h2⟩ | ⟨rfl, h1, h2⟩
  · go_enter Tryz.func166, Tryz.ntmps166
    go_wp2
    go_ret2
    exact ⟨rfl, Keep.refl w⟩
  · have h1' : ((a : Int) == 0) = false := by rw [beq_eq_false_iff_ne]; omega
    have h2' : (2305843009213693952 : Int) < least := by omega
    go_enter Tryz.func166, Tryz.ntmps166
    go_wp2
    go_ret2
    exact ⟨rfl, Keep.refl w⟩
  · have h1' : ((b : Int) == 0) = false := by rw [beq_eq_false_iff_ne]; omega
    have h2' : (2305843009213693952 : Int) < least := by omega
    go_enter Tryz.func166, Tryz.ntmps166
    go_wp2
    go_ret2
    exact ⟨rfl, Keep.refl w⟩
set_option maxHeartbeats 4000000 in
theorem RefShare_val (a b least t : Nat) (hcase : 0 < a) (ht : fshare a b least = t) (hn : ¬ badShare a b least) (ha : a < 18446744073709551616) (hb : b < 18446744073709551616) (w : World) :
    Calls Tryz.prog 166 #[.int .u64 a, .int .u64 b, .int .u64 least] w fun r w' => r = .returned (.tuple #[.int .u64 (t : Nat), .int .i64 0]) ∧ Keep w w' := by
  have hp := half2_pos hn
  rw [fshare_eq hn] at ht
  have hll : least ≤ 2305843009213693952 := by unfold badShare at hn; omega
  have hl2 : ¬ (2305843009213693952 : Int) < least := by omega
  have e2 : IntKind.u64.wrap (4611686018427387904 - (least : Int)) = ((4611686018427387904 - least : Nat) : Int) := by rw [IntKind.wrap_u64]; omega
  obtain ⟨m, hm⟩ : ∃ m, 4611686018427387904 - least = m := ⟨_, rfl⟩
  have hlm : least ≤ m := by omega
  rw [hm] at e2 ht
  have e3 : IntKind.u64.wrap (18446744073709551615 - (b : Int)) = ((18446744073709551615 - b : Nat) : Int) := by rw [IntKind.wrap_u64]; omega
  obtain ⟨mb, hmb⟩ : ∃ mb, 18446744073709551615 - b = mb := ⟨_, rfl⟩
  rw [hmb] at e3
  have k := hide (Keep.refl w)
  clear hm hn
  by_cases hov : a + b < 18446744073709551616
  · rw [half2, if_pos hov] at ht hp
    dsimp only at ht hp
    have g1 : ¬ (mb : Int) < a := by omega
    have e1 : IntKind.u64.wrap ((a : Int) + (b : Int)) = ((a + b : Nat) : Int) := by rw [addN]; exact wrapN _ hov
    obtain ⟨c, hc⟩ : ∃ c, a + b = c := ⟨_, rfl⟩
    rw [hc] at e1 ht hp hov
    obtain ⟨s, hs⟩ : ∃ s, fover a c = s := ⟨_, rfl⟩
    rw [hs] at ht
    have hs := hide hs
    have hp := hide hp
    have hov := hide hov
    clear hmb hc
    have hxl' := hide (show a < 18446744073709551616 by omega)
    have hz1 : ((a : Int) == 0) = false := by rw [beq_eq_false_iff_ne]; omega
    have hlm' : (least : Int) ≤ m := by omega
    rcases (by omega : (s < least ∧ least = t) ∨ (least ≤ s ∧ m < s ∧ m = t) ∨ (least ≤ s ∧ s ≤ m ∧ s = t)) with ⟨q1, rfl⟩ | ⟨q1, q2, rfl⟩ | ⟨q1, q2, rfl⟩
    all_goals
      clear ht
      go_enter Tryz.func166, Tryz.ntmps166
      go_wp2_with (go_at_call 231; (with_reducible refine (RefDiv_val a c s hs.out hp.out hxl'.out hov.out _).mono ?_); rintro r wn ⟨rfl, h⟩; replace k := hide (k.out.trans h); clear h)
      go_ret2
      exact ⟨rfl, k.out⟩
  · rw [half2, if_neg hov] at ht hp
    dsimp only at ht hp
    have g1 : (mb : Int) < a := by omega
    have i1 : (a : Int).tdiv 2 = ((a / 2 : Nat) : Int) := rfl
    have i2 : (b : Int).tdiv 2 = ((b / 2 : Nat) : Int) := rfl
    have i3 : IntKind.u64.wrap ((a / 2 : Nat) : Int) = ((a / 2 : Nat) : Int) := wrapN _ (by omega)
    have i4 : IntKind.u64.wrap ((b / 2 : Nat) : Int) = ((b / 2 : Nat) : Int) := wrapN _ (by omega)
    have e1 : IntKind.u64.wrap (((a / 2 : Nat) : Int) + ((b / 2 : Nat) : Int)) = ((a / 2 + b / 2 : Nat) : Int) := by rw [addN]; exact wrapN _ (by omega)
    have hov : a / 2 + b / 2 < 18446744073709551616 := by omega
    have hxl : a / 2 < 18446744073709551616 := by omega
    obtain ⟨c, hc⟩ : ∃ c, a / 2 + b / 2 = c := ⟨_, rfl⟩
    rw [hc] at e1 ht hp hov
    obtain ⟨x, hx⟩ : ∃ x, a / 2 = x := ⟨_, rfl⟩
    obtain ⟨y, hy⟩ : ∃ y, b / 2 = y := ⟨_, rfl⟩
    rw [hx] at e1 i1 i3 ht hxl
    rw [hy] at e1 i2 i4
    obtain ⟨s, hs⟩ : ∃ s, fover x c = s := ⟨_, rfl⟩
    rw [hs] at ht
    have hs := hide hs
    have hp := hide hp
    have hov := hide hov
    clear hmb hc hx hy
    have hxl' := hide (show x < 18446744073709551616 by omega)
    have hz1 : ((a : Int) == 0) = false := by rw [beq_eq_false_iff_ne]; omega
    have hlm' : (least : Int) ≤ m := by omega
    rcases (by omega : (s < least ∧ least = t) ∨ (least ≤ s ∧ m < s ∧ m = t) ∨ (least ≤ s ∧ s ≤ m ∧ s = t)) with ⟨q1, rfl⟩ | ⟨q1, q2, rfl⟩ | ⟨q1, q2, rfl⟩
    all_goals
      clear ht
      go_enter Tryz.func166, Tryz.ntmps166
      go_wp2_with (go_at_call 231; (with_reducible refine (RefDiv_val x c s hs.out hp.out hxl'.out hov.out _).mono ?_); rintro r wn ⟨rfl, h⟩; replace k := hide (k.out.trans h); clear h)
      go_ret2
      exact ⟨rfl, k.out⟩
theorem RefDiv_0 (c : Nat) (h0 : 0 < c) (hc : c < 18446744073709551616) (w : World) :
    Calls Tryz.prog 231 #[.int .u64 0, .int .u64 c] w fun r w' => r = .returned (.tuple #[.int .u64 0, .int .i64 0]) ∧ Keep w w' := RefDiv_val 0 c 0 (by unfold fover; simp) h0 (by omega) hc w
set_option maxHeartbeats 4000000 in
theorem RefShare_val0 (b least t : Nat) (ht : fshare 0 b least = t) (hn : ¬ badShare 0 b least) (hb : b < 18446744073709551616) (w : World) :
    Calls Tryz.prog 166 #[.int .u64 0, .int .u64 b, .int .u64 least] w fun r w' => r = .returned (.tuple #[.int .u64 (t : Nat), .int .i64 0]) ∧ Keep w w' := by
  rw [fshare_eq hn, half2, if_pos (by omega)] at ht
  have hll : least ≤ 2305843009213693952 := by unfold badShare at hn; omega
  have hb0 : 0 < b := by unfold badShare at hn; omega
  have hl2 : ¬ (2305843009213693952 : Int) < least := by omega
  have e0 : fover 0 (0 + b) = 0 := by unfold fover; simp
  dsimp only at ht
  rw [e0] at ht
  have e1 : IntKind.u64.wrap (b : Int) = (b : Int) := wrapN _ hb
  have e2 : IntKind.u64.wrap (4611686018427387904 - (least : Int)) = ((4611686018427387904 - least : Nat) : Int) := by rw [IntKind.wrap_u64]; omega
  obtain rfl : least = t := by omega
  obtain ⟨m, hm⟩ : ∃ m, 4611686018427387904 - least = m := ⟨_, rfl⟩
  have hlm' : (least : Int) ≤ m := by omega
  rw [hm] at e2
  have e3 : IntKind.u64.wrap (18446744073709551615 - (b : Int)) = ((18446744073709551615 - b : Nat) : Int) := by rw [IntKind.wrap_u64]; omega
  obtain ⟨mb, hmb⟩ : ∃ mb, 18446744073709551615 - b = mb := ⟨_, rfl⟩
  rw [hmb] at e3
  have g1 : ¬ (mb : Int) < 0 := by omega
  have hz2 : ((b : Int) == 0) = false := by rw [beq_eq_false_iff_ne]; omega
  have k := hide (Keep.refl w)
  clear hm hn ht hmb e0
  rcases Nat.eq_zero_or_pos least with rfl | hl0
  · go_enter Tryz.func166, Tryz.ntmps166
    go_wp2_with (go_at_call 231; (with_reducible refine (RefDiv_0 b hb0 hb _).mono ?_); rintro r wn ⟨rfl, h⟩; replace k := hide (k.out.trans h); clear h)
    go_ret2
    exact ⟨rfl, k.out⟩
  · have hl0' : (0 : Int) < least := by omega
    go_enter Tryz.func166, Tryz.ntmps166
    go_wp2_with (go_at_call 231; (with_reducible refine (RefDiv_0 b hb0 hb _).mono ?_); rintro r wn ⟨rfl, h⟩; replace k := hide (k.out.trans h); clear h)
    go_ret2
    exact ⟨rfl, k.out⟩
end Go.Proofs.YteledfiechbhgaaGreatDoor
