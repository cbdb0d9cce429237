/- The law FixShares, where there is none: its walk. -/
import Derived.Test.YtfdeafiidaepgaaDoorFixLawA
import Derived.Test.YtfdeafiidaepgaaDoorQuiet
namespace Go.Proofs.YtfdeafiidaepgaaDoor
open Go Go.RowKit Go.Shelf Go.Proofs.Mul64

set_option maxRecDepth 100000 in
set_option maxHeartbeats 8000000 in
theorem walk_FixShares_ok (a b least : Nat) (ha : a < 18446744073709551616) (hb : b < 18446744073709551616) (hl : least < 18446744073709551616) (hok : ¬ badShare a b least) (W : World) (hE : Env W) :
    Calls Tryd.prog 7 #[.int .u64 a, .int .u64 b, .int .u64 least] W fun e w' => e = .returned (.bool true) ∧ Holds W w' [] := by
  have hE := hide hE
  have hok' : ¬ badShare b a least := fun h => hok ((badShare_comm _ _ _).1 h)
  have hll : least ≤ 2305843009213693952 := by unfold badShare at hok; omega
  obtain ⟨l1, l2⟩ := fshare_least hok
  obtain ⟨l3, l4⟩ := fshare_least hok'
  have two : least = 0 → fshare a b least + fshare b a least ≤ 4611686018427387904 ∧ 4611686018427387904 ≤ fshare a b least + fshare b a least + 1 ∧ (b ≤ a → fshare b a least ≤ fshare a b least) := fun h0 => by subst h0; exact fshare_two hok
  obtain ⟨x, hx⟩ : ∃ x, fshare a b least = x := ⟨_, rfl⟩
  obtain ⟨y, hy⟩ : ∃ y, fshare b a least = y := ⟨_, rfl⟩
  rw [hx] at l1 l2 two
  rw [hy] at l3 l4 two
  have e1 : IntKind.u64.wrap (4611686018427387904 - (least : Int)) = ((4611686018427387904 - least : Nat) : Int) := by rw [IntKind.wrap_u64]; omega
  obtain ⟨t, ht⟩ : ∃ t, 4611686018427387904 - least = t := ⟨_, rfl⟩
  rw [ht] at e1 l2 l4
  have hx := hide hx
  have hy := hide hy
  have hok := hide hok
  have hok' := hide hok'
  have l1' : (least : Int) ≤ x := by omega
  have l2' : (x : Int) ≤ t := by omega
  have l3' : (least : Int) ≤ y := by omega
  have l4' : (y : Int) ≤ t := by omega
  have two := hide two
  rcases Nat.eq_zero_or_pos least with h0 | h0
  · obtain ⟨t1, t2, t3⟩ := two.out h0
    have i1 : IntKind.u64.wrap ((x : Int) + (y : Int)) = ((x + y : Nat) : Int) := by rw [IntKind.wrap_u64]; omega
    have i2 : IntKind.u64.wrap (((x + y : Nat) : Int) + 2) = ((x + y + 2 : Nat) : Int) := by rw [IntKind.wrap_u64]; omega
    obtain ⟨u, hu⟩ : ∃ u, x + y = u := ⟨_, rfl⟩
    rw [hu] at i1 i2 t1 t2
    obtain ⟨v, hv⟩ : ∃ v, u + 2 = v := ⟨_, rfl⟩
    rw [hv] at i2
    have t1' : (u : Int) ≤ 4611686018427387904 := by omega
    have t2' : (4611686018427387904 : Int) ≤ v := by omega
    have l2'' : (x : Int) ≤ 4611686018427387904 := by omega
    have l4'' : (y : Int) ≤ 4611686018427387904 := by omega
    subst h0
    clear e1 l2' l4' l1' l3'
    have l1' : (0 : Int) ≤ x := by omega
    have l3' : (0 : Int) ≤ y := by omega
    have hc : (a : Int) < b ∨ ((b : Int) ≤ a ∧ (y : Int) ≤ x) := by
      by_cases h : a < b
      · exact .inl (by omega)
      · have := t3 (by omega); exact .inr ⟨by omega, by omega⟩
    clear ht hu hv t1 t2 t3 l1 l2 l3 l4
    rcases hc with hc | ⟨hc, hc2⟩
    all_goals
      go_enter Tryd.func7, Tryd.ntmps7
      go_wp2_with (first
        | (go_at_call 12; (with_reducible refine (awake01 W hE.out).mono ?_); rintro r wn ⟨rfl, h⟩; have k := hide h; clear h)
        | (go_at_call 26; (with_reducible refine (Share_l0 a b x hx.out hok.out ha hb _).mono ?_); rintro r wn ⟨rfl, h⟩; replace k := hide (k.out.trans h); clear h)
        | (go_at_call 26; (with_reducible refine (Share_l0 b a y hy.out hok'.out hb ha _).mono ?_); rintro r wn ⟨rfl, h⟩; replace k := hide (k.out.trans h); clear h))
      repeat ((refine wp_region_kept (by kernel_rfl) (by kernel_rfl) ?_; (repeat (go_big_quiet_step (fail))); refine wpQuiet_nil ?_; intro _ hw'; obtain ⟨uq, hw''⟩ := hw'; subst hw''); replace k := hide (k.out.trans uq.keep); go_wp2_with (first
        | (go_at_call 12; (with_reducible refine (awake01 W hE.out).mono ?_); rintro r wn ⟨rfl, h⟩; have k := hide h; clear h)
        | (go_at_call 26; (with_reducible refine (Share_l0 a b x hx.out hok.out ha hb _).mono ?_); rintro r wn ⟨rfl, h⟩; replace k := hide (k.out.trans h); clear h)
        | (go_at_call 26; (with_reducible refine (Share_l0 b a y hy.out hok'.out hb ha _).mono ?_); rintro r wn ⟨rfl, h⟩; replace k := hide (k.out.trans h); clear h)))
      go_ret
      exact ⟨rfl, k.out.holds⟩
  · have h0' : (0 : Int) < least := by omega
    clear ht l1 l2 l3 l4
    go_enter Tryd.func7, Tryd.ntmps7
    go_wp2_with (first
      | (go_at_call 12; (with_reducible refine (awake01 W hE.out).mono ?_); rintro r wn ⟨rfl, h⟩; have k := hide h; clear h)
      | (go_at_call 26; (with_reducible refine (Share_val a b least x hx.out hok.out ha hb hl _).mono ?_); rintro r wn ⟨rfl, h⟩; replace k := hide (k.out.trans h); clear h)
      | (go_at_call 26; (with_reducible refine (Share_val b a least y hy.out hok'.out hb ha hl _).mono ?_); rintro r wn ⟨rfl, h⟩; replace k := hide (k.out.trans h); clear h))
    repeat ((refine wp_region_kept (by kernel_rfl) (by kernel_rfl) ?_; (repeat (go_big_quiet_step (fail))); refine wpQuiet_nil ?_; intro _ hw'; obtain ⟨uq, hw''⟩ := hw'; subst hw''); replace k := hide (k.out.trans uq.keep); go_wp2_with (first
      | (go_at_call 12; (with_reducible refine (awake01 W hE.out).mono ?_); rintro r wn ⟨rfl, h⟩; have k := hide h; clear h)
      | (go_at_call 26; (with_reducible refine (Share_val a b least x hx.out hok.out ha hb hl _).mono ?_); rintro r wn ⟨rfl, h⟩; replace k := hide (k.out.trans h); clear h)
      | (go_at_call 26; (with_reducible refine (Share_val b a least y hy.out hok'.out hb ha hl _).mono ?_); rintro r wn ⟨rfl, h⟩; replace k := hide (k.out.trans h); clear h)))
    go_ret
    exact ⟨rfl, k.out.holds⟩
end Go.Proofs.YtfdeafiidaepgaaDoor
