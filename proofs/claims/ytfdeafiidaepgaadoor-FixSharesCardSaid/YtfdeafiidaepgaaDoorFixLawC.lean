/- The law FixShares, where there is a fault: its walk. -/
import Derived.Test.YtfdeafiidaepgaaDoorFixLawA
import Derived.Test.YtfdeafiidaepgaaDoorQuiet
namespace Go.Proofs.YtfdeafiidaepgaaDoor
open Go Go.RowKit Go.Shelf Go.Proofs.Mul64

set_option maxRecDepth 100000 in
set_option maxHeartbeats 8000000 in
theorem walk_FixShares_bad (a b least : Nat) (ha : a < 18446744073709551616) (hb : b < 18446744073709551616) (hl : least < 18446744073709551616) (hbad : badShare a b least) (W : World) (hE : Env W) :
    Calls Tryd.prog 7 #[.int .u64 a, .int .u64 b, .int .u64 least] W fun e w' => e = .returned (.bool true) ∧ Holds W w' [] := by
  have hE := hide hE
  have hbad' := hide ((badShare_comm a b least).1 hbad)
  have hcase : (a = 0 ∧ b = 0) ∨ (0 < a ∧ 2305843009213693952 < least) ∨ (a = 0 ∧ 0 < b ∧ 2305843009213693952 < least) := by unfold badShare at hbad; omega
  have hbad := hide hbad
  rcases hcase with ⟨rfl, rfl⟩ | ⟨h1, h2⟩ | ⟨rfl, h1, h2⟩
  · go_enter Tryd.func7, Tryd.ntmps7
    go_wp2_with (first
      | (go_at_call 12; (with_reducible refine (awake01 W hE.out).mono ?_); rintro r wn ⟨rfl, h⟩; have k := hide h; clear h)
      | (go_at_call 26; (with_reducible refine (Share_bad00 least hl _).mono ?_); rintro r wn ⟨v, rfl, h, he⟩; replace k := hide (k.out.trans h); have he1 := he; obtain ⟨bf, ve, rfl, _⟩ := he1; first | (have e0 := hide (ErrAt.keep h e1.out)) | (have e1 := hide he); clear h he)
      | (go_at_call 23; (with_reducible refine (Wraps_hit _ _ 1 _ _ (hE.out.keep k.out) (by decide) e0.out).mono ?_); rintro r wn ⟨rfl, h⟩; replace k := hide (k.out.trans h); clear h))
    repeat ((refine wp_region_kept (by kernel_rfl) (by kernel_rfl) ?_; (repeat (go_big_quiet_step (fail))); refine wpQuiet_nil ?_; intro _ hw'; obtain ⟨uq, hw''⟩ := hw'; subst hw''); replace k := hide (k.out.trans uq.keep); (try replace e0 := hide (ErrAt.keep uq.keep e0.out)); go_wp2_with (first
      | (go_at_call 12; (with_reducible refine (awake01 W hE.out).mono ?_); rintro r wn ⟨rfl, h⟩; have k := hide h; clear h)
      | (go_at_call 26; (with_reducible refine (Share_bad00 least hl _).mono ?_); rintro r wn ⟨v, rfl, h, he⟩; replace k := hide (k.out.trans h); have he1 := he; obtain ⟨bf, ve, rfl, _⟩ := he1; first | (have e0 := hide (ErrAt.keep h e1.out)) | (have e1 := hide he); clear h he)
      | (go_at_call 23; (with_reducible refine (Wraps_hit _ _ 1 _ _ (hE.out.keep k.out) (by decide) e0.out).mono ?_); rintro r wn ⟨rfl, h⟩; replace k := hide (k.out.trans h); clear h)))
    go_ret
    exact ⟨rfl, k.out.holds⟩
  · have h1' : ((a : Int) == 0) = false := by rw [beq_eq_false_iff_ne]; omega
    have h2' : (2305843009213693952 : Int) < least := by omega
    go_enter Tryd.func7, Tryd.ntmps7
    go_wp2_with (first
      | (go_at_call 12; (with_reducible refine (awake01 W hE.out).mono ?_); rintro r wn ⟨rfl, h⟩; have k := hide h; clear h)
      | (go_at_call 26; (with_reducible refine (Share_bad a b least ha hb hl hbad.out _).mono ?_); rintro r wn ⟨v, rfl, h, he⟩; replace k := hide (k.out.trans h); have he1 := he; obtain ⟨bf, ve, rfl, _⟩ := he1; have e1 := hide he; clear h he)
      | (go_at_call 26; (with_reducible refine (Share_bad b a least hb ha hl hbad'.out _).mono ?_); rintro r wn ⟨v, rfl, h, he⟩; replace k := hide (k.out.trans h); have he1 := he; obtain ⟨bf, ve, rfl, _⟩ := he1; have e0 := hide (ErrAt.keep h e1.out); clear h he)
      | (go_at_call 23; (with_reducible refine (Wraps_hit _ _ 1 _ _ (hE.out.keep k.out) (by decide) e0.out).mono ?_); rintro r wn ⟨rfl, h⟩; replace k := hide (k.out.trans h); clear h))
    repeat ((refine wp_region_kept (by kernel_rfl) (by kernel_rfl) ?_; (repeat (go_big_quiet_step (fail))); refine wpQuiet_nil ?_; intro _ hw'; obtain ⟨uq, hw''⟩ := hw'; subst hw''); replace k := hide (k.out.trans uq.keep); (try replace e0 := hide (ErrAt.keep uq.keep e0.out)); go_wp2_with (first
      | (go_at_call 12; (with_reducible refine (awake01 W hE.out).mono ?_); rintro r wn ⟨rfl, h⟩; have k := hide h; clear h)
      | (go_at_call 26; (with_reducible refine (Share_bad a b least ha hb hl hbad.out _).mono ?_); rintro r wn ⟨v, rfl, h, he⟩; replace k := hide (k.out.trans h); have he1 := he; obtain ⟨bf, ve, rfl, _⟩ := he1; have e1 := hide he; clear h he)
      | (go_at_call 26; (with_reducible refine (Share_bad b a least hb ha hl hbad'.out _).mono ?_); rintro r wn ⟨v, rfl, h, he⟩; replace k := hide (k.out.trans h); have he1 := he; obtain ⟨bf, ve, rfl, _⟩ := he1; have e0 := hide (ErrAt.keep h e1.out); clear h he)
      | (go_at_call 23; (with_reducible refine (Wraps_hit _ _ 1 _ _ (hE.out.keep k.out) (by decide) e0.out).mono ?_); rintro r wn ⟨rfl, h⟩; replace k := hide (k.out.trans h); clear h)))
    go_ret
    exact ⟨rfl, k.out.holds⟩
  · have h1' : ((b : Int) == 0) = false := by rw [beq_eq_false_iff_ne]; omega
    have h2' : (2305843009213693952 : Int) < least := by omega
    go_enter Tryd.func7, Tryd.ntmps7
    go_wp2_with (first
      | (go_at_call 12; (with_reducible refine (awake01 W hE.out).mono ?_); rintro r wn ⟨rfl, h⟩; have k := hide h; clear h)
      | (go_at_call 26; (with_reducible refine (Share_bad0 b least hb hl hbad.out _).mono ?_); rintro r wn ⟨v, rfl, h, he⟩; replace k := hide (k.out.trans h); have he1 := he; obtain ⟨bf, ve, rfl, _⟩ := he1; have e1 := hide he; clear h he)
      | (go_at_call 26; (with_reducible refine (Share_badb b least hb hl hbad'.out _).mono ?_); rintro r wn ⟨v, rfl, h, he⟩; replace k := hide (k.out.trans h); have he1 := he; obtain ⟨bf, ve, rfl, _⟩ := he1; have e0 := hide (ErrAt.keep h e1.out); clear h he)
      | (go_at_call 23; (with_reducible refine (Wraps_hit _ _ 1 _ _ (hE.out.keep k.out) (by decide) e0.out).mono ?_); rintro r wn ⟨rfl, h⟩; replace k := hide (k.out.trans h); clear h))
    repeat ((refine wp_region_kept (by kernel_rfl) (by kernel_rfl) ?_; (repeat (go_big_quiet_step (fail))); refine wpQuiet_nil ?_; intro _ hw'; obtain ⟨uq, hw''⟩ := hw'; subst hw''); replace k := hide (k.out.trans uq.keep); (try replace e0 := hide (ErrAt.keep uq.keep e0.out)); go_wp2_with (first
      | (go_at_call 12; (with_reducible refine (awake01 W hE.out).mono ?_); rintro r wn ⟨rfl, h⟩; have k := hide h; clear h)
      | (go_at_call 26; (with_reducible refine (Share_bad0 b least hb hl hbad.out _).mono ?_); rintro r wn ⟨v, rfl, h, he⟩; replace k := hide (k.out.trans h); have he1 := he; obtain ⟨bf, ve, rfl, _⟩ := he1; have e1 := hide he; clear h he)
      | (go_at_call 26; (with_reducible refine (Share_badb b least hb hl hbad'.out _).mono ?_); rintro r wn ⟨v, rfl, h, he⟩; replace k := hide (k.out.trans h); have he1 := he; obtain ⟨bf, ve, rfl, _⟩ := he1; have e0 := hide (ErrAt.keep h e1.out); clear h he)
      | (go_at_call 23; (with_reducible refine (Wraps_hit _ _ 1 _ _ (hE.out.keep k.out) (by decide) e0.out).mono ?_); rintro r wn ⟨rfl, h⟩; replace k := hide (k.out.trans h); clear h)))
    go_ret
    exact ⟨rfl, k.out.holds⟩
end Go.Proofs.YtfdeafiidaepgaaDoor
