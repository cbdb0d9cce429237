/- The contracts of the package fix: Share. -/
import Derived.Test.YtfdeafiidaepgaaDoorFixPow
namespace Go.Proofs.YtfdeafiidaepgaaDoor
open Go Go.RowKit Go.Shelf Go.Proofs.Mul64

def half2 (a b : Nat) : Nat × Nat := if a + b < 18446744073709551616 then (a, b) else (a / 2, b / 2)
def fshare0 (a b least : Nat) : Nat :=
  let p := half2 a b
  min (max (fdiv p.1 (p.1 + p.2)) least) (4611686018427387904 - least)
def badShare (a b least : Nat) : Prop := (a = 0 ∧ b = 0) ∨ 2305843009213693952 < least
instance (a b least : Nat) : Decidable (badShare a b least) := by unfold badShare; infer_instance
def fshare (a b least : Nat) : Nat := if badShare a b least then 0 else fshare0 a b least
def shareE (a b least : Nat) : EV := if badShare a b least then .fault ⟨#[115, 104, 97, 114, 101]⟩ ⟨#[]⟩ (.no 1) else .nil

theorem Share_closure (a b p q : Nat) (ha : a < 18446744073709551616) (hb : b < 18446744073709551616) (w : World) (hp : w.cell? ⟨p, 0, none⟩ = some (.int .u64 a)) (hq : w.cell? ⟨q, 0, none⟩ = some (.int .u64 b)) :
    Calls Tryd.prog 44 #[.pointer (some ⟨p, 0, none⟩), .pointer (some ⟨q, 0, none⟩)] w fun r w' => r = .returned (.bool (decide (¬ a + b < 18446744073709551616))) ∧ w' = w := by
  have hc := add0 a b ha hb
  go_enter Tryd.func44, Tryd.ntmps44
  by_cases h : a + b < 18446744073709551616
  · have e1 : (a + b) / 18446744073709551616 = 0 := by omega
    have e2 : decide (¬ a + b < 18446744073709551616) = false := by simpa using h
    rw [e2]
    simp only [e1] at hc
    go_wp2_with (simp only [hc])
    go_ret
    exact ⟨rfl, rfl⟩
  · have e1 : (a + b) / 18446744073709551616 = 1 := by omega
    have e2 : decide (¬ a + b < 18446744073709551616) = true := by simpa using h
    rw [e2]
    simp only [e1] at hc
    go_wp2_with (simp only [hc])
    go_ret
    exact ⟨rfl, rfl⟩
theorem Share_bad (a b least : Nat) (ha : a < 18446744073709551616) (hb : b < 18446744073709551616) (hl : least < 18446744073709551616) (h : badShare a b least) (w : World) :
    Calls Tryd.prog 26 #[.int .u64 a, .int .u64 b, .int .u64 least] w fun r w' => ∃ v, r = .returned (.tuple #[.int .u64 0, v]) ∧ Keep w w' ∧ ErrAt w' (.fault ⟨#[115, 104, 97, 114, 101]⟩ ⟨#[]⟩ (.no 1)) v := by
  have hK := hide (((Keep.refl w).alloc (o := .cells #[.int .u64 a] 23)).alloc (o := .cells #[.int .u64 b] 23))
  have ho := bits_or_u64_nat a b ha hb
  obtain ⟨c, hc⟩ : ∃ c, a ||| b = c := ⟨_, rfl⟩
  rw [hc] at ho
  by_cases hz : c = 0
  · subst hz
    clear hc h
    go_enter Tryd.func26, Tryd.ntmps26
    go_wp2_with (go_at_call 34; (with_reducible refine (Fix_fault _ _).mono ?_); rintro r w1 ⟨v, rfl, hk, he⟩; have hk := hide hk; have he := hide he)
    go_ret2
    exact ⟨v, rfl, hK.out.trans hk.out, he.out⟩
  · have hz' : ((c : Int) == 0) = false := by rw [beq_eq_false_iff_ne]; omega
    have hz'' : ¬ (c : Int) = 0 := by omega
    have hl2 : (2305843009213693952 : Int) < least := by
      rcases h with ⟨rfl, rfl⟩ | h
      · exact absurd hc.symm hz
      · omega
    clear hc h
    go_enter Tryd.func26, Tryd.ntmps26
    go_wp2_with (go_at_call 34; (with_reducible refine (Fix_fault _ _).mono ?_); rintro r w1 ⟨v, rfl, hk, he⟩; have hk := hide hk; have he := hide he)
    go_ret2
    exact ⟨v, rfl, hK.out.trans hk.out, he.out⟩
theorem Share_ok (a b least : Nat) (ha : a < 18446744073709551616) (hb : b < 18446744073709551616) (hl : least < 18446744073709551616) (h : ¬ badShare a b least) (w : World) :
    Calls Tryd.prog 26 #[.int .u64 a, .int .u64 b, .int .u64 least] w fun r w' => r = .returned (.tuple #[.int .u64 (fshare0 a b least : Nat), .nilIface]) ∧ Keep w w' := by
  have hK := hide (((Keep.refl w).alloc (o := .cells #[.int .u64 a] 23)).alloc (o := .cells #[.int .u64 b] 23))
  have ho := bits_or_u64_nat a b ha hb
  obtain ⟨c, hc⟩ : ∃ c, a ||| b = c := ⟨_, rfl⟩
  rw [hc] at ho
  have hab : ¬ (a = 0 ∧ b = 0) := fun hh => h (.inl hh)
  have hll : least ≤ 2305843009213693952 := by
    rcases Nat.lt_or_ge 2305843009213693952 least with hh | hh
    · exact absurd (.inr hh) h
    · exact hh
  have hz : c ≠ 0 := by
    rintro rfl
    have := Nat.or_eq_zero_iff.1 hc
    exact hab this
  have hz' : ((c : Int) == 0) = false := by rw [beq_eq_false_iff_ne]; omega
  have hl2 : ¬ (2305843009213693952 : Int) < least := by omega
  clear hc hz h
  have habH := hide hab
  clear hab
  by_cases hov : a + b < 18446744073709551616
  · have hcl := fun p q w hp hq => Share_closure a b p q ha hb w hp hq
    rw [show decide (¬ a + b < 18446744073709551616) = false by simpa using hov] at hcl
    have hclH := hide hcl
    clear hcl
    have hD := Fix_Div a (a + b) ha hov
    unfold fshare0 half2
    rw [if_pos hov]
    dsimp only
    rw [divE, if_neg (by have := habH.out; omega)] at hD
    have hD := hide hD
    obtain ⟨s, hs⟩ : ∃ s, fdiv a (a + b) = s := ⟨_, rfl⟩
    rw [hs] at hD ⊢
    have e1 : IntKind.u64.wrap ((a : Int) + (b : Int)) = ((a + b : Nat) : Int) := by rw [addN]; exact wrapN _ hov
    obtain ⟨t, ht⟩ : ∃ t, a + b = t := ⟨_, rfl⟩
    rw [ht] at e1 hD
    have e2 : IntKind.u64.wrap (4611686018427387904 - (least : Int)) = ((4611686018427387904 - least : Nat) : Int) := by rw [IntKind.wrap_u64]; omega
    obtain ⟨m, hm⟩ : ∃ m, 4611686018427387904 - least = m := ⟨_, rfl⟩
    rw [hm] at e2 ⊢
    clear hm ht hs
    go_enter Tryd.func26, Tryd.ntmps26
    go_wp2_with (first
      | (go_at_call 44; (with_reducible refine (hclH.out _ _ _ (by simp) (by simp)).mono ?_); rintro r w1 ⟨rfl, rfl⟩)
      | (go_at_call 13; (with_reducible refine (hD.out _).mono ?_); rintro r w1 ⟨v, rfl, hk, he⟩; have hk := hide hk; have he := hide he))
    go_ret2
    exact ⟨by rw [show ((min (max s least) m : Nat) : Int) = min (max (s : Int) (least : Int)) (m : Int) by omega]; rfl, hK.out.trans hk.out⟩
  · have hcl := fun p q w hp hq => Share_closure a b p q ha hb w hp hq
    rw [show decide (¬ a + b < 18446744073709551616) = true by simpa using hov] at hcl
    have hclH := hide hcl
    clear hcl
    have h1 : a / 2 + b / 2 < 18446744073709551616 := by omega
    have h0 : 0 < a / 2 + b / 2 := by omega
    have hD := Fix_Div (a / 2) (a / 2 + b / 2) (by omega) h1
    unfold fshare0 half2
    rw [if_neg hov]
    dsimp only
    rw [divE, if_neg (by omega)] at hD
    have hD := hide hD
    obtain ⟨s, hs⟩ : ∃ s, fdiv (a / 2) (a / 2 + b / 2) = s := ⟨_, rfl⟩
    rw [hs] at hD ⊢
    have i1 : (a : Int).tdiv 2 = ((a / 2 : Nat) : Int) := rfl
    have i2 : (b : Int).tdiv 2 = ((b / 2 : Nat) : Int) := rfl
    have i3 : IntKind.u64.wrap ((a / 2 : Nat) : Int) = ((a / 2 : Nat) : Int) := wrapN _ (by omega)
    have i4 : IntKind.u64.wrap ((b / 2 : Nat) : Int) = ((b / 2 : Nat) : Int) := wrapN _ (by omega)
    have e1 : IntKind.u64.wrap (((a / 2 : Nat) : Int) + ((b / 2 : Nat) : Int)) = ((a / 2 + b / 2 : Nat) : Int) := by rw [addN]; exact wrapN _ h1
    obtain ⟨t, ht⟩ : ∃ t, a / 2 + b / 2 = t := ⟨_, rfl⟩
    rw [ht] at e1 hD
    obtain ⟨x, hx⟩ : ∃ x, a / 2 = x := ⟨_, rfl⟩
    obtain ⟨y, hy⟩ : ∃ y, b / 2 = y := ⟨_, rfl⟩
    rw [hx] at e1 hD i1 i3
    rw [hy] at e1 i2 i4
    have e2 : IntKind.u64.wrap (4611686018427387904 - (least : Int)) = ((4611686018427387904 - least : Nat) : Int) := by rw [IntKind.wrap_u64]; omega
    obtain ⟨m, hm⟩ : ∃ m, 4611686018427387904 - least = m := ⟨_, rfl⟩
    rw [hm] at e2 ⊢
    clear hm ht hs hx hy h1 h0 hov
    go_enter Tryd.func26, Tryd.ntmps26
    go_wp2_with (first
      | (go_at_call 44; (with_reducible refine (hclH.out _ _ _ (by simp) (by simp)).mono ?_); rintro r w1 ⟨rfl, rfl⟩)
      | (go_at_call 13; (with_reducible refine (hD.out _).mono ?_); rintro r w1 ⟨v, rfl, hk, he⟩; have hk := hide hk; have he := hide he))
    go_region
    go_wp2_with (go_at_call 13; (with_reducible refine (hD.out _).mono ?_); rintro r w1 ⟨v, rfl, hk, he⟩; have hk := hide hk; have he := hide he)
    go_ret2
    exact ⟨by rw [show ((min (max s least) m : Nat) : Int) = min (max (s : Int) (least : Int)) (m : Int) by omega]; rfl, (((Keep.refl w).alloc.alloc.drewN).trans hk.out)⟩
theorem Fix_Share (a b least : Nat) (ha : a < 18446744073709551616) (hb : b < 18446744073709551616) (hl : least < 18446744073709551616) (w : World) :
    Calls Tryd.prog 26 #[.int .u64 a, .int .u64 b, .int .u64 least] w fun r w' => ∃ v, r = .returned (.tuple #[.int .u64 (fshare a b least : Nat), v]) ∧ Keep w w' ∧ ErrAt w' (shareE a b least) v := by
  unfold fshare shareE
  by_cases h : badShare a b least
  · rw [if_pos h, if_pos h]
    exact Share_bad a b least ha hb hl h w
  · rw [if_neg h, if_neg h]
    refine (Share_ok a b least ha hb hl h w).mono ?_
    rintro e w' ⟨rfl, hk⟩
    exact ⟨.nilIface, rfl, hk, rfl⟩
end Go.Proofs.YtfdeafiidaepgaaDoor
