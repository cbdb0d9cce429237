/- The contracts of the package fix: Share. -/
import Derived.Test.YtbbdimlpofjlfaaGreatDoorQFixPow
namespace Go.Proofs.YtbbdimlpofjlfaaGreatDoor
open Go Go.RowKit Go.Shelf Go.Proofs.Mul64

def half2 (a b : Nat) : Nat × Nat := if a + b < 18446744073709551616 then (a, b) else (a / 2, b / 2)
def fshare0 (a b least : Nat) : Nat :=
  let p := half2 a b
  min (max (fdiv p.1 (p.1 + p.2)) least) (4611686018427387904 - least)
def badShare (a b least : Nat) : Prop := (a = 0 ∧ b = 0) ∨ 2305843009213693952 < least
instance (a b least : Nat) : Decidable (badShare a b least) := by unfold badShare; infer_instance
def fshare (a b least : Nat) : Nat := if badShare a b least then 0 else fshare0 a b least
def shareE (a b least : Nat) : EV := if badShare a b least then .fault ⟨#[115, 104, 97, 114, 101]⟩ ⟨#[]⟩ (.no 1) else .nil

theorem Share_closure (a b p q : Nat) (ha : a < 18446744073709551616) (hb : b < 18446744073709551616) (w : World) (hp : w.cell? ⟨p, 0, none⟩ = some (.int .u64 a)) (hq : w.cell? ⟨q, 0, none⟩ = some (.int .u64 b)) :
    Calls Tryz.prog 337 #[.pointer (some ⟨p, 0, none⟩), .pointer (some ⟨q, 0, none⟩)] w fun r w' => r = .returned (.bool (decide (¬ a + b < 18446744073709551616))) ∧ w' = w := by
  have hc := add0 a b ha hb
  go_enter Tryz.func337, Tryz.ntmps337
  by_cases h : a + b < 18446744073709551616
  · have e1 : (a + b) / 18446744073709551616 = 0 := by omega
    have e2 : decide (¬ a + b < 18446744073709551616) = false := by simpa using h
    rw [e2]
    simp only [e1] at hc
    go_wp2_with (simp only [hc])
    go_ret
    exact ⟨rfl, rfl⟩
  · have e1 : (a + b) / 18446744073709551616 = 1 := by omega
    have e2 : decide (¬ a + b < 18446744073709551616) = true := by simpa using h
    rw [e2]
    simp only [e1] at hc
    go_wp2_with (simp only [hc])
    go_ret
    exact ⟨rfl, rfl⟩
theorem Share_bad (a b least : Nat) (ha : a < 18446744073709551616) (hb : b < 18446744073709551616) (hl : least < 18446744073709551616) (h : badShare a b least) (w : World) :
    Calls Tryz.prog 331 #[.int .u64 a, .int .u64 b, .int .u64 least] w fun r w' => ∃ v, r = .returned (.tuple #[.int .u64 0, v]) ∧ Keep w w' ∧ ErrAt w' (.fault ⟨#[115, 104, 97, 114, 101]⟩ ⟨#[]⟩ (.no 1)) v := by
  have hK := hide (((Keep.refl w).alloc (o := .cells #[.int .u64 a] 68)).alloc (o := .cells #[.int .u64 b] 68))
  have ho := bits_or_u64_nat a b ha hb
  obtain ⟨c, hc⟩ : ∃ c, a ||| b = c := ⟨_, rfl⟩
  rw [hc] at ho
  by_cases hz : c = 0
  · subst hz
    clear hc h
    go_enter Tryz.func331, Tryz.ntmps331
    go_wp2_with (go_at_call 222; (with_reducible refine (Fix_fault _ _).mono ?_); rintro r w1 ⟨v, rfl, hk, he⟩; have hk := hide hk; have he := hide he)
    go_ret2
    exact ⟨v, rfl, hK.out.trans hk.out, he.out⟩
  · have hz' : ((c : Int) == 0) = false := by rw [beq_eq_false_iff_ne]; omega
    have hz'' : ¬ (c : Int) = 0 := by omega
    have hl2 : (2305843009213693952 : Int) < least := by
      rcases h with ⟨rfl, rfl⟩ | h
      · exact absurd hc.symm hz
      · omega
    clear hc h
    go_enter Tryz.func331, Tryz.ntmps331
    go_wp2_with (go_at_call 222; (with_reducible refine (Fix_fault _ _).mono ?_); rintro r w1 ⟨v, rfl, hk, he⟩; have hk := hide hk; have he := hide he)
    go_ret2
    exact ⟨v, rfl, hK.out.trans hk.out, he.out⟩
theorem Share_ok (a b least : Nat) (ha : a < 18446744073709551616) (hb : b < 18446744073709551616) (hl : least < 18446744073709551616) (h : ¬ badShare a b least) (w : World) :
    Calls Tryz.prog 331 #[.int .u64 a, .int .u64 b, .int .u64 least] w fun r w' => r = .returned (.tuple #[.int .u64 (fshare0 a b least : Nat), .nilIface]) ∧ Keep w w' := by
  have hK := hide (((Keep.refl w).alloc (o := .cells #[.int .u64 a] 68)).alloc (o := .cells #[.int .u64 b] 68))
  have ho := bits_or_u64_nat a b ha hb
  obtain ⟨c, hc⟩ : ∃ c, a ||| b = c := ⟨_, rfl⟩
  rw [hc] at ho
  have hab : ¬ (a = 0 ∧ b = 0) := fun hh => h (.inl hh)
  have hll : least ≤ 2305843009213693952 := by
    rcases Nat.lt_or_ge 2305843009213693952 least with hh | hh
    · exact absurd (.inr hh) h
    · exact hh
  have hz : c ≠ 0 := by
    rintro rfl
    have := Nat.or_eq_zero_iff.1 hc
    exact hab this
  have hz' : ((c : Int) == 0) = false := by rw [beq_eq_false_iff_ne]; omega
  have hl2 : ¬ (2305843009213693952 : Int) < least := by omega
  clear hc hz h
  have habH := hide hab
  clear hab
  by_cases hov : a + b < 18446744073709551616
  · have hcl := fun p q w hp hq => Share_closure a b p q ha hb w hp hq
    rw [show decide (¬ a + b < 18446744073709551616) = false by simpa using hov] at hcl
    have hclH := hide hcl
    clear hcl
    have hD := Fix_Div a (a + b) ha hov
    unfold fshare0 half2
    rw [if_pos hov]
    dsimp only
    rw [divE, if_neg (by have := habH.out; omega)] at hD
    have hD := hide hD
    obtain ⟨s, hs⟩ : ∃ s, fdiv a (a + b) = s := ⟨_, rfl⟩
    rw [hs] at hD ⊢
    have e1 : IntKind.u64.wrap ((a : Int) + (b : Int)) = ((a + b : Nat) : Int) := by rw [addN]; exact wrapN _ hov
    obtain ⟨t, ht⟩ : ∃ t, a + b = t := ⟨_, rfl⟩
    rw [ht] at e1 hD
    have e2 : IntKind.u64.wrap (4611686018427387904 - (least : Int)) = ((4611686018427387904 - least : Nat) : Int) := by rw [IntKind.wrap_u64]; omega
    obtain ⟨m, hm⟩ : ∃ m, 4611686018427387904 - least = m := ⟨_, rfl⟩
    rw [hm] at e2 ⊢
    clear hm ht hs
    go_enter Tryz.func331, Tryz.ntmps331
    go_wp2_with (first
      | (go_at_call 337; (with_reducible refine (hclH.out _ _ _ (by simp) (by simp)).mono ?_); rintro r w1 ⟨rfl, rfl⟩)
      | (go_at_call 334; (with_reducible refine (hD.out _).mono ?_); rintro r w1 ⟨v, rfl, hk, he⟩; have hk := hide hk; have he := hide he))
    go_ret2
    exact ⟨by rw [show ((min (max s least) m : Nat) : Int) = min (max (s : Int) (least : Int)) (m : Int) by omega]; rfl, hK.out.trans hk.out⟩
  · have hcl := fun p q w hp hq => Share_closure a b p q ha hb w hp hq
    rw [show decide (¬ a + b < 18446744073709551616) = true by simpa using hov] at hcl
    have hclH := hide hcl
    clear hcl
    have h1 : a / 2 + b / 2 < 18446744073709551616 := by omega
    have h0 : 0 < a / 2 + b / 2 := by omega
    have hD := Fix_Div (a / 2) (a / 2 + b / 2) (by omega) h1
    unfold fshare0 half2
    rw [if_neg hov]
    dsimp only
    rw [divE, if_neg (by omega)] at hD
    have hD := hide hD
    obtain ⟨s, hs⟩ : ∃ s, fdiv (a / 2) (a / 2 + b / 2) = s := ⟨_, rfl⟩
    rw [hs] at hD ⊢
    have i1 : (a : Int).tdiv 2 = ((a / 2 : Nat) : Int) := rfl
    have i2 : (b : Int).tdiv 2 = ((b / 2 : Nat) : Int) := rfl
    have i3 : IntKind.u64.wrap ((a / 2 : Nat) : Int) = ((a / 2 : Nat) : Int) := wrapN _ (by omega)
    have i4 : IntKind.u64.wrap ((b / 2 : Nat) : Int) = ((b / 2 : Nat) : Int) := wrapN _ (by omega)
    have e1 : IntKind.u64.wrap (((a / 2 : Nat) : Int) + ((b / 2 : Nat) : Int)) = ((a / 2 + b / 2 : Nat) : Int) := by rw [addN]; exact wrapN _ h1
    obtain ⟨t, ht⟩ : ∃ t, a / 2 + b / 2 = t := ⟨_, rfl⟩
    rw [ht] at e1 hD
    obtain ⟨x, hx⟩ : ∃ x, a / 2 = x := ⟨_, rfl⟩
    obtain ⟨y, hy⟩ : ∃ y, b / 2 = y := ⟨_, rfl⟩
    rw [hx] at e1 hD i1 i3
    rw [hy] at e1 i2 i4
    have e2 : IntKind.u64.wrap (4611686018427387904 - (least : Int)) = ((4611686018427387904 - least : Nat) : Int) := by rw [IntKind.wrap_u64]; omega
    obtain ⟨m, hm⟩ : ∃ m, 4611686018427387904 - least = m := ⟨_, rfl⟩
    rw [hm] at e2 ⊢
    clear hm ht hs hx hy h1 h0 hov
    go_enter Tryz.func331, Tryz.ntmps331
    go_wp2_with (first
      | (go_at_call 337; (with_reducible refine (hclH.out _ _ _ (by simp) (by simp)).mono ?_); rintro r w1 ⟨rfl, rfl⟩)
      | (go_at_call 334; (with_reducible refine (hD.out _).mono ?_); rintro r w1 ⟨v, rfl, hk, he⟩; have hk := hide hk; have he := hide he))
    go_region
    go_wp2_with (go_at_call 334; (with_reducible refine (hD.out _).mono ?_); rintro r w1 ⟨v, rfl, hk, he⟩; have hk := hide hk; have he := hide he)
    go_ret2
    exact ⟨by rw [show ((min (max s least) m : Nat) : Int) = min (max (s : Int) (least : Int)) (m : Int) by omega]; rfl, (((Keep.refl w).alloc.alloc.drewN).trans hk.out)⟩
theorem Fix_Share (a b least : Nat) (ha : a < 18446744073709551616) (hb : b < 18446744073709551616) (hl : least < 18446744073709551616) (w : World) :
    Calls Tryz.prog 331 #[.int .u64 a, .int .u64 b, .int .u64 least] w fun r w' => ∃ v, r = .returned (.tuple #[.int .u64 (fshare a b least : Nat), v]) ∧ Keep w w' ∧ ErrAt w' (shareE a b least) v := by
  unfold fshare shareE
  by_cases h : badShare a b least
  · rw [if_pos h, if_pos h]
    exact Share_bad a b least ha hb hl h w
  · rw [if_neg h, if_neg h]
    refine (Share_ok a b least ha hb hl h w).mono ?_
    rintro e w' ⟨rfl, hk⟩
    exact ⟨.nilIface, rfl, hk, rfl⟩
end Go.Proofs.YtbbdimlpofjlfaaGreatDoor
/- The numbers of the package fix: their laws, with no program in sight. -/
namespace Go.Proofs.YtbbdimlpofjlfaaGreatDoor
open Go Go.RowKit

/-! ### Sums -/
theorem fadd_comm (a b : Nat) : fadd a b = fadd b a := by unfold fadd; rw [Nat.add_comm]
theorem fadd_assoc (a b c : Nat) (ha : a < 18446744073709551616) (hb : b < 18446744073709551616) (hc : c < 18446744073709551616) : fadd (fadd a b) c = fadd a (fadd b c) := by
  unfold fadd
  (repeat' split) <;> omega
theorem fadd_zero (a : Nat) (ha : a < 18446744073709551616) : fadd a 0 = a := by unfold fadd; split <;> omega
theorem le_fadd (a b : Nat) (ha : a < 18446744073709551616) : a ≤ fadd a b := by unfold fadd; split <;> omega
theorem fadd_mono {a b c d : Nat} (h : a ≤ c) (k : b ≤ d) : fadd a b ≤ fadd c d := by unfold fadd; (repeat' split) <;> omega
theorem fsub_fadd (a b : Nat) : fadd a b = 18446744073709551615 ∨ fsub (fadd a b) b = a := by unfold fadd fsub; split <;> omega
theorem fsub_fadd_le (a b : Nat) : fsub (fadd a b) b ≤ a := by unfold fadd fsub; split <;> omega
/-! ### Products -/
theorem fmul_comm (a b : Nat) : fmul a b = fmul b a := by unfold fmul; rw [Nat.mul_comm]
theorem fmul_zero (a : Nat) : fmul a 0 = 0 := by unfold fmul; simp
theorem fmul_one (a : Nat) (ha : a < 18446744073709551616) : fmul a 4611686018427387904 = a := by
  unfold fmul
  rw [Nat.mul_div_cancel _ (by omega), if_pos ha]
theorem one_fmul (a : Nat) (ha : a < 18446744073709551616) : fmul 4611686018427387904 a = a := by rw [fmul_comm]; exact fmul_one a ha
theorem clamp_mono {m n : Nat} (h : m ≤ n) : (if m < 18446744073709551616 then m else 18446744073709551615) ≤ (if n < 18446744073709551616 then n else 18446744073709551615) := by (repeat' split) <;> omega
theorem clamp_le {m : Nat} : (if m < 18446744073709551616 then m else 18446744073709551615) ≤ m := by split <;> omega
theorem fmul_mono {a b c d : Nat} (h : a ≤ c) (k : b ≤ d) : fmul a b ≤ fmul c d := by
  unfold fmul
  exact clamp_mono (Nat.div_le_div_right (Nat.mul_le_mul h k))
theorem fmul_le (a b : Nat) (ha : a < 18446744073709551616) (h : b ≤ 4611686018427387904) : fmul a b ≤ a := by
  have := fmul_mono (Nat.le_refl a) h
  rwa [fmul_one a ha] at this
/-! ### Quotients -/
theorem fover_mono {a b c d : Nat} (h : a ≤ c) (k : d ≤ b) (hd : 0 < d) : fover a b ≤ fover c d := by
  unfold fover
  refine clamp_mono ?_
  exact Nat.le_trans (Nat.div_le_div_right (Nat.mul_le_mul_right _ h)) (Nat.div_le_div_left k hd)
theorem fover_fmul (a b : Nat) (ha : a < 18446744073709551616) : fmul (fover a b) b ≤ a := by
  have h1 : fover a b ≤ a * 4611686018427387904 / b := clamp_le
  have h2 : fover a b * b ≤ a * 4611686018427387904 := Nat.le_trans (Nat.mul_le_mul_right _ h1) (Nat.div_mul_le_self _ _)
  have h3 : fover a b * b / 4611686018427387904 ≤ a := by
    have := Nat.div_le_div_right (c := 4611686018427387904) h2
    rwa [Nat.mul_div_cancel _ (by omega)] at this
  unfold fmul
  rw [if_pos (by omega)]
  exact h3
theorem fover_self (a : Nat) (h : 0 < a) : fover a a = 4611686018427387904 := by
  unfold fover
  rw [Nat.mul_div_cancel_left _ h]
  rfl
theorem fover_double (a b : Nat) : fover (2 * a) (2 * b) = fover a b := by
  unfold fover
  rw [Nat.mul_assoc, Nat.mul_div_mul_left _ _ (by omega)]
theorem fover_one (a : Nat) : fover a 1 = if a < 4 then a * 4611686018427387904 else 18446744073709551615 := by
  unfold fover
  rw [Nat.div_one]
  (repeat' split) <;> omega
/-! ### Powers -/
theorem fpowL_zero (o x : Nat) : fpowL o x 0 = o := by rw [fpowL]; simp
theorem fpowL_step (o x n : Nat) (h : n ≠ 0) : fpowL o x n = fpowL (if n % 2 = 1 then fmul o x else o) (fmul x x) (n / 2) := by rw [fpowL, dif_neg h]
theorem fpow_zero (x : Nat) : fpow x 0 = 4611686018427387904 := by unfold fpow; rw [if_neg (by omega)]; exact fpowL_zero _ _
theorem fpow_one (x : Nat) (hx : x < 18446744073709551616) : fpow x 1 = x := by
  unfold fpow
  rw [if_neg (by omega), show (1 : Int).toNat = 1 from rfl, fpowL_step _ _ _ (by omega), if_pos rfl, show 1 / 2 = 0 from rfl, fpowL_zero, one_fmul x hx]
theorem fpowL_mono : ∀ (n : Nat) {o o' x x' : Nat}, o ≤ o' → x ≤ x' → fpowL o x n ≤ fpowL o' x' n := by
  intro n
  induction n using Nat.strongRecOn with
  | ind n ih =>
    intro o o' x x' h k
    by_cases hn : n = 0
    · subst hn; rw [fpowL_zero, fpowL_zero]; exact h
    · rw [fpowL_step _ _ _ hn, fpowL_step _ _ _ hn]
      refine ih _ (by omega) ?_ (fmul_mono k k)
      split
      · exact fmul_mono h k
      · exact h
theorem fpowL_ones (n : Nat) : fpowL 4611686018427387904 4611686018427387904 n = 4611686018427387904 := by
  induction n using Nat.strongRecOn with
  | ind n ih =>
    by_cases hn : n = 0
    · subst hn; exact fpowL_zero _ _
    · rw [fpowL_step _ _ _ hn, show fmul 4611686018427387904 4611686018427387904 = 4611686018427387904 from fmul_one _ (by omega), ite_self]
      exact ih _ (by omega)
theorem fpow_mono {a b : Nat} (n : Int) (h : a ≤ b) : fpow a n ≤ fpow b n := by
  unfold fpow
  split
  · exact Nat.le_refl _
  · exact fpowL_mono _ (Nat.le_refl _) h
theorem fpow_ones (n : Int) (h : 0 ≤ n) : fpow 4611686018427387904 n = 4611686018427387904 := by
  unfold fpow
  rw [if_neg (by omega)]
  exact fpowL_ones _
theorem fpow_le (a : Nat) (n : Int) (h : 0 ≤ n) (ha : a ≤ 4611686018427387904) : fpow a n ≤ 4611686018427387904 := by
  have := fpow_mono n ha
  rwa [fpow_ones n h] at this
/-! ### The exponential -/
theorem fexpL_ge (x : Nat) : ∀ k s t, s < 18446744073709551616 → s ≤ fexpL x k s t
  | 0, _, _, _ => Nat.le_refl _
  | k + 1, s, t, hs => by
    rw [fexpL]
    split
    · exact Nat.le_refl _
    · exact Nat.le_trans (le_fadd _ _ hs) (fexpL_ge x k _ _ (fadd_lt _ _))
theorem fexpL_zero (x : Nat) (k s : Nat) : fexpL x k s 0 = s := by
  cases k with
  | zero => rfl
  | succ k => rw [fexpL, if_pos rfl]
theorem fexpL_mono {x y : Nat} (h : x ≤ y) : ∀ k {s s' t t'}, s' < 18446744073709551616 → s ≤ s' → t ≤ t' → fexpL x k s t ≤ fexpL y k s' t'
  | 0, _, _, _, _, _, hs, _ => hs
  | k + 1, s, s', t, t', hl, hs, ht => by
    by_cases h0 : t = 0
    · subst h0
      rw [fexpL_zero]
      exact Nat.le_trans hs (fexpL_ge _ _ _ _ hl)
    · rw [fexpL, if_neg h0, fexpL, if_neg (by omega)]
      have h1 := Nat.div_le_div_right (c := 63 - k) (fmul_mono ht h)
      exact fexpL_mono h k (fadd_lt _ _) (fadd_mono hs h1) h1
theorem fexp_mono {x y : Nat} (h : x ≤ y) : fexp x ≤ fexp y := fexpL_mono h _ (by omega) (Nat.le_refl _) (Nat.le_refl _)
theorem fexp_one (x : Nat) : 4611686018427387904 ≤ fexp x := fexpL_ge _ _ _ _ (by omega)
theorem fexp_ge (x : Nat) (hx : x < 18446744073709551616) : fadd 4611686018427387904 x ≤ fexp x := by
  unfold fexp
  rw [fexpL, if_neg (by omega), one_fmul x hx, show 63 - 62 = 1 from rfl, Nat.div_one]
  exact fexpL_ge _ _ _ _ (fadd_lt _ _)
theorem fexp_pos (x : Nat) : fexp x ≠ 0 := by have := fexp_one x; omega
theorem ffall_eq (x : Nat) : ffall x = fover 4611686018427387904 (fexp x) := by unfold ffall fdiv; rw [if_neg (fexp_pos x)]
theorem ffall_anti {x y : Nat} (h : x ≤ y) : ffall y ≤ ffall x := by
  rw [ffall_eq, ffall_eq]
  exact fover_mono (Nat.le_refl _) (fexp_mono h) (by have := fexp_one x; omega)
theorem ffall_le (x : Nat) : ffall x ≤ 4611686018427387904 := by
  rw [ffall_eq]
  have := fover_mono (Nat.le_refl 4611686018427387904) (fexp_one x) (by omega)
  rwa [fover_self _ (by omega)] at this
theorem ffall_pos (x : Nat) : 0 < ffall x := by
  rw [ffall_eq]
  have h1 : fover 4611686018427387904 18446744073709551615 ≤ fover 4611686018427387904 (fexp x) := fover_mono (Nat.le_refl _) (by have := fexp_lt x; omega) (by have := fexp_one x; omega)
  have h2 : 0 < fover 4611686018427387904 18446744073709551615 := by decide +kernel
  omega
theorem fexp_ffall (x : Nat) : fmul (fexp x) (ffall x) ≤ 4611686018427387904 := by
  rw [ffall_eq, fmul_comm]
  exact fover_fmul _ _ (by omega)
/-! ### Shares -/
theorem badShare_comm (a b least : Nat) : badShare a b least ↔ badShare b a least := by unfold badShare; omega
theorem half2_comm (a b : Nat) : half2 b a = ((half2 a b).2, (half2 a b).1) := by
  unfold half2
  rw [Nat.add_comm b a]
  split <;> rfl
theorem share_part {p q : Nat} (h : 0 < p + q) : fover p (p + q) ≤ 4611686018427387904 ∧ fover p (p + q) = p * 4611686018427387904 / (p + q) := by
  have h1 := fover_mono (Nat.le_add_right p q) (Nat.le_refl (p + q)) h
  rw [fover_self _ h] at h1
  refine ⟨h1, ?_⟩
  unfold fover at h1 ⊢
  split
  · rfl
  · rename_i h2
    rw [if_neg h2] at h1
    omega
theorem half2_pos {a b least : Nat} (h : ¬ badShare a b least) : 0 < (half2 a b).1 + (half2 a b).2 := by
  unfold badShare at h
  unfold half2
  split <;> dsimp only <;> omega
theorem half2_le {a b : Nat} (h : b ≤ a) : (half2 a b).2 ≤ (half2 a b).1 := by
  unfold half2
  split <;> dsimp only <;> omega
theorem fshare_eq {a b least : Nat} (h : ¬ badShare a b least) : fshare a b least = min (max (fover (half2 a b).1 ((half2 a b).1 + (half2 a b).2)) least) (4611686018427387904 - least) := by
  have := half2_pos h
  unfold fshare fshare0 fdiv
  rw [if_neg h]
  dsimp only
  rw [if_neg (by omega)]
theorem fshare_least {a b least : Nat} (h : ¬ badShare a b least) : least ≤ fshare a b least ∧ fshare a b least ≤ 4611686018427387904 - least := by
  have hl : least ≤ 2305843009213693952 := by unfold badShare at h; omega
  rw [fshare_eq h]
  omega
theorem floor_two {x y n : Nat} (hn : 0 < n) : x / n + y / n ≤ (x + y) / n ∧ (x + y) / n ≤ x / n + y / n + 1 := by
  constructor
  · rw [Nat.le_div_iff_mul_le hn, Nat.add_mul]
    exact Nat.add_le_add (Nat.div_mul_le_self _ _) (Nat.div_mul_le_self _ _)
  · have h1 := Nat.div_add_mod x n
    have h2 := Nat.div_add_mod y n
    have h3 := Nat.mod_lt x hn
    have h4 := Nat.mod_lt y hn
    rw [← Nat.lt_succ_iff, Nat.div_lt_iff_lt_mul hn]
    have : (x / n + y / n + 1).succ * n = n * (x / n) + n * (y / n) + 2 * n := by rw [Nat.succ_eq_add_one, Nat.add_mul, Nat.add_mul, Nat.add_mul, Nat.mul_comm n, Nat.mul_comm n]; omega
    omega
theorem share_sum {p q N : Nat} (h : 0 < p + q) : p * N / (p + q) + q * N / (p + q) ≤ N ∧ N ≤ p * N / (p + q) + q * N / (p + q) + 1 := by
  have hs : p * N + q * N = N * (p + q) := by rw [← Nat.add_mul, Nat.mul_comm]
  have hf := floor_two (x := p * N) (y := q * N) h
  rwa [hs, Nat.mul_div_cancel _ h] at hf
theorem fshare_two {a b : Nat} (h : ¬ badShare a b 0) : fshare a b 0 + fshare b a 0 ≤ 4611686018427387904 ∧ 4611686018427387904 ≤ fshare a b 0 + fshare b a 0 + 1 ∧ (b ≤ a → fshare b a 0 ≤ fshare a b 0) := by
  have h' : ¬ badShare b a 0 := fun k => h ((badShare_comm _ _ _).1 k)
  have hp := half2_pos h
  have hc := half2_comm a b
  have hle := @half2_le a b
  rw [fshare_eq h, fshare_eq h', hc]
  obtain ⟨p, hp1⟩ : ∃ p, (half2 a b).1 = p := ⟨_, rfl⟩
  obtain ⟨q, hq1⟩ : ∃ q, (half2 a b).2 = q := ⟨_, rfl⟩
  rw [hp1, hq1] at hp hle ⊢
  obtain ⟨x1, x2⟩ := share_part hp
  obtain ⟨y1, y2⟩ := share_part (p := q) (q := p) (by omega)
  rw [Nat.add_comm q p] at y1 y2 ⊢
  have hm : q ≤ p → fover q (p + q) ≤ fover p (p + q) := fun k => fover_mono k (Nat.le_refl _) hp
  have hf := share_sum (N := 4611686018427387904) hp
  obtain ⟨u, hu⟩ : ∃ u, p * 4611686018427387904 / (p + q) = u := ⟨_, rfl⟩
  obtain ⟨v, hv⟩ : ∃ v, q * 4611686018427387904 / (p + q) = v := ⟨_, rfl⟩
  rw [hu] at x2 hf
  rw [hv] at y2 hf
  rw [x2] at x1 hm ⊢
  rw [y2] at y1 hm ⊢
  clear hu hv x2 y2
  refine ⟨by omega, by omega, fun hba => ?_⟩
  have := hm (hle hba)
  omega
end Go.Proofs.YtbbdimlpofjlfaaGreatDoor
/- The contracts of the package fix, with their values named. -/
namespace Go.Proofs.YtbbdimlpofjlfaaGreatDoor
open Go Go.RowKit Go.Shelf Go.Proofs.Mul64

theorem Add_val (a b s : Nat) (h : fadd a b = s) (ha : a < 18446744073709551616) (hb : b < 18446744073709551616) (w : World) :
    Calls Tryz.prog 325 #[.int .u64 a, .int .u64 b] w fun r w' => r = .returned (.int .u64 (s : Nat)) ∧ Keep w w' := by subst h; exact Fix_Add a b ha hb w
theorem Mul_val (a b s : Nat) (h : fmul a b = s) (ha : a < 18446744073709551616) (hb : b < 18446744073709551616) (w : World) :
    Calls Tryz.prog 330 #[.int .u64 a, .int .u64 b] w fun r w' => r = .returned (.int .u64 (s : Nat)) ∧ Keep w w' := by subst h; exact Fix_Mul a b ha hb w
theorem Exp_val (a s : Nat) (h : fexp a = s) (ha : a < 18446744073709551616) (w : World) :
    Calls Tryz.prog 335 #[.int .u64 a] w fun r w' => r = .returned (.int .u64 (s : Nat)) ∧ Keep w w' := by subst h; exact Fix_Exp a ha w
theorem Fall_val (a s : Nat) (h : ffall a = s) (ha : a < 18446744073709551616) (w : World) :
    Calls Tryz.prog 329 #[.int .u64 a] w fun r w' => r = .returned (.int .u64 (s : Nat)) ∧ Keep w w' := by subst h; exact Fix_Fall a ha w
theorem Div_val (a b s : Nat) (h : fover a b = s) (h0 : 0 < b) (ha : a < 18446744073709551616) (hb : b < 18446744073709551616) (w : World) :
    Calls Tryz.prog 334 #[.int .u64 a, .int .u64 b] w fun r w' => r = .returned (.tuple #[.int .u64 (s : Nat), .nilIface]) ∧ Keep w w' := by
  subst h
  refine (Fix_Div a b ha hb w).mono ?_
  rintro r w' ⟨v, rfl, hk, he⟩
  rw [divE, if_neg (by omega)] at he
  obtain rfl := he
  rw [fdiv, if_neg (by omega)]
  exact ⟨rfl, hk⟩
theorem Div_none (a : Nat) (ha : a < 18446744073709551616) (w : World) :
    Calls Tryz.prog 334 #[.int .u64 a, .int .u64 0] w fun r w' => ∃ v, r = .returned (.tuple #[.int .u64 0, v]) ∧ Keep w w' ∧ ErrAt w' (.fault ⟨#[100, 105, 118]⟩ ⟨#[]⟩ (.no 1)) v := Fix_Div a 0 ha (by omega) w
theorem Whole_val (a b s : Nat) (h : fover a b = s) (h0 : 0 < b) (ha : a < 9223372036854775808) (hb : b < 9223372036854775808) (w : World) :
    Calls Tryz.prog 159 #[.int .i64 a, .int .i64 b] w fun r w' => r = .returned (.tuple #[.int .u64 (s : Nat), .nilIface]) ∧ Keep w w' := by subst h; exact Fix_Whole_ok a b ha hb h0 w
theorem Whole_none (m n : Int) (h : m < 0 ∨ n ≤ 0) (w : World) :
    Calls Tryz.prog 159 #[.int .i64 m, .int .i64 n] w fun r w' => ∃ v, r = .returned (.tuple #[.int .u64 0, v]) ∧ Keep w w' ∧ ErrAt w' (.fault ⟨#[119, 104, 111, 108, 101]⟩ ⟨#[]⟩ (.no 1)) v := by
  have := Fix_Whole_bad m n h w
  rw [fwhole, if_pos h, wholeE, if_pos h] at this
  exact this
theorem Pow_val (x s : Nat) (n : Int) (h : fpow x n = s) (hx : x < 18446744073709551616) (hn : 0 ≤ n ∧ n ≤ 9223372036854775807) (w : World) :
    Calls Tryz.prog 328 #[.int .u64 x, .int .i64 n] w fun r w' => r = .returned (.tuple #[.int .u64 (s : Nat), .nilIface]) ∧ Keep w w' := by
  subst h
  refine (Fix_Pow x n hx (by omega) w).mono ?_
  rintro r w' ⟨v, rfl, hk, he⟩
  rw [powE, if_neg (by omega)] at he
  obtain rfl := he
  exact ⟨rfl, hk⟩
theorem Pow_none (x : Nat) (n : Int) (h : n < 0) (hx : x < 18446744073709551616) (hn : -9223372036854775808 ≤ n) (w : World) :
    Calls Tryz.prog 328 #[.int .u64 x, .int .i64 n] w fun r w' => ∃ v, r = .returned (.tuple #[.int .u64 0, v]) ∧ Keep w w' ∧ ErrAt w' (.fault ⟨#[112, 111, 119]⟩ ⟨#[]⟩ (.no 1)) v := by
  have := Fix_Pow x n hx (by omega) w
  rw [fpow, if_pos h, powE, if_pos h] at this
  exact this
theorem Share_val (a b least s : Nat) (h : fshare a b least = s) (hn : ¬ badShare a b least) (ha : a < 18446744073709551616) (hb : b < 18446744073709551616) (hl : least < 18446744073709551616) (w : World) :
    Calls Tryz.prog 331 #[.int .u64 a, .int .u64 b, .int .u64 least] w fun r w' => r = .returned (.tuple #[.int .u64 (s : Nat), .nilIface]) ∧ Keep w w' := by
  subst h
  rw [fshare, if_neg hn]
  exact Share_ok a b least ha hb hl hn w

/-! ### At numerals -/
theorem Add_0 (a : Nat) (ha : a < 18446744073709551616) (w : World) : Calls Tryz.prog 325 #[.int .u64 a, .int .u64 0] w fun r w' => r = .returned (.int .u64 (a : Nat)) ∧ Keep w w' := Add_val a 0 a (fadd_zero a ha) ha (by omega) w
theorem Add_most (a b : Nat) (h : fadd a b = 18446744073709551615) (ha : a < 18446744073709551616) (hb : b < 18446744073709551616) (w : World) :
    Calls Tryz.prog 325 #[.int .u64 a, .int .u64 b] w fun r w' => r = .returned (.int .u64 18446744073709551615) ∧ Keep w w' := Add_val a b 18446744073709551615 h ha hb w
theorem Most_Add (b : Nat) (hb : b < 18446744073709551616) (w : World) :
    Calls Tryz.prog 325 #[.int .u64 18446744073709551615, .int .u64 b] w fun r w' => r = .returned (.int .u64 18446744073709551615) ∧ Keep w w' := Add_val 18446744073709551615 b 18446744073709551615 (by unfold fadd; split <;> omega) (by omega) hb w
theorem Mul_0 (a : Nat) (ha : a < 18446744073709551616) (w : World) : Calls Tryz.prog 330 #[.int .u64 a, .int .u64 0] w fun r w' => r = .returned (.int .u64 0) ∧ Keep w w' := Mul_val a 0 0 (fmul_zero a) ha (by omega) w
theorem Zero_Mul (a : Nat) (ha : a < 18446744073709551616) (w : World) : Calls Tryz.prog 330 #[.int .u64 0, .int .u64 a] w fun r w' => r = .returned (.int .u64 0) ∧ Keep w w' := Mul_val 0 a 0 (by rw [fmul_comm]; exact fmul_zero a) (by omega) ha w
theorem Share_bad00 (least : Nat) (hl : least < 18446744073709551616) (w : World) :
    Calls Tryz.prog 331 #[.int .u64 0, .int .u64 0, .int .u64 least] w fun r w' => ∃ v, r = .returned (.tuple #[.int .u64 0, v]) ∧ Keep w w' ∧ ErrAt w' (.fault ⟨#[115, 104, 97, 114, 101]⟩ ⟨#[]⟩ (.no 1)) v := Share_bad 0 0 least (by omega) (by omega) hl (.inl ⟨rfl, rfl⟩) w
theorem Share_bad0 (b least : Nat) (hb : b < 18446744073709551616) (hl : least < 18446744073709551616) (h : badShare 0 b least) (w : World) :
    Calls Tryz.prog 331 #[.int .u64 0, .int .u64 b, .int .u64 least] w fun r w' => ∃ v, r = .returned (.tuple #[.int .u64 0, v]) ∧ Keep w w' ∧ ErrAt w' (.fault ⟨#[115, 104, 97, 114, 101]⟩ ⟨#[]⟩ (.no 1)) v := Share_bad 0 b least (by omega) hb hl h w
theorem Share_badb (a least : Nat) (ha : a < 18446744073709551616) (hl : least < 18446744073709551616) (h : badShare a 0 least) (w : World) :
    Calls Tryz.prog 331 #[.int .u64 a, .int .u64 0, .int .u64 least] w fun r w' => ∃ v, r = .returned (.tuple #[.int .u64 0, v]) ∧ Keep w w' ∧ ErrAt w' (.fault ⟨#[115, 104, 97, 114, 101]⟩ ⟨#[]⟩ (.no 1)) v := Share_bad a 0 least ha (by omega) hl h w
theorem Share_l0 (a b s : Nat) (h : fshare a b 0 = s) (hn : ¬ badShare a b 0) (ha : a < 18446744073709551616) (hb : b < 18446744073709551616) (w : World) :
    Calls Tryz.prog 331 #[.int .u64 a, .int .u64 b, .int .u64 0] w fun r w' => r = .returned (.tuple #[.int .u64 (s : Nat), .nilIface]) ∧ Keep w w' := Share_val a b 0 s h hn ha hb (by omega) w
theorem Mul_1 (a : Nat) (ha : a < 18446744073709551616) (w : World) : Calls Tryz.prog 330 #[.int .u64 a, .int .u64 4611686018427387904] w fun r w' => r = .returned (.int .u64 (a : Nat)) ∧ Keep w w' := Mul_val a 4611686018427387904 a (fmul_one a ha) ha (by omega) w
theorem One_Add (a s : Nat) (h : fadd 4611686018427387904 a = s) (ha : a < 18446744073709551616) (w : World) : Calls Tryz.prog 325 #[.int .u64 4611686018427387904, .int .u64 a] w fun r w' => r = .returned (.int .u64 (s : Nat)) ∧ Keep w w' := Add_val 4611686018427387904 a s h (by omega) ha w
theorem Whole_1 (a s : Nat) (h : fover a 1 = s) (ha : a < 9223372036854775808) (w : World) : Calls Tryz.prog 159 #[.int .i64 a, .int .i64 1] w fun r w' => r = .returned (.tuple #[.int .u64 (s : Nat), .nilIface]) ∧ Keep w w' := Whole_val a 1 s h (by omega) ha (by omega) w
theorem Pow_0 (x : Nat) (hx : x < 18446744073709551616) (w : World) : Calls Tryz.prog 328 #[.int .u64 x, .int .i64 0] w fun r w' => r = .returned (.tuple #[.int .u64 4611686018427387904, .nilIface]) ∧ Keep w w' := Pow_val x 4611686018427387904 0 (fpow_zero x) hx (by omega) w
theorem Pow_1 (x : Nat) (hx : x < 18446744073709551616) (w : World) : Calls Tryz.prog 328 #[.int .u64 x, .int .i64 1] w fun r w' => r = .returned (.tuple #[.int .u64 (x : Nat), .nilIface]) ∧ Keep w w' := Pow_val x x 1 (fpow_one x hx) hx (by omega) w
theorem Pow_ones (n : Int) (hn : 0 ≤ n ∧ n ≤ 9223372036854775807) (w : World) : Calls Tryz.prog 328 #[.int .u64 4611686018427387904, .int .i64 n] w fun r w' => r = .returned (.tuple #[.int .u64 4611686018427387904, .nilIface]) ∧ Keep w w' := Pow_val 4611686018427387904 4611686018427387904 n (fpow_ones n hn.1) (by omega) hn w
/-! ### Answers that the document fixes -/
section
variable (w : World)
theorem aw_Div : Calls Tryz.prog 334 #[.int .u64 4611686018427387904, .int .u64 9223372036854775808] w fun r w' => r = .returned (.tuple #[.int .u64 2305843009213693952, .nilIface]) ∧ Keep w w' :=
  Div_val 4611686018427387904 9223372036854775808 2305843009213693952 (by decide +kernel) (by omega) (by omega) (by omega) w
theorem aw_Div0 : Calls Tryz.prog 334 #[.int .u64 1, .int .u64 0] w fun r w' => ∃ v, r = .returned (.tuple #[.int .u64 0, v]) ∧ Keep w w' ∧ ErrAt w' (.fault ⟨#[100, 105, 118]⟩ ⟨#[]⟩ (.no 1)) v := Div_none 1 (by omega) w
theorem aw_Pow : Calls Tryz.prog 328 #[.int .u64 2305843009213693952, .int .i64 3] w fun r w' => r = .returned (.tuple #[.int .u64 576460752303423488, .nilIface]) ∧ Keep w w' :=
  Pow_val 2305843009213693952 576460752303423488 3 (by simp [fpow, fpowL]; decide +kernel) (by omega) (by omega) w
theorem aw_Share : Calls Tryz.prog 331 #[.int .u64 4611686018427387904, .int .u64 4611686018427387904, .int .u64 0] w fun r w' => r = .returned (.tuple #[.int .u64 2305843009213693952, .nilIface]) ∧ Keep w w' :=
  Share_val 4611686018427387904 4611686018427387904 0 2305843009213693952 (by decide +kernel) (by decide +kernel) (by omega) (by omega) (by omega) w
theorem aw_Whole : Calls Tryz.prog 159 #[.int .i64 3, .int .i64 2] w fun r w' => r = .returned (.tuple #[.int .u64 6917529027641081856, .nilIface]) ∧ Keep w w' :=
  Whole_val 3 2 6917529027641081856 (by decide +kernel) (by omega) (by omega) (by omega) w
theorem aw_Mul : Calls Tryz.prog 330 #[.int .u64 2305843009213693952, .int .u64 2305843009213693952] w fun r w' => r = .returned (.int .u64 1152921504606846976) ∧ Keep w w' :=
  Mul_val 2305843009213693952 2305843009213693952 1152921504606846976 (by decide +kernel) (by omega) (by omega) w
theorem aw_Add : Calls Tryz.prog 325 #[.int .u64 18446744073709551615, .int .u64 1] w fun r w' => r = .returned (.int .u64 18446744073709551615) ∧ Keep w w' :=
  Add_val 18446744073709551615 1 18446744073709551615 (by decide +kernel) (by omega) (by omega) w
theorem aw_Exp : Calls Tryz.prog 335 #[.int .u64 0] w fun r w' => r = .returned (.int .u64 4611686018427387904) ∧ Keep w w' :=
  Exp_val 0 4611686018427387904 (by decide +kernel) (by omega) w
theorem aw_Fall : Calls Tryz.prog 329 #[.int .u64 0] w fun r w' => r = .returned (.int .u64 4611686018427387904) ∧ Keep w w' :=
  Fall_val 0 4611686018427387904 (by decide +kernel) (by omega) w
end
end Go.Proofs.YtbbdimlpofjlfaaGreatDoor
