/- The numbers of the package fix: their laws, with no program in sight. -/
import Derived.Test.YtfdeafiidaepgaaDoorFixShare
namespace Go.Proofs.YtfdeafiidaepgaaDoor
open Go Go.RowKit

/-! ### Sums -/
theorem fadd_comm (a b : Nat) : fadd a b = fadd b a := by unfold fadd; rw [Nat.add_comm]
theorem fadd_assoc (a b c : Nat) (ha : a < 18446744073709551616) (hb : b < 18446744073709551616) (hc : c < 18446744073709551616) : fadd (fadd a b) c = fadd a (fadd b c) := by
  unfold fadd
  (repeat' split) <;> omega
theorem fadd_zero (a : Nat) (ha : a < 18446744073709551616) : fadd a 0 = a := by unfold fadd; split <;> omega
theorem le_fadd (a b : Nat) (ha : a < 18446744073709551616) : a ≤ fadd a b := by unfold fadd; split <;> omega
theorem fadd_mono {a b c d : Nat} (h : a ≤ c) (k : b ≤ d) : fadd a b ≤ fadd c d := by unfold fadd; (repeat' split) <;> omega
theorem fsub_fadd (a b : Nat) : fadd a b = 18446744073709551615 ∨ fsub (fadd a b) b = a := by unfold fadd fsub; split <;> omega
theorem fsub_fadd_le (a b : Nat) : fsub (fadd a b) b ≤ a := by unfold fadd fsub; split <;> omega
/-! ### Products -/
theorem fmul_comm (a b : Nat) : fmul a b = fmul b a := by unfold fmul; rw [Nat.mul_comm]
theorem fmul_zero (a : Nat) : fmul a 0 = 0 := by unfold fmul; simp
theorem fmul_one (a : Nat) (ha : a < 18446744073709551616) : fmul a 4611686018427387904 = a := by
  unfold fmul
  rw [Nat.mul_div_cancel _ (by omega), if_pos ha]
theorem one_fmul (a : Nat) (ha : a < 18446744073709551616) : fmul 4611686018427387904 a = a := by rw [fmul_comm]; exact fmul_one a ha
theorem clamp_mono {m n : Nat} (h : m ≤ n) : (if m < 18446744073709551616 then m else 18446744073709551615) ≤ (if n < 18446744073709551616 then n else 18446744073709551615) := by (repeat' split) <;> omega
theorem clamp_le {m : Nat} : (if m < 18446744073709551616 then m else 18446744073709551615) ≤ m := by split <;> omega
theorem fmul_mono {a b c d : Nat} (h : a ≤ c) (k : b ≤ d) : fmul a b ≤ fmul c d := by
  unfold fmul
  exact clamp_mono (Nat.div_le_div_right (Nat.mul_le_mul h k))
theorem fmul_le (a b : Nat) (ha : a < 18446744073709551616) (h : b ≤ 4611686018427387904) : fmul a b ≤ a := by
  have := fmul_mono (Nat.le_refl a) h
  rwa [fmul_one a ha] at this
/-! ### Quotients -/
theorem fover_mono {a b c d : Nat} (h : a ≤ c) (k : d ≤ b) (hd : 0 < d) : fover a b ≤ fover c d := by
  unfold fover
  refine clamp_mono ?_
  exact Nat.le_trans (Nat.div_le_div_right (Nat.mul_le_mul_right _ h)) (Nat.div_le_div_left k hd)
theorem fover_fmul (a b : Nat) (ha : a < 18446744073709551616) : fmul (fover a b) b ≤ a := by
  have h1 : fover a b ≤ a * 4611686018427387904 / b := clamp_le
  have h2 : fover a b * b ≤ a * 4611686018427387904 := Nat.le_trans (Nat.mul_le_mul_right _ h1) (Nat.div_mul_le_self _ _)
  have h3 : fover a b * b / 4611686018427387904 ≤ a := by
    have := Nat.div_le_div_right (c := 4611686018427387904) h2
    rwa [Nat.mul_div_cancel _ (by omega)] at this
  unfold fmul
  rw [if_pos (by omega)]
  exact h3
theorem fover_self (a : Nat) (h : 0 < a) : fover a a = 4611686018427387904 := by
  unfold fover
  rw [Nat.mul_div_cancel_left _ h]
  rfl
theorem fover_double (a b : Nat) : fover (2 * a) (2 * b) = fover a b := by
  unfold fover
  rw [Nat.mul_assoc, Nat.mul_div_mul_left _ _ (by omega)]
theorem fover_one (a : Nat) : fover a 1 = if a < 4 then a * 4611686018427387904 else 18446744073709551615 := by
  unfold fover
  rw [Nat.div_one]
  (repeat' split) <;> omega
/-! ### Powers -/
theorem fpowL_zero (o x : Nat) : fpowL o x 0 = o := by rw [fpowL]; simp
theorem fpowL_step (o x n : Nat) (h : n ≠ 0) : fpowL o x n = fpowL (if n % 2 = 1 then fmul o x else o) (fmul x x) (n / 2) := by rw [fpowL, dif_neg h]
theorem fpow_zero (x : Nat) : fpow x 0 = 4611686018427387904 := by unfold fpow; rw [if_neg (by omega)]; exact fpowL_zero _ _
theorem fpow_one (x : Nat) (hx : x < 18446744073709551616) : fpow x 1 = x := by
  unfold fpow
  rw [if_neg (by omega), show (1 : Int).toNat = 1 from rfl, fpowL_step _ _ _ (by omega), if_pos rfl, show 1 / 2 = 0 from rfl, fpowL_zero, one_fmul x hx]
theorem fpowL_mono : ∀ (n : Nat) {o o' x x' : Nat}, o ≤ o' → x ≤ x' → fpowL o x n ≤ fpowL o' x' n := by
  intro n
  induction n using Nat.strongRecOn with
  | ind n ih =>
    intro o o' x x' h k
    by_cases hn : n = 0
    · subst hn; rw [fpowL_zero, fpowL_zero]; exact h
    · rw [fpowL_step _ _ _ hn, fpowL_step _ _ _ hn]
      refine ih _ (by omega) ?_ (fmul_mono k k)
      split
      · exact fmul_mono h k
      · exact h
theorem fpowL_ones (n : Nat) : fpowL 4611686018427387904 4611686018427387904 n = 4611686018427387904 := by
  induction n using Nat.strongRecOn with
  | ind n ih =>
    by_cases hn : n = 0
    · subst hn; exact fpowL_zero _ _
    · rw [fpowL_step _ _ _ hn, show fmul 4611686018427387904 4611686018427387904 = 4611686018427387904 from fmul_one _ (by omega), ite_self]
      exact ih _ (by omega)
theorem fpow_mono {a b : Nat} (n : Int) (h : a ≤ b) : fpow a n ≤ fpow b n := by
  unfold fpow
  split
  · exact Nat.le_refl _
  · exact fpowL_mono _ (Nat.le_refl _) h
theorem fpow_ones (n : Int) (h : 0 ≤ n) : fpow 4611686018427387904 n = 4611686018427387904 := by
  unfold fpow
  rw [if_neg (by omega)]
  exact fpowL_ones _
theorem fpow_le (a : Nat) (n : Int) (h : 0 ≤ n) (ha : a ≤ 4611686018427387904) : fpow a n ≤ 4611686018427387904 := by
  have := fpow_mono n ha
  rwa [fpow_ones n h] at this
/-! ### The exponential -/
theorem fexpL_ge (x : Nat) : ∀ k s t, s < 18446744073709551616 → s ≤ fexpL x k s t
  | 0, _, _, _ => Nat.le_refl _
  | k + 1, s, t, hs => by
    rw [fexpL]
    split
    · exact Nat.le_refl _
    · exact Nat.le_trans (le_fadd _ _ hs) (fexpL_ge x k _ _ (fadd_lt _ _))
theorem fexpL_zero (x : Nat) (k s : Nat) : fexpL x k s 0 = s := by
  cases k with
  | zero => rfl
  | succ k => rw [fexpL, if_pos rfl]
theorem fexpL_mono {x y : Nat} (h : x ≤ y) : ∀ k {s s' t t'}, s' < 18446744073709551616 → s ≤ s' → t ≤ t' → fexpL x k s t ≤ fexpL y k s' t'
  | 0, _, _, _, _, _, hs, _ => hs
  | k + 1, s, s', t, t', hl, hs, ht => by
    by_cases h0 : t = 0
    · subst h0
      rw [fexpL_zero]
      exact Nat.le_trans hs (fexpL_ge _ _ _ _ hl)
    · rw [fexpL, if_neg h0, fexpL, if_neg (by omega)]
      have h1 := Nat.div_le_div_right (c := 63 - k) (fmul_mono ht h)
      exact fexpL_mono h k (fadd_lt _ _) (fadd_mono hs h1) h1
theorem fexp_mono {x y : Nat} (h : x ≤ y) : fexp x ≤ fexp y := fexpL_mono h _ (by omega) (Nat.le_refl _) (Nat.le_refl _)
theorem fexp_one (x : Nat) : 4611686018427387904 ≤ fexp x := fexpL_ge _ _ _ _ (by omega)
theorem fexp_ge (x : Nat) (hx : x < 18446744073709551616) : fadd 4611686018427387904 x ≤ fexp x := by
  unfold fexp
  rw [fexpL, if_neg (by omega), one_fmul x hx, show 63 - 62 = 1 from rfl, Nat.div_one]
  exact fexpL_ge _ _ _ _ (fadd_lt _ _)
theorem fexp_pos (x : Nat) : fexp x ≠ 0 := by have := fexp_one x; omega
theorem ffall_eq (x : Nat) : ffall x = fover 4611686018427387904 (fexp x) := by unfold ffall fdiv; rw [if_neg (fexp_pos x)]
theorem ffall_anti {x y : Nat} (h : x ≤ y) : ffall y ≤ ffall x := by
  rw [ffall_eq, ffall_eq]
  exact fover_mono (Nat.le_refl _) (fexp_mono h) (by have := fexp_one x; omega)
theorem ffall_le (x : Nat) : ffall x ≤ 4611686018427387904 := by
  rw [ffall_eq]
  have := fover_mono (Nat.le_refl 4611686018427387904) (fexp_one x) (by omega)
  rwa [fover_self _ (by omega)] at this
theorem ffall_pos (x : Nat) : 0 < ffall x := by
  rw [ffall_eq]
  have h1 : fover 4611686018427387904 18446744073709551615 ≤ fover 4611686018427387904 (fexp x) := fover_mono (Nat.le_refl _) (by have := fexp_lt x; omega) (by have := fexp_one x; omega)
  have h2 : 0 < fover 4611686018427387904 18446744073709551615 := by decide +kernel
  omega
theorem fexp_ffall (x : Nat) : fmul (fexp x) (ffall x) ≤ 4611686018427387904 := by
  rw [ffall_eq, fmul_comm]
  exact fover_fmul _ _ (by omega)
/-! ### Shares -/
theorem badShare_comm (a b least : Nat) : badShare a b least ↔ badShare b a least := by unfold badShare; omega
theorem half2_comm (a b : Nat) : half2 b a = ((half2 a b).2, (half2 a b).1) := by
  unfold half2
  rw [Nat.add_comm b a]
  split <;> rfl
theorem share_part {p q : Nat} (h : 0 < p + q) : fover p (p + q) ≤ 4611686018427387904 ∧ fover p (p + q) = p * 4611686018427387904 / (p + q) := by
  have h1 := fover_mono (Nat.le_add_right p q) (Nat.le_refl (p + q)) h
  rw [fover_self _ h] at h1
  refine ⟨h1, ?_⟩
  unfold fover at h1 ⊢
  split
  · rfl
  · rename_i h2
    rw [if_neg h2] at h1
    omega
theorem half2_pos {a b least : Nat} (h : ¬ badShare a b least) : 0 < (half2 a b).1 + (half2 a b).2 := by
  unfold badShare at h
  unfold half2
  split <;> dsimp only <;> omega
theorem half2_le {a b : Nat} (h : b ≤ a) : (half2 a b).2 ≤ (half2 a b).1 := by
  unfold half2
  split <;> dsimp only <;> omega
theorem fshare_eq {a b least : Nat} (h : ¬ badShare a b least) : fshare a b least = min (max (fover (half2 a b).1 ((half2 a b).1 + (half2 a b).2)) least) (4611686018427387904 - least) := by
  have := half2_pos h
  unfold fshare fshare0 fdiv
  rw [if_neg h]
  dsimp only
  rw [if_neg (by omega)]
theorem fshare_least {a b least : Nat} (h : ¬ badShare a b least) : least ≤ fshare a b least ∧ fshare a b least ≤ 4611686018427387904 - least := by
  have hl : least ≤ 2305843009213693952 := by unfold badShare at h; omega
  rw [fshare_eq h]
  omega
theorem floor_two {x y n : Nat} (hn : 0 < n) : x / n + y / n ≤ (x + y) / n ∧ (x + y) / n ≤ x / n + y / n + 1 := by
  constructor
  · rw [Nat.le_div_iff_mul_le hn, Nat.add_mul]
    exact Nat.add_le_add (Nat.div_mul_le_self _ _) (Nat.div_mul_le_self _ _)
  · have h1 := Nat.div_add_mod x n
    have h2 := Nat.div_add_mod y n
    have h3 := Nat.mod_lt x hn
    have h4 := Nat.mod_lt y hn
    rw [← Nat.lt_succ_iff, Nat.div_lt_iff_lt_mul hn]
    have : (x / n + y / n + 1).succ * n = n * (x / n) + n * (y / n) + 2 * n := by rw [Nat.succ_eq_add_one, Nat.add_mul, Nat.add_mul, Nat.add_mul, Nat.mul_comm n, Nat.mul_comm n]; omega
    omega
theorem share_sum {p q N : Nat} (h : 0 < p + q) : p * N / (p + q) + q * N / (p + q) ≤ N ∧ N ≤ p * N / (p + q) + q * N / (p + q) + 1 := by
  have hs : p * N + q * N = N * (p + q) := by rw [← Nat.add_mul, Nat.mul_comm]
  have hf := floor_two (x := p * N) (y := q * N) h
  rwa [hs, Nat.mul_div_cancel _ h] at hf
theorem fshare_two {a b : Nat} (h : ¬ badShare a b 0) : fshare a b 0 + fshare b a 0 ≤ 4611686018427387904 ∧ 4611686018427387904 ≤ fshare a b 0 + fshare b a 0 + 1 ∧ (b ≤ a → fshare b a 0 ≤ fshare a b 0) := by
  have h' : ¬ badShare b a 0 := fun k => h ((badShare_comm _ _ _).1 k)
  have hp := half2_pos h
  have hc := half2_comm a b
  have hle := @half2_le a b
  rw [fshare_eq h, fshare_eq h', hc]
  obtain ⟨p, hp1⟩ : ∃ p, (half2 a b).1 = p := ⟨_, rfl⟩
  obtain ⟨q, hq1⟩ : ∃ q, (half2 a b).2 = q := ⟨_, rfl⟩
  rw [hp1, hq1] at hp hle ⊢
  obtain ⟨x1, x2⟩ := share_part hp
  obtain ⟨y1, y2⟩ := share_part (p := q) (q := p) (by omega)
  rw [Nat.add_comm q p] at y1 y2 ⊢
  have hm : q ≤ p → fover q (p + q) ≤ fover p (p + q) := fun k => fover_mono k (Nat.le_refl _) hp
  have hf := share_sum (N := 4611686018427387904) hp
  obtain ⟨u, hu⟩ : ∃ u, p * 4611686018427387904 / (p + q) = u := ⟨_, rfl⟩
  obtain ⟨v, hv⟩ : ∃ v, q * 4611686018427387904 / (p + q) = v := ⟨_, rfl⟩
  rw [hu] at x2 hf
  rw [hv] at y2 hf
  rw [x2] at x1 hm ⊢
  rw [y2] at y1 hm ⊢
  clear hu hv x2 y2
  refine ⟨by omega, by omega, fun hba => ?_⟩
  have := hm (hle hba)
  omega
end Go.Proofs.YtfdeafiidaepgaaDoor
