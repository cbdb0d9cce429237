/- Long division by two half digits, in plain numbers (after Knuth's algorithm D). -/
import Derived.Test.YtbbdimlpofjlfaaGreatDoorQSl
import Derived.Test.YtbbdimlpofjlfaaGreatDoorQLays
import Derived.Test.YtbbdimlpofjlfaaGreatDoorQQuiet
import Derived.Deep.DeepCutAuto
import Derived.Deep.CutBlock
namespace Go.Proofs.YtbbdimlpofjlfaaGreatDoor
open Go Go.RowKit

section
variable {u y d q r y1 y0 : Nat}
theorem kn_mul (hy : y = y1 * 4294967296 + y0) : q * y = q * y1 * 4294967296 + q * y0 := by
  rw [hy, Nat.mul_add, Nat.mul_assoc]
theorem kn_lt (hu : u < y) (hd : d < 4294967296) : (u * 4294967296 + d) / y < 4294967296 := by
  rw [Nat.div_lt_iff_lt_mul (by omega)]
  have : (u + 1) * 4294967296 ≤ y * 4294967296 := Nat.mul_le_mul_right _ hu
  omega
theorem kn_init (hy : y = y1 * 4294967296 + y0) (h1 : 0 < y1) (hd : d < 4294967296) : (u * 4294967296 + d) / y ≤ u / y1 := by
  rw [Nat.le_div_iff_mul_le h1]
  have h := Nat.div_mul_le_self (u * 4294967296 + d) y
  rw [kn_mul hy] at h
  omega
theorem kn_top (hy : y = y1 * 4294967296 + y0) (h0 : y0 < 4294967296) (h1 : 2147483648 ≤ y1) (hu : u < y) : u / y1 ≤ 4294967297 := by
  have : u / y1 < 4294967298 := by
    rw [Nat.div_lt_iff_lt_mul (by omega)]
    omega
  omega
theorem kn_stop (hy : y = y1 * 4294967296 + y0) (hpos : 0 < y) (h : q * y1 + r = u) (hQ : (u * 4294967296 + d) / y ≤ q) (hg : q * y0 ≤ 4294967296 * r + d) : q = (u * 4294967296 + d) / y := by
  refine Nat.le_antisymm ?_ hQ
  rw [Nat.le_div_iff_mul_le hpos, kn_mul hy]
  omega
theorem kn_more (hy : y = y1 * 4294967296 + y0) (hu : u < y) (hd : d < 4294967296) (h : q * y1 + r = u) (hg : 4294967296 * r + d < q * y0 ∨ 4294967296 ≤ q) : (u * 4294967296 + d) / y < q := by
  rcases hg with hg | hg
  · rw [Nat.div_lt_iff_lt_mul (by omega), kn_mul hy]
    omega
  · exact Nat.lt_of_lt_of_le (kn_lt hu hd) hg
theorem kn_break (h0 : y0 < 4294967296) (hr : 4294967296 ≤ r) (hq : q ≤ 4294967296) : q * y0 ≤ 4294967296 * r + d := by
  have : q * y0 ≤ 4294967296 * 4294967296 := Nat.mul_le_mul hq (Nat.le_of_lt h0)
  omega
/-- The two digits make the quotient. -/
theorem kn_join {a b : Nat} (hpos : 0 < y) : ((u * 4294967296 + a) / y) * 4294967296 + (((u * 4294967296 + a) % y) * 4294967296 + b) / y = (u * 18446744073709551616 + a * 4294967296 + b) / y := by
  have h := Nat.div_add_mod (u * 4294967296 + a) y
  obtain ⟨Q, hQ⟩ : ∃ Q, (u * 4294967296 + a) / y = Q := ⟨_, rfl⟩
  obtain ⟨R, hR⟩ : ∃ R, (u * 4294967296 + a) % y = R := ⟨_, rfl⟩
  rw [hQ, hR] at h ⊢
  have e : u * 18446744073709551616 + a * 4294967296 + b = (R * 4294967296 + b) + y * (Q * 4294967296) := by
    have e2 : y * (Q * 4294967296) = y * Q * 4294967296 := (Nat.mul_assoc y Q 4294967296).symm
    omega
  rw [e, Nat.add_mul_div_left _ _ hpos]
  exact Nat.add_comm _ _
/-- Both sides doubled so many times. -/
theorem kn_scale {n y p : Nat} (hp : 0 < p) : n * p / (y * p) = n / y := Nat.mul_div_mul_right _ _ hp
end
end Go.Proofs.YtbbdimlpofjlfaaGreatDoor
/- math/bits.Div64. -/
namespace Go.Proofs.YtbbdimlpofjlfaaGreatDoor
open Go Go.RowKit Go.Shelf Go.Proofs.Mul64

theorem bits_LeadingZeros64 (x : Int) (w : World) (h0 : 0 ≤ x) (h1 : x ≤ 18446744073709551615) :
    Calls Tryz.prog 256 #[.int .u64 x] w fun e w' => e = .returned (.int .i64 (64 - (Lib.bitLen x.toNat : Int))) ∧ w' = w := Any.bits_LeadingZeros64 Tryz.lays134 x w h0 h1

theorem Div64_small (lo y : Nat) (hl : lo < 18446744073709551616) (hy : y < 18446744073709551616) (h : 0 < y) (w : World) :
    Calls Tryz.prog 249 #[.int .u64 0, .int .u64 lo, .int .u64 y] w fun r w' => r = .returned (.tuple #[.int .u64 ((lo / y : Nat) : Int), .int .u64 ((lo % y : Nat) : Int)]) ∧ Keep w w' := by
  have hyI : (0 : Int) < y := by omega
  have hz : ((y : Int) == 0) = false := by rw [beq_eq_false_iff_ne]; omega
  have e1 : (lo : Int).tdiv (y : Int) = ((lo / y : Nat) : Int) := rfl
  have e2 : (lo : Int).tmod (y : Int) = ((lo % y : Nat) : Int) := rfl
  have hq : lo / y ≤ lo := Nat.div_le_self _ _
  have hr : lo % y ≤ lo := Nat.mod_le _ _
  obtain ⟨q, hq'⟩ : ∃ q, lo / y = q := ⟨_, rfl⟩
  obtain ⟨r, hr'⟩ : ∃ r, lo % y = r := ⟨_, rfl⟩
  rw [hq'] at e1 hq ⊢
  rw [hr'] at e2 hr ⊢
  have e3 : IntKind.u64.wrap (q : Int) = (q : Int) := wrapN _ (by omega)
  clear hq' hr'
  go_enter Tryz.func249, Tryz.ntmps249
  go_wp2
  go_quiet (fail)
  go_wp2
  go_ret2
  exact ⟨rfl, (Keep.refl _).drewN⟩
theorem wrapS (a b : Nat) (h : b ≤ a) (ha : a < 18446744073709551616) : IntKind.u64.wrap ((a : Int) - b) = ((a - b : Nat) : Int) := by rw [IntKind.wrap_u64]; omega
theorem div_low {u d Q Y R : Nat} (h : u * 4294967296 + d = Q * Y + R) (hR : R < 18446744073709551616) : ∃ V1 V2 V3 : Nat, IntKind.u64.wrap ((u : Int) * 4294967296) = (V1 : Int) ∧ IntKind.u64.wrap ((V1 : Int) + (d : Int)) = (V2 : Int) ∧
    IntKind.u64.wrap ((Q : Int) * (Y : Int)) = (V3 : Int) ∧ IntKind.u64.wrap ((V2 : Int) - (V3 : Int)) = (R : Int) := by
  obtain ⟨p, hp⟩ : ∃ p, Q * Y = p := ⟨_, rfl⟩
  rw [hp] at h
  refine ⟨u * 4294967296 % 18446744073709551616, (u * 4294967296 % 18446744073709551616 + d) % 18446744073709551616, p % 18446744073709551616, ?_, ?_, ?_, ?_⟩
  · rw [IntKind.wrap_u64]; omega
  · rw [IntKind.wrap_u64]; omega
  · rw [mulN, hp, wrapM]
  · rw [IntKind.wrap_u64]; omega
/-- The first half digit's mend, then the second one's: the walk of Div64 from its first loop on, over plain numbers. -/
theorem Div64_large (hi lo y s Y y1 y0 A B u low d1 d0 Q1 R1 Q0 T : Nat) (hs : s < 64) (_hl : lo < 18446744073709551616) (hh : 0 < hi) (h : hi < y) (hy : y < 18446744073709551616) (hb : Lib.bitLen y = 64 - s)
    (f1 : IntKind.u64.wrap ((y : Int) * 2 ^ s) = (Y : Int)) (f2 : (Y : Int) / 4294967296 = (y1 : Int)) (f3 : bits .and .u64 (Y : Int) 4294967295 = (y0 : Int)) (f4 : ¬ (y1 : Int) = 0)
    (f5 : IntKind.u64.wrap ((hi : Int) * 2 ^ s) = (A : Int)) (f6 : (lo : Int) / 2 ^ (64 - s) = (B : Int)) (f7 : bits .or .u64 (A : Int) (B : Int) = (u : Int))
    (f8 : IntKind.u64.wrap ((lo : Int) * 2 ^ s) = (low : Int)) (f9 : (low : Int) / 4294967296 = (d1 : Int)) (f10 : bits .and .u64 (low : Int) 4294967295 = (d0 : Int))
    (hY : Y = y1 * 4294967296 + y0) (hy0 : y0 < 4294967296) (hy1 : 2147483648 ≤ y1) (hy1' : y1 < 4294967296) (hd1 : d1 < 4294967296) (hd0 : d0 < 4294967296) (hu : u < Y)
    (hQ1 : (u * 4294967296 + d1) / Y = Q1) (hR1 : (u * 4294967296 + d1) % Y = R1) (hQ0 : (R1 * 4294967296 + d0) / Y = Q0) (hT : Q1 * 4294967296 + Q0 = T) (w : World) :
    Calls Tryz.prog 249 #[.int .u64 hi, .int .u64 lo, .int .u64 y] w fun r w' => ∃ m : Int, r = .returned (.tuple #[.int .u64 (T : Int), .int .u64 m]) ∧ Keep w w' := by
  have hz : ((y : Int) == 0) = false := by rw [beq_eq_false_iff_ne]; omega
  have hz2 : ((hi : Int) == 0) = false := by rw [beq_eq_false_iff_ne]; omega
  have hc := fun w => bits_LeadingZeros64 y w (by omega) (by omega)
  have e : (64 - (Lib.bitLen (y : Int).toNat : Int)) = s := by rw [Int.toNat_natCast, hb]; omega
  rw [e] at hc
  clear e hb
  have hcH := hide hc
  clear hc
  have g1 : (u : Int).tdiv (y1 : Int) = ((u / y1 : Nat) : Int) := rfl
  obtain ⟨q, hq⟩ : ∃ q, u / y1 = q := ⟨_, rfl⟩
  obtain ⟨r, hr⟩ : ∃ r, u % y1 = r := ⟨_, rfl⟩
  have hqr : q * y1 + r = u := by rw [← hq, ← hr, Nat.mul_comm]; exact Nat.div_add_mod u y1
  have hrl : r < y1 := by rw [← hr]; exact Nat.mod_lt _ (by omega)
  have hqt : q ≤ 4294967297 := by rw [← hq]; exact kn_top hY hy0 hy1 hu
  have hqQ : Q1 ≤ q := by rw [← hq, ← hQ1]; exact kn_init hY (by omega) hd1
  rw [hq] at g1
  obtain ⟨m, hm⟩ : ∃ m, q * y1 = m := ⟨_, rfl⟩
  have g2 : IntKind.u64.wrap (q : Int) = (q : Int) := wrapN _ (by omega)
  have g3 : (q : Int) * (y1 : Int) = (m : Int) := by rw [mulN, hm]
  have g4 : IntKind.u64.wrap (m : Int) = (m : Int) := wrapN _ (by omega)
  have g5 : IntKind.u64.wrap ((u : Int) - (m : Int)) = (r : Int) := by rw [wrapS _ _ (by omega) (by omega)]; omega
  have hm := hide hm
  have hqrH := hide hqr
  have hQ1 := hide hQ1
  have hR1 := hide hR1
  have hQ0 := hide hQ0
  have hTH := hide hT
  clear hT
  have hYH := hide hY
  clear hq hr hqr hY
  go_enter Tryz.func249, Tryz.ntmps249
  go_upto_block 0 with (go_at_call 256; refine (hcH.out _).mono ?_; rintro r w1 ⟨rfl, rfl⟩)
  go_cut [15, 16] (fun a b wr => a = .int .u64 Q1 ∧ wr = w1)
  case first =>
    go_wp2
    go_loop [15, 16] (fun q r => ∃ a b : Nat, q = .int .u64 a ∧ r = .int .u64 b ∧ a * y1 + b = u ∧ Q1 ≤ a ∧ a ≤ 4294967297 ∧ b < 4294967296) (fun q r => (intOf q).toNat)
    case atStart => exact ⟨q, r, rfl, rfl, hqrH.out, hqQ, hqt, by omega⟩
    case round =>
      obtain ⟨a, b, rfl, rfl, hab, hQa, hat, hbl⟩ := hrel
      have habH := hide hab
      clear hab
      have i1 : (a : Int) * (y0 : Int) = ((a * y0 : Nat) : Int) := mulN a y0
      have i2 : 4294967296 * (b : Int) = ((4294967296 * b : Nat) : Int) := by omega
      have i3 : IntKind.u64.wrap ((4294967296 * b : Nat) : Int) = ((4294967296 * b : Nat) : Int) := wrapN _ (by omega)
      have i4 : ((4294967296 * b : Nat) : Int) + (d1 : Int) = ((4294967296 * b + d1 : Nat) : Int) := addN _ _
      have i5 : IntKind.u64.wrap ((4294967296 * b + d1 : Nat) : Int) = ((4294967296 * b + d1 : Nat) : Int) := wrapN _ (by omega)
      obtain ⟨n, hn⟩ : ∃ n, 4294967296 * b = n := ⟨_, rfl⟩
      obtain ⟨n', hn'⟩ : ∃ n', 4294967296 * b + d1 = n' := ⟨_, rfl⟩
      obtain ⟨t, ht⟩ : ∃ t, a * y0 = t := ⟨_, rfl⟩
      rw [ht] at i1
      rw [hn'] at i4 i5
      rw [hn] at i2 i3 i4
      have hn := hide hn
      have hn' := hide hn'
      have htH := hide ht
      have hstop : a < 4294967296 → t ≤ n' → a = Q1 := fun _ hg => by
        have := kn_stop (d := d1) hYH.out (by omega) habH.out (by rw [hQ1.out]; exact hQa) (by rw [ht, hn'.out]; exact hg)
        rw [hQ1.out] at this
        exact this
      have hmore : 4294967296 ≤ a ∨ n' < t → Q1 < a := fun hg => by
        have := kn_more (d := d1) hYH.out hu hd1 habH.out (by rw [ht, hn'.out]; omega)
        rw [hQ1.out] at this
        exact this
      have hstop := hide hstop
      have hmore := hide hmore
      have j2 : IntKind.u64.wrap ((b : Int) + (y1 : Int)) = ((b + y1 : Nat) : Int) := by rw [addN]; exact wrapN _ (by omega)
      have hbody : Hide (∀ a', a' + 1 = a → Q1 < a → 4294967296 ≤ b + y1 → a' = Q1) := ⟨fun a' ha' hlt hb => by
        have e1 : a' * y1 + (b + y1) = u := by rw [← habH.out, ← ha', Nat.add_mul]; omega
        have := kn_stop (d := d1) hYH.out (by omega) e1 (by rw [hQ1.out]; omega) (kn_break hy0 hb (by omega))
        rw [hQ1.out] at this
        exact this⟩
      clear ht
      obtain ⟨c, hcc⟩ : ∃ c, b + y1 = c := ⟨_, rfl⟩
      rw [hcc] at j2 hbody
      have hcc := hide hcc
      have htl : a < 4294967296 → t < 18446744073709551616 := fun hA => by
        rw [← htH.out]
        rcases Nat.eq_zero_or_pos a with h0 | h0
        · rw [h0]; omega
        · exact Nat.lt_of_lt_of_le (Nat.mul_lt_mul_of_pos_left hy0 h0) (Nat.mul_le_mul_right 4294967296 (by omega : a ≤ 4294967296))
      by_cases hg : a < 4294967296 ∧ t ≤ n'
      · have hA' : ¬ (4294967296 : Int) ≤ a := by omega
        have hg' : ¬ (n' : Int) < t := by omega
        have i6 : IntKind.u64.wrap (t : Int) = (t : Int) := wrapN _ (htl hg.1)
        obtain rfl := hstop.out hg.1 hg.2
        clear htl
        go_wp2
        go_meet
        case rel => exact ⟨rfl, rfl⟩
      · have hlt := hmore.out (by omega)
        have hcase : (4294967296 : Int) ≤ a ∨ (¬ (4294967296 : Int) ≤ a ∧ (n' : Int) < t ∧ IntKind.u64.wrap (t : Int) = (t : Int)) := by
          by_cases hA : 4294967296 ≤ a
          · exact .inl (by omega)
          · exact .inr ⟨by omega, by omega, wrapN _ (htl (by omega))⟩
        clear htl
        obtain ⟨a', ha'⟩ : ∃ a', a' + 1 = a := ⟨a - 1, by omega⟩
        have j1 : IntKind.u64.wrap ((a : Int) - 1) = (a' : Int) := by rw [← ha', IntKind.wrap_u64]; omega
        have ha' := hide ha'
        by_cases hC : 4294967296 ≤ c
        · have hC' : (4294967296 : Int) ≤ c := by omega
          obtain rfl := hbody.out a' ha'.out hlt (by omega)
          rcases hcase with hA' | ⟨hA', hg', i6⟩
          all_goals
            go_wp2
            go_meet
            case rel => exact ⟨rfl, rfl⟩
        · have hC' : ¬ (4294967296 : Int) ≤ c := by omega
          rcases hcase with hA' | ⟨hA', hg', i6⟩
          all_goals
            go_wp2
            go_round
            case rel => exact ⟨a', c, rfl, rfl, by rw [← hcc.out, ← habH.out, ← ha'.out, Nat.add_mul]; omega, by have := ha'.out; omega, by have := ha'.out; omega, by omega⟩
            case measure => (have := ha'.out; simp [intOf]; omega)
  obtain ⟨rfl, rfl⟩ := hcut
  have hu2 : R1 < Y := by rw [← hR1.out]; exact Nat.mod_lt _ (by omega)
  obtain ⟨V1, V2, V3, k1, k2, k3, k4⟩ := div_low (u := u) (d := d1) (Q := Q1) (Y := Y) (R := R1) (by rw [← hQ1.out, ← hR1.out, Nat.mul_comm _ Y]; exact (Nat.div_add_mod _ _).symm) (by omega)
  clear g1 g2 g3 g4 g5
  have hQ0' := hQ0.out
  have hY := hYH.out
  have g1 : (R1 : Int).tdiv (y1 : Int) = ((R1 / y1 : Nat) : Int) := rfl
  obtain ⟨q, hq⟩ : ∃ q, R1 / y1 = q := ⟨_, rfl⟩
  obtain ⟨r, hr⟩ : ∃ r, R1 % y1 = r := ⟨_, rfl⟩
  have hqr : q * y1 + r = R1 := by rw [← hq, ← hr, Nat.mul_comm]; exact Nat.div_add_mod R1 y1
  have hrl : r < y1 := by rw [← hr]; exact Nat.mod_lt _ (by omega)
  have hqt : q ≤ 4294967297 := by rw [← hq]; exact kn_top hY hy0 hy1 hu2
  have hqQ : Q0 ≤ q := by rw [← hq, ← hQ0']; exact kn_init hY (by omega) hd0
  rw [hq] at g1
  obtain ⟨m, hm⟩ : ∃ m, q * y1 = m := ⟨_, rfl⟩
  have g2 : IntKind.u64.wrap (q : Int) = (q : Int) := wrapN _ (by omega)
  have g3 : (q : Int) * (y1 : Int) = (m : Int) := by rw [mulN, hm]
  have g4 : IntKind.u64.wrap (m : Int) = (m : Int) := wrapN _ (by omega)
  have g5 : IntKind.u64.wrap ((R1 : Int) - (m : Int)) = (r : Int) := by rw [wrapS _ _ (by omega) (by omega)]; omega
  have hm := hide hm
  have hqrH := hide hqr
  clear hq hr hqr hQ0' hY
  go_upto_block 2 with fail
  go_cut [18, 16] (fun a b wr => a = .int .u64 Q0 ∧ wr = wc)
  case first =>
    go_wp2
    go_loop [18, 16] (fun q r => ∃ a b : Nat, q = .int .u64 a ∧ r = .int .u64 b ∧ a * y1 + b = R1 ∧ Q0 ≤ a ∧ a ≤ 4294967297 ∧ b < 4294967296) (fun q r => (intOf q).toNat)
    case atStart => exact ⟨q, r, rfl, rfl, hqrH.out, hqQ, hqt, by omega⟩
    case round =>
      obtain ⟨a, b, rfl, rfl, hab, hQa, hat, hbl⟩ := hrel
      have habH := hide hab
      clear hab
      have i1 : (a : Int) * (y0 : Int) = ((a * y0 : Nat) : Int) := mulN a y0
      have i2 : 4294967296 * (b : Int) = ((4294967296 * b : Nat) : Int) := by omega
      have i3 : IntKind.u64.wrap ((4294967296 * b : Nat) : Int) = ((4294967296 * b : Nat) : Int) := wrapN _ (by omega)
      have i4 : ((4294967296 * b : Nat) : Int) + (d0 : Int) = ((4294967296 * b + d0 : Nat) : Int) := addN _ _
      have i5 : IntKind.u64.wrap ((4294967296 * b + d0 : Nat) : Int) = ((4294967296 * b + d0 : Nat) : Int) := wrapN _ (by omega)
      obtain ⟨n, hn⟩ : ∃ n, 4294967296 * b = n := ⟨_, rfl⟩
      obtain ⟨n', hn'⟩ : ∃ n', 4294967296 * b + d0 = n' := ⟨_, rfl⟩
      obtain ⟨t, ht⟩ : ∃ t, a * y0 = t := ⟨_, rfl⟩
      rw [ht] at i1
      rw [hn'] at i4 i5
      rw [hn] at i2 i3 i4
      have hn := hide hn
      have hn' := hide hn'
      have htH := hide ht
      have hstop : a < 4294967296 → t ≤ n' → a = Q0 := fun _ hg => by
        have := kn_stop (d := d0) hYH.out (by omega) habH.out (by rw [hQ0.out]; exact hQa) (by rw [ht, hn'.out]; exact hg)
        rw [hQ0.out] at this
        exact this
      have hmore : 4294967296 ≤ a ∨ n' < t → Q0 < a := fun hg => by
        have := kn_more (d := d0) hYH.out hu2 hd0 habH.out (by rw [ht, hn'.out]; omega)
        rw [hQ0.out] at this
        exact this
      have hstop := hide hstop
      have hmore := hide hmore
      have j2 : IntKind.u64.wrap ((b : Int) + (y1 : Int)) = ((b + y1 : Nat) : Int) := by rw [addN]; exact wrapN _ (by omega)
      have hbody : Hide (∀ a', a' + 1 = a → Q0 < a → 4294967296 ≤ b + y1 → a' = Q0) := ⟨fun a' ha' hlt hb => by
        have e1 : a' * y1 + (b + y1) = R1 := by rw [← habH.out, ← ha', Nat.add_mul]; omega
        have := kn_stop (d := d0) hYH.out (by omega) e1 (by rw [hQ0.out]; omega) (kn_break hy0 hb (by omega))
        rw [hQ0.out] at this
        exact this⟩
      clear ht
      obtain ⟨c, hcc⟩ : ∃ c, b + y1 = c := ⟨_, rfl⟩
      rw [hcc] at j2 hbody
      have hcc := hide hcc
      have htl : a < 4294967296 → t < 18446744073709551616 := fun hA => by
        rw [← htH.out]
        rcases Nat.eq_zero_or_pos a with h0 | h0
        · rw [h0]; omega
        · exact Nat.lt_of_lt_of_le (Nat.mul_lt_mul_of_pos_left hy0 h0) (Nat.mul_le_mul_right 4294967296 (by omega : a ≤ 4294967296))
      by_cases hg : a < 4294967296 ∧ t ≤ n'
      · have hA' : ¬ (4294967296 : Int) ≤ a := by omega
        have hg' : ¬ (n' : Int) < t := by omega
        have i6 : IntKind.u64.wrap (t : Int) = (t : Int) := wrapN _ (htl hg.1)
        obtain rfl := hstop.out hg.1 hg.2
        clear htl
        go_wp2
        go_meet
        case rel => exact ⟨rfl, rfl⟩
      · have hlt := hmore.out (by omega)
        have hcase : (4294967296 : Int) ≤ a ∨ (¬ (4294967296 : Int) ≤ a ∧ (n' : Int) < t ∧ IntKind.u64.wrap (t : Int) = (t : Int)) := by
          by_cases hA : 4294967296 ≤ a
          · exact .inl (by omega)
          · exact .inr ⟨by omega, by omega, wrapN _ (htl (by omega))⟩
        clear htl
        obtain ⟨a', ha'⟩ : ∃ a', a' + 1 = a := ⟨a - 1, by omega⟩
        have j1 : IntKind.u64.wrap ((a : Int) - 1) = (a' : Int) := by rw [← ha', IntKind.wrap_u64]; omega
        have ha' := hide ha'
        by_cases hC : 4294967296 ≤ c
        · have hC' : (4294967296 : Int) ≤ c := by omega
          obtain rfl := hbody.out a' ha'.out hlt (by omega)
          rcases hcase with hA' | ⟨hA', hg', i6⟩
          all_goals
            go_wp2
            go_meet
            case rel => exact ⟨rfl, rfl⟩
        · have hC' : ¬ (4294967296 : Int) ≤ c := by omega
          rcases hcase with hA' | ⟨hA', hg', i6⟩
          all_goals
            go_wp2
            go_round
            case rel => exact ⟨a', c, rfl, rfl, by rw [← hcc.out, ← habH.out, ← ha'.out, Nat.add_mul]; omega, by have := ha'.out; omega, by have := ha'.out; omega, by omega⟩
            case measure => (have := ha'.out; simp [intOf]; omega)
  obtain ⟨rfl, rfl⟩ := hcut
  have l1 : Q1 < 4294967296 := by rw [← hQ1.out]; exact kn_lt hu hd1
  have l0 : Q0 < 4294967296 := by rw [← hQ0.out]; exact kn_lt hu2 hd0
  obtain ⟨M, hM⟩ : ∃ M, Q1 * 4294967296 = M := ⟨_, rfl⟩
  have k5 : IntKind.u64.wrap ((Q1 : Int) * 4294967296) = (M : Int) := by rw [IntKind.wrap_u64]; omega
  have k6 : IntKind.u64.wrap ((M : Int) + (Q0 : Int)) = (T : Int) := by have := hTH.out; rw [IntKind.wrap_u64]; omega
  clear hM
  go_wp2
  go_ret2
  exact ⟨_, rfl, Keep.refl _⟩
theorem Div64_big (hi lo y : Nat) (hl : lo < 18446744073709551616) (hh : 0 < hi) (h : hi < y) (hy : y < 18446744073709551616) (w : World) :
    Calls Tryz.prog 249 #[.int .u64 hi, .int .u64 lo, .int .u64 y] w fun r w' => ∃ m : Int, r = .returned (.tuple #[.int .u64 (((hi * 18446744073709551616 + lo) / y : Nat) : Int), .int .u64 m]) ∧ Keep w w' := by
  obtain ⟨k, hk, hk1, hk2, hbl⟩ : ∃ k, k < 64 ∧ 2 ^ k ≤ y ∧ y < 2 ^ (k + 1) ∧ Lib.bitLen y = k + 1 := by
    have h0 : y ≠ 0 := by omega
    have a1 := Nat.log2_self_le h0
    have a2 : y < 2 ^ (Nat.log2 y + 1) := Nat.lt_log2_self
    have a3 : Nat.log2 y < 64 := (Nat.log2_lt h0).2 hy
    refine ⟨Nat.log2 y, a3, a1, a2, ?_⟩
    have a4 := Lib.bitLen_shift (Nat.log2 y) y a1 hy
    have a5 : y / 2 ^ Nat.log2 y = 1 := by
      refine Nat.div_eq_of_lt_le (by omega) ?_
      rw [Nat.pow_succ] at a2
      omega
    rw [a4, a5]
    rfl
  obtain ⟨s, hs⟩ : ∃ s, 63 - k = s := ⟨_, rfl⟩
  have hp : 2 ^ k * 2 ^ s = 9223372036854775808 := by rw [← Nat.pow_add, show k + s = 63 by omega]
  have hp2 : 2 ^ s * 2 ^ (64 - s) = 18446744073709551616 := by rw [← Nat.pow_add, show s + (64 - s) = 64 by omega]
  have hp3 : 2 ^ (k + 1) * 2 ^ s = 18446744073709551616 := by rw [← Nat.pow_add, show k + 1 + s = 64 by omega]
  have hpos : 0 < 2 ^ s := Nat.two_pow_pos s
  have hpos2 : 0 < 2 ^ (64 - s) := Nat.two_pow_pos _
  have hY1 : 9223372036854775808 ≤ y * 2 ^ s := by rw [← hp]; exact Nat.mul_le_mul_right _ hk1
  have hY2 : y * 2 ^ s < 18446744073709551616 := by rw [← hp3]; exact Nat.mul_lt_mul_of_pos_right hk2 hpos
  have hB : lo / 2 ^ (64 - s) < 2 ^ s := by rw [Nat.div_lt_iff_lt_mul hpos2, hp2]; exact hl
  have hlow : lo * 2 ^ s / 18446744073709551616 = lo / 2 ^ (64 - s) := by rw [← hp2, Nat.mul_comm lo, Nat.mul_div_mul_left _ _ hpos]
  have hA : (hi + 1) * 2 ^ s ≤ y * 2 ^ s := Nat.mul_le_mul_right _ h
  rw [Nat.add_mul, Nat.one_mul] at hA
  have hU : hi * 2 ^ s ||| lo / 2 ^ (64 - s) = hi * 2 ^ s + lo / 2 ^ (64 - s) := by
    have := Nat.shiftLeft_add_eq_or_of_lt hB hi
    rw [Nat.shiftLeft_eq] at this
    exact this.symm
  obtain ⟨Y, eY⟩ : ∃ Y, y * 2 ^ s = Y := ⟨_, rfl⟩
  obtain ⟨A, eA⟩ : ∃ A, hi * 2 ^ s = A := ⟨_, rfl⟩
  obtain ⟨B, eB⟩ : ∃ B, lo / 2 ^ (64 - s) = B := ⟨_, rfl⟩
  obtain ⟨L, eL⟩ : ∃ L, lo * 2 ^ s = L := ⟨_, rfl⟩
  rw [eY] at hY1 hY2 hA
  rw [eA] at hA hU
  rw [eB] at hB hlow hU
  rw [eL] at hlow
  have hkey : (hi * 18446744073709551616 + lo) / y = (((A + B) * 18446744073709551616 + (L % 18446744073709551616) / 4294967296 * 4294967296 + (L % 18446744073709551616) % 4294967296)) / Y := by
    have h1 := Nat.mul_div_mul_right (hi * 18446744073709551616 + lo) y hpos
    rw [Nat.add_mul, eL, Nat.mul_right_comm, eA, eY] at h1
    rw [← h1]
    have h2 : A * 18446744073709551616 + L = (A + B) * 18446744073709551616 + (L % 18446744073709551616) / 4294967296 * 4294967296 + (L % 18446744073709551616) % 4294967296 := by omega
    rw [h2]
  rw [hkey, ← kn_join (by omega)]
  have pw : ((2 : Int) ^ s) = ((2 ^ s : Nat) : Int) := by rw [Int.natCast_pow]; rfl
  have pw2 : ((2 : Int) ^ (64 - s)) = ((2 ^ (64 - s) : Nat) : Int) := by rw [Int.natCast_pow]; rfl
  exact Div64_large hi lo y s Y (Y / 4294967296) (Y % 4294967296) A B (A + B) (L % 18446744073709551616) (L % 18446744073709551616 / 4294967296) (L % 18446744073709551616 % 4294967296) _ _ _ _ (by omega) hl hh h hy (by omega)
    (by rw [pw, mulN, eY]; exact wrapN _ hY2) (divN _) (maskN _ hY2) (by omega)
    (by rw [pw, mulN, eA]; exact wrapN _ (by omega)) (by rw [pw2, ← Int.natCast_ediv, eB]) (by rw [bits_or_u64_nat _ _ (by omega) (by omega), hU])
    (by rw [pw, mulN, eL]; exact wrapM _) (divN _) (maskN _ (by omega)) (by omega) (by omega) (by omega) (by omega) (by omega) (by omega) (by omega) rfl rfl rfl rfl w
end Go.Proofs.YtbbdimlpofjlfaaGreatDoor
/- The contracts of the package fix: over, fault, Div, Whole. -/
namespace Go.Proofs.YtbbdimlpofjlfaaGreatDoor
open Go Go.RowKit Go.Shelf Go.Proofs.Mul64

theorem Keep.holds {w w' : World} (k : Keep w w') : Holds w w' [] := (Holds.start w).keep k
theorem Div64_any (hi lo y : Nat) (hl : lo < 18446744073709551616) (h : hi < y) (hy : y < 18446744073709551616) (w : World) :
    Calls Tryz.prog 249 #[.int .u64 hi, .int .u64 lo, .int .u64 y] w fun r w' => ∃ m : Int, r = .returned (.tuple #[.int .u64 (((hi * 18446744073709551616 + lo) / y : Nat) : Int), .int .u64 m]) ∧ Keep w w' := by
  rcases Nat.eq_zero_or_pos hi with rfl | h0
  · rw [Nat.zero_mul, Nat.zero_add]
    refine (Div64_small lo y hl hy (by omega) w).mono ?_
    rintro e w' ⟨rfl, hk⟩
    exact ⟨_, rfl, hk⟩
  · exact Div64_big hi lo y hl h0 h hy w
theorem Fix_over (a b : Nat) (_ha : a < 18446744073709551616) (hb : b < 18446744073709551616) (h0 : 0 < b) (w : World) :
    Calls Tryz.prog 223 #[.int .u64 a, .int .u64 b] w fun r w' => r = .returned (.int .u64 (fover a b : Nat)) ∧ Keep w w' := by
  obtain ⟨hi, hhi⟩ : ∃ hi, a / 4 = hi := ⟨_, rfl⟩
  obtain ⟨lo, hlo⟩ : ∃ lo, a * 4611686018427387904 % 18446744073709551616 = lo := ⟨_, rfl⟩
  have e1 : (a : Int) / 4 = (hi : Int) := by omega
  have e2 : IntKind.u64.wrap ((a : Int) * 4611686018427387904) = (lo : Int) := by rw [IntKind.wrap_u64]; omega
  have hsum : a * 4611686018427387904 = hi * 18446744073709551616 + lo := by omega
  have hll : lo < 18446744073709551616 := by omega
  unfold fover
  rw [hsum]
  clear hhi hlo hsum
  by_cases hc : b ≤ hi
  · have hc' : (b : Int) ≤ hi := by omega
    have hge : ¬ (hi * 18446744073709551616 + lo) / b < 18446744073709551616 := by
      rw [Nat.div_lt_iff_lt_mul h0]
      have := Nat.mul_le_mul_left 18446744073709551616 hc
      omega
    rw [if_neg hge]
    clear hge
    go_enter Tryz.func223, Tryz.ntmps223
    go_wp2
    go_ret
    exact ⟨rfl, Keep.refl _⟩
  · have hc' : ¬ (b : Int) ≤ hi := by omega
    have hlt : (hi * 18446744073709551616 + lo) / b < 18446744073709551616 := by
      rw [Nat.div_lt_iff_lt_mul h0]
      have := Nat.mul_le_mul_left 18446744073709551616 (show hi + 1 ≤ b by omega)
      omega
    rw [if_pos hlt]
    have hd := hide (Div64_any hi lo b hll (by omega) hb w)
    obtain ⟨q, hq⟩ : ∃ q, (hi * 18446744073709551616 + lo) / b = q := ⟨_, rfl⟩
    rw [hq] at hd ⊢
    clear hlt hq
    go_enter Tryz.func223, Tryz.ntmps223
    go_wp2_with (go_at_call 249; (with_reducible refine hd.out.mono ?_); rintro r w1 ⟨m, rfl, hk⟩; have hk := hide hk)
    go_ret
    exact ⟨rfl, hk.out⟩
theorem Fix_fault (op : ByteArray) (w : World) :
    Calls Tryz.prog 222 #[.string op] w fun r w' => ∃ v, r = .returned v ∧ Keep w w' ∧ ErrAt w' (.fault op ⟨#[]⟩ (.no 1)) v := by
  go_enter Tryz.func222, Tryz.ntmps222
  go_wp2
  go_ret
  refine ⟨_, rfl, (Keep.refl _).alloc, ?_⟩
  exact (Holds.mkErr (L := []) rfl (Holds.start w).alloc).errAt

/-! ### Quotients -/
def fdiv (a b : Nat) : Nat := if b = 0 then 0 else fover a b
def divE (b : Nat) : EV := if b = 0 then .fault ⟨#[100, 105, 118]⟩ ⟨#[]⟩ (.no 1) else .nil
def fwhole (m n : Int) : Nat := if m < 0 ∨ n ≤ 0 then 0 else fover m.toNat n.toNat
def wholeE (m n : Int) : EV := if m < 0 ∨ n ≤ 0 then .fault ⟨#[119, 104, 111, 108, 101]⟩ ⟨#[]⟩ (.no 1) else .nil
theorem Fix_Div (a b : Nat) (ha : a < 18446744073709551616) (hb : b < 18446744073709551616) (w : World) :
    Calls Tryz.prog 334 #[.int .u64 a, .int .u64 b] w fun r w' => ∃ v, r = .returned (.tuple #[.int .u64 (fdiv a b : Nat), v]) ∧ Keep w w' ∧ ErrAt w' (divE b) v := by
  unfold fdiv divE
  rcases Nat.eq_zero_or_pos b with rfl | h0
  · rw [if_pos rfl, if_pos rfl]
    go_enter Tryz.func334, Tryz.ntmps334
    go_wp2_with (go_at_call 222; (with_reducible refine (Fix_fault _ _).mono ?_); rintro r w1 ⟨v, rfl, hk, he⟩; have hk := hide hk; have he := hide he)
    go_ret2
    exact ⟨v, rfl, hk.out, he.out⟩
  · have hz : ((b : Int) == 0) = false := by rw [beq_eq_false_iff_ne]; omega
    have hz' : ¬ (b : Int) = 0 := by omega
    have hH := hide h0
    rw [if_neg (by omega), if_neg (by omega)]
    clear h0
    go_enter Tryz.func334, Tryz.ntmps334
    go_wp2_with (go_at_call 223; (with_reducible refine (Fix_over a b ha hb hH.out _).mono ?_); rintro r w1 ⟨rfl, hk⟩; have hk := hide hk)
    go_ret2
    exact ⟨.nilIface, rfl, hk.out, rfl⟩
theorem Fix_Whole_bad (m n : Int) (h : m < 0 ∨ n ≤ 0) (w : World) :
    Calls Tryz.prog 159 #[.int .i64 m, .int .i64 n] w fun r w' => ∃ v, r = .returned (.tuple #[.int .u64 (fwhole m n : Nat), v]) ∧ Keep w w' ∧ ErrAt w' (wholeE m n) v := by
  unfold fwhole wholeE
  rw [if_pos h, if_pos h]
  by_cases h1 : m < 0
  · clear h
    go_enter Tryz.func159, Tryz.ntmps159
    go_wp2_with (go_at_call 222; (with_reducible refine (Fix_fault _ _).mono ?_); rintro r w1 ⟨v, rfl, hk, he⟩; have hk := hide hk; have he := hide he)
    go_ret2
    exact ⟨v, rfl, hk.out, he.out⟩
  · have h2 : n ≤ 0 := by omega
    clear h
    go_enter Tryz.func159, Tryz.ntmps159
    go_wp2_with (go_at_call 222; (with_reducible refine (Fix_fault _ _).mono ?_); rintro r w1 ⟨v, rfl, hk, he⟩; have hk := hide hk; have he := hide he)
    go_ret2
    exact ⟨v, rfl, hk.out, he.out⟩
theorem Fix_Whole_ok (a b : Nat) (ha : a < 9223372036854775808) (hb : b < 9223372036854775808) (h0 : 0 < b) (w : World) :
    Calls Tryz.prog 159 #[.int .i64 a, .int .i64 b] w fun r w' => r = .returned (.tuple #[.int .u64 (fover a b : Nat), .nilIface]) ∧ Keep w w' := by
  have e1 : ¬ (a : Int) < 0 := by omega
  have e2 : ¬ (b : Int) ≤ 0 := by omega
  have e3 : IntKind.u64.wrap (a : Int) = (a : Int) := wrapN _ (by omega)
  have e4 : IntKind.u64.wrap (b : Int) = (b : Int) := wrapN _ (by omega)
  have hH := hide h0
  clear h0
  go_enter Tryz.func159, Tryz.ntmps159
  go_wp2_with (go_at_call 223; (with_reducible refine (Fix_over a b (by omega) (by omega) hH.out _).mono ?_); rintro r w1 ⟨rfl, hk⟩; have hk := hide hk)
  go_ret2
  exact ⟨rfl, hk.out⟩
theorem Fix_Whole (m n : Int) (hm : -9223372036854775808 ≤ m ∧ m ≤ 9223372036854775807) (hn : -9223372036854775808 ≤ n ∧ n ≤ 9223372036854775807) (w : World) :
    Calls Tryz.prog 159 #[.int .i64 m, .int .i64 n] w fun r w' => ∃ v, r = .returned (.tuple #[.int .u64 (fwhole m n : Nat), v]) ∧ Keep w w' ∧ ErrAt w' (wholeE m n) v := by
  by_cases h : m < 0 ∨ n ≤ 0
  · exact Fix_Whole_bad m n h w
  · obtain ⟨a, rfl⟩ : ∃ a : Nat, m = a := ⟨m.toNat, by omega⟩
    obtain ⟨b, rfl⟩ : ∃ b : Nat, n = b := ⟨n.toNat, by omega⟩
    unfold fwhole wholeE
    rw [if_neg h, if_neg h, Int.toNat_natCast, Int.toNat_natCast]
    refine (Fix_Whole_ok a b (by omega) (by omega) (by omega) w).mono ?_
    rintro e w' ⟨rfl, hk⟩
    exact ⟨.nilIface, rfl, hk, rfl⟩
end Go.Proofs.YtbbdimlpofjlfaaGreatDoor
