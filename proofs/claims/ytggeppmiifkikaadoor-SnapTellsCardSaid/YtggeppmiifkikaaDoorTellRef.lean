/- The document's small functions: the product, the hash, bytes, which items and which set-ups may be. -/
import Derived.Test.YtggeppmiifkikaaDoorSnapHash
namespace Go.Proofs.YtggeppmiifkikaaDoor
open Go Go.RowKit

set_option maxRecDepth 100000 in
theorem Ref_times (a b : Nat) (ha : a < 18446744073709551616) (hb : b < 18446744073709551616) (w : World) :
    Calls Tryd.prog 50 #[.int .u64 a, .int .u64 b] w fun r w' => r = .returned (.int .u64 (b * a % 18446744073709551616 : Nat)) ∧ w = w' := by
  obtain ⟨t, ht⟩ : ∃ t, b * a % 18446744073709551616 = t := ⟨_, rfl⟩
  rw [ht]
  have ht := hide ht
  go_enter Tryd.func50, Tryd.ntmps50
  go_wp2
  go_loop [0, 1, 5] (fun x y p => ∃ (k l m : Nat), x = .int .u64 k ∧ y = .int .u64 l ∧ p = .int .u64 m ∧ k < 18446744073709551616 ∧ l < 18446744073709551616 ∧ m < 18446744073709551616 ∧ Hide ((m + l * k) % 18446744073709551616 = t)) (fun _ y _ => (intOf y).toNat)
  case atStart => exact ⟨a, b, 0, rfl, rfl, rfl, ha, hb, by omega, ⟨by rw [Nat.zero_add]; exact ht.out⟩⟩
  case round =>
    obtain ⟨k, l, m, rfl, rfl, rfl, hk, hl, hm, hR⟩ := hrel
    have g1 : IntKind.u64.wrap ((k : Int) + k) = ((k + k) % 18446744073709551616 : Nat) := by rw [IntKind.wrap_u64]; omega
    obtain ⟨k2, hk2⟩ : ∃ k2, (k + k) % 18446744073709551616 = k2 := ⟨_, rfl⟩
    have hk2l : k2 < 18446744073709551616 := by omega
    have g2 : (l : Int) / 2 = ((l / 2 : Nat) : Int) := by omega
    obtain ⟨l2, hl2⟩ : ∃ l2, l / 2 = l2 := ⟨_, rfl⟩
    have hl2l : l2 < 18446744073709551616 := by omega
    rw [hk2] at g1
    rw [hl2] at g2
    by_cases h0 : l = 0
    · subst h0
      have hR0 : m = t := by have := hR.out; rw [Nat.zero_mul, Nat.add_zero, Nat.mod_eq_of_lt hm] at this; exact this
      subst hR0
      clear hR hk2 hl2 g1 g2 ht
      go_wp2
      go_ret
      exact ⟨rfl, rfl⟩
    · have h0' : (0 : Int) < l := by omega
      by_cases h1 : l % 2 = 1
      · have h1' : ((l : Int) % 2 == 1) = true := by rw [beq_iff_eq]; omega
        have g3 : IntKind.u64.wrap ((m : Int) + k) = ((m + k) % 18446744073709551616 : Nat) := by rw [IntKind.wrap_u64]; omega
        obtain ⟨m2, hm2⟩ : ∃ m2, (m + k) % 18446744073709551616 = m2 := ⟨_, rfl⟩
        have hm2l : m2 < 18446744073709551616 := by omega
        rw [hm2] at g3
        have hN : Hide ((m2 + l2 * k2) % 18446744073709551616 = t) := ⟨by
          rw [← hR.out, ← hm2, ← hk2, Nat.add_mod, Nat.mod_mod, Nat.mul_mod, Nat.mod_mod, ← Nat.mul_mod, ← Nat.add_mod]
          congr 1
          have : l = 2 * l2 + 1 := by omega
          rw [this, Nat.add_mul, Nat.one_mul, Nat.mul_add, Nat.mul_assoc 2, Nat.two_mul]
          omega⟩
        have hms : Hide (l2 < l) := ⟨by omega⟩
        clear hR hk2 hl2 hm2 h1 h0 ht
        go_wp2
        go_round
        case rel => exact ⟨k2, l2, m2, rfl, rfl, rfl, hk2l, hl2l, hm2l, hN⟩
        case measure => (have := hms.out; simp [intOf] <;> omega)
      · have h1' : ((l : Int) % 2 == 1) = false := by rw [beq_eq_false_iff_ne]; omega
        have hN : Hide ((m + l2 * k2) % 18446744073709551616 = t) := ⟨by
          rw [← hR.out, ← hk2, Nat.add_mod, Nat.mul_mod, Nat.mod_mod, ← Nat.mul_mod, ← Nat.add_mod]
          congr 1
          have : l = 2 * l2 := by omega
          rw [this, Nat.mul_add, Nat.mul_assoc 2, Nat.two_mul]⟩
        have hms : Hide (l2 < l) := ⟨by omega⟩
        clear hR hk2 hl2 h1 h0 ht
        go_wp2
        go_round
        case rel => exact ⟨k2, l2, m, rfl, rfl, rfl, hk2l, hl2l, hm, hN⟩
        case measure => (have := hms.out; simp [intOf] <;> omega)
/-- draw.Hash and the document's hash are one function. -/
theorem hashN_eq (l : List UInt8) : hashN l = hmix (18397679294719823053 * hmix (hfold l) % 18446744073709551616) := rfl
theorem Ref_times1 (y z : Nat) (hy : y < 18446744073709551616) (hz : 1099511628211 * y % 18446744073709551616 = z) (w : World) :
    Calls Tryd.prog 50 #[.int .u64 y, .int .u64 1099511628211] w fun r w' => r = .returned (.int .u64 z) ∧ w = w' := by
  subst hz
  exact Ref_times y 1099511628211 hy (by omega) w
theorem Ref_times2 (y z : Nat) (hy : y < 18446744073709551616) (hz : 18397679294719823053 * y % 18446744073709551616 = z) (w : World) :
    Calls Tryd.prog 50 #[.int .u64 y, .int .u64 18397679294719823053] w fun r w' => r = .returned (.int .u64 z) ∧ w = w' := by
  subst hz
  exact Ref_times y 18397679294719823053 hy (by omega) w
set_option maxRecDepth 100000 in
theorem Ref_Hash (s : ByteArray) (hs : s.size ≤ 100000) (w : World) :
    Calls Tryd.prog 32 #[.string s] w fun r w' => r = .returned (.int .u64 (hashN s.data.toList : Nat)) ∧ w = w' := by
  go_enter Tryd.func32, Tryd.ntmps32
  go_wp2
  go_loop [3, 4] (fun h i => ∃ (k x : Nat), h = .int .u64 x ∧ i = .int .i64 k ∧ k ≤ s.size ∧ x < 18446744073709551616 ∧ Hide (x = hfold (s.data.toList.take k))) (fun _ i => (s.size - intOf i).toNat)
  case atStart => exact ⟨0, 14695981039346656037, rfl, rfl, Nat.zero_le _, by omega, ⟨rfl⟩⟩
  case round =>
    obtain ⟨k, x, rfl, rfl, hks, hx, hX⟩ := hrel
    by_cases hlt : k < s.size
    · have hlt' : (k : Int) < s.size := by omega
      obtain ⟨d, hd⟩ : ∃ d, (s[k]'hlt).toNat = d := ⟨_, rfl⟩
      have hcl : d < 256 := by rw [← hd]; exact UInt8.toNat_lt _
      have hst : hfold (s.data.toList.take (k + 1)) = hstep x d := by
        rw [List.take_add_one, List.getElem?_eq_getElem (by simpa using hlt)]
        have hg : s.data.toList[k]'(by simpa using hlt) = s[k]'hlt := by simp only [Array.getElem_toList]; rfl
        rw [hg]
        exact (hfold_snoc _ _).trans (by rw [← hX.out, hd])
      have f0 : IntKind.u64.wrap (d : Int) = (d : Int) := by rw [IntKind.wrap_u64]; omega
      have f1 : bits .xor .u64 (x : Int) (d : Int) = ((x ^^^ d : Nat) : Int) := bits_xor_u64_nat x d hx (by omega)
      obtain ⟨y, hy⟩ : ∃ y, x ^^^ d = y := ⟨_, rfl⟩
      have hyl : y < 18446744073709551616 := by
        rw [← hy]; exact Nat.xor_lt_two_pow (n := 64) (by omega) (by omega)
      have hst2 : hstep x d = 1099511628211 * y % 18446744073709551616 := by unfold hstep; rw [hy]
      rw [hy] at f1
      obtain ⟨z, hz⟩ : ∃ z, 1099511628211 * y % 18446744073709551616 = z := ⟨_, rfl⟩
      have hzl : z < 18446744073709551616 := by omega
      have f3 : IntKind.i64.wrap ((k : Int) + 1) = ((k + 1 : Nat) : Int) := by rw [show (k : Int) + 1 = ((k + 1 : Nat) : Int) by omega]; exact IntWalk.i64_in _ (by omega)
      have HZ := hide (show z = hfold (s.data.toList.take (k + 1)) by rw [hst, hst2, hz])
      have cT := hide (fun w => Ref_times1 y z hyl hz w)
      clear hst hst2 hz hy
      go_wp2_with (go_at_call 50; (with_reducible refine (cT.out _).mono ?_); rintro r w' ⟨rfl, rfl⟩)
      go_round
      case rel => exact ⟨k + 1, z, rfl, by go_num, hlt, hzl, HZ⟩
      case measure => (simp [intOf] <;> omega)
    · obtain rfl : k = s.size := by omega
      have e0 : x = hfold s.data.toList := by rw [hX.out]; congr 1; exact List.take_of_length_le (Nat.le_of_eq Array.length_toList)
      have f1 : (x : Int) / 8589934592 = ((x / 8589934592 : Nat) : Int) := by omega
      have f2 : bits .xor .u64 (x : Int) ((x / 8589934592 : Nat) : Int) = ((x ^^^ (x / 8589934592) : Nat) : Int) := bits_xor_u64_nat _ _ hx (by omega)
      obtain ⟨q, hq⟩ : ∃ q, x / 8589934592 = q := ⟨_, rfl⟩
      obtain ⟨y, hy⟩ : ∃ y, x ^^^ q = y := ⟨_, rfl⟩
      rw [hq] at f1 f2
      rw [hy] at f2
      have hyl : y < 18446744073709551616 := by
        rw [← hy]; exact Nat.xor_lt_two_pow (n := 64) (by omega) (by omega)
      obtain ⟨z, hz⟩ : ∃ z, 18397679294719823053 * y % 18446744073709551616 = z := ⟨_, rfl⟩
      have hzl : z < 18446744073709551616 := by omega
      have f4 : (z : Int) / 8589934592 = ((z / 8589934592 : Nat) : Int) := by omega
      have f5 : bits .xor .u64 (z : Int) ((z / 8589934592 : Nat) : Int) = ((z ^^^ (z / 8589934592) : Nat) : Int) := bits_xor_u64_nat _ _ hzl (by omega)
      obtain ⟨q2, hq2⟩ : ∃ q2, z / 8589934592 = q2 := ⟨_, rfl⟩
      obtain ⟨t, ht⟩ : ∃ t, z ^^^ q2 = t := ⟨_, rfl⟩
      have hT : hashN s.data.toList = t := by rw [hashN, ← e0, hmix, hmix, hq, hy, hz, hq2, ht]
      rw [hq2] at f4 f5
      rw [ht] at f5
      have cT := hide (fun w => Ref_times2 y z hyl hz w)
      have hT := hide hT
      clear hq hy hz hq2 ht e0 hX
      go_wp2_with (go_at_call 50; (with_reducible refine (cT.out _).mono ?_); rintro r w' ⟨rfl, rfl⟩)
      go_ret
      rw [hT.out]
      exact ⟨rfl, rfl⟩
end Go.Proofs.YtggeppmiifkikaaDoor
