/- cachewiseref01: down and whole. -/
import Derived.Test.YtfdeafiidaepgaaDoorFixPlus
namespace Go.Proofs.YtfdeafiidaepgaaDoor
open Go Go.RowKit Go.Shelf Go.Proofs.Mul64

theorem Ref_down (s : Value) (l : List Nat) (n : Nat) (hn : n ≤ 1000000) (w : World) (h : RowAt w s (bv l)) :
    Calls Tryd.prog 42 #[s, .int .i64 n] w fun r w' => ∃ s', r = .returned s' ∧ RowAt w' s' (bv (l.drop n)) ∧ Keep w w' := by
  by_cases hl : l.length ≤ n
  · have e : l.drop n = [] := List.drop_eq_nil_of_le hl
    rw [e]
    obtain ⟨ao, cap, rfl⟩ := h.shape
    rw [bv_length]
    have hl' : (l.length : Int) ≤ n := by omega
    clear h e
    go_enter Tryd.func42, Tryd.ntmps42
    go_wp2
    go_ret
    exact ⟨_, rfl, RowAt.nil, Keep.refl _⟩
  · rcases h with ⟨rfl, hnil⟩ | ⟨b, off, cap, rfl, h1, h2, h3⟩
    · have : l.length = 0 := by rw [← bv_length l, hnil]; rfl
      omega
    · have hl' : ¬ (l.length : Int) ≤ n := by omega
      have h3 := hide h3
      rw [bv_length] at h1 ⊢
      go_enter Tryd.func42, Tryd.ntmps42
      go_wp2
      go_ret
      refine ⟨_, rfl, .inr ⟨b, off + n, cap - n, ?_, ?_, ?_, fun j u hu => ?_⟩, Keep.refl _⟩
      · rw [bv_length, List.length_drop]; rfl
      · rw [bv_length, List.length_drop]; omega
      · omega
      · rw [Nat.add_assoc]
        exact h3.out (n + j) u (by simpa [bv] using hu)

/-! ### The number of a row -/
theorem val_drop {l : List Nat} {i : Nat} (h : i < l.length) : val (l.drop i) = l.getD i 0 + 2 * val (l.drop (i + 1)) := by
  rw [List.drop_eq_getElem_cons h, val]
  simp [List.getD, List.getElem?_eq_getElem h]
theorem val_split (l : List Nat) : ∀ i : Nat, val l = val (l.take i) + 2 ^ i * val (l.drop i) := by
  induction l with
  | nil => intro i; simp [val]
  | cons b l ih =>
    intro i
    cases i with
    | zero => simp [val]
    | succ i =>
      have := ih i
      rw [List.take_succ_cons, List.drop_succ_cons, val, val, two_step]
      omega
theorem val_big {l : List Nat} {i : Nat} (h : i < l.length) (hi : 64 ≤ i) (hb : l.getD i 0 = 1) : ¬ val l < 18446744073709551616 := by
  rw [val_split l i, val_drop h, hb]
  have h1 : 2 ^ 64 ≤ 2 ^ i := Nat.pow_le_pow_right (by omega) hi
  have h2 : 2 ^ i * 1 ≤ 2 ^ i * (1 + 2 * val (l.drop (i + 1))) := Nat.mul_le_mul_left _ (by omega)
  omega
def fcap (n : Nat) : Nat := if n < 18446744073709551616 then n else 18446744073709551615
theorem Ref_whole (s : Value) (l : List Nat) (hb : Bits l) (hlen : l.length ≤ 9000000) (w : World) (h : RowAt w s (bv l)) :
    Calls Tryd.prog 38 #[s] w fun r w' => r = .returned (.int .u64 (fcap (val l) : Nat)) ∧ Keep w w' := by
  obtain ⟨ao, cap, rfl⟩ := h.shape
  rw [bv_length] at h ⊢
  obtain ⟨T, hT⟩ : ∃ T, fcap (val l) = T := ⟨_, rfl⟩
  obtain ⟨n, hn⟩ : ∃ n, l.length = n := ⟨_, rfl⟩
  rw [hn] at h hlen ⊢
  rw [hT]
  have hT := hide hT
  have hnH := hide hn
  have hbH := hide hb
  have hH := hide h
  clear hb h hn
  have e1 : IntKind.i64.wrap ((n : Int) - 1) = (n : Int) - 1 := IntWalk.i64_in _ (by omega)
  go_enter Tryd.func38, Tryd.ntmps38
  go_wp2
  go_loop [3, 4] (fun v i => ∃ k : Nat, k ≤ n ∧ i = .int .i64 ((k : Int) - 1) ∧ v = .int .u64 (val (l.drop k) : Nat) ∧ val (l.drop k) < 2 ^ (64 - k)) (fun v i => (intOf i + 1).toNat)
  case atStart => exact ⟨n, Nat.le_refl _, rfl, by rw [List.drop_eq_nil_of_le (by have := hnH.out; omega)]; rfl, by rw [List.drop_eq_nil_of_le (by have := hnH.out; omega)]; exact Nat.two_pow_pos _⟩
  case round =>
    obtain ⟨k, hk, rfl, rfl, hv⟩ := hrel
    have hvH := hide hv
    clear hv
    obtain ⟨v, hv⟩ : ∃ v, val (l.drop k) = v := ⟨_, rfl⟩
    rw [hv] at hvH ⊢
    have hv := hide hv
    rcases Nat.eq_zero_or_pos k with rfl | hk0
    · have hTv : v = T := by
        have h1 := hv.out
        have h2 := hvH.out
        rw [← hT.out, ← h1]
        rw [← h1] at h2
        rw [List.drop_zero] at h2 ⊢
        exact (if_pos h2).symm
      subst hTv
      go_wp2
      go_ret
      exact ⟨rfl, Keep.refl _⟩
    · obtain ⟨j, rfl⟩ : ∃ j, k = j + 1 := ⟨k - 1, by omega⟩
      rw [show (((j + 1 : Nat) : Int) - 1) = (j : Int) by omega]
      rcases hH.out with ⟨_, hnil⟩ | ⟨b, off, cap', he, h1, h2, h3⟩
      · have h5 : l.length = 0 := by rw [← bv_length l, hnil]; rfl
        have := hnH.out
        omega
      · have hjl : j < l.length := by have := hnH.out; omega
        have hc := h3 j _ (bv_get hjl)
        have htb : l.getD j 0 ≤ 1 := by
          have := bitAt_le hbH.out j
          unfold bitAt at this
          rw [if_neg (by omega)] at this
          exact this
        have hstep : val (l.drop j) = l.getD j 0 + 2 * v := by rw [val_drop hjl, hv.out]
        have hbig : 64 ≤ j → l.getD j 0 = 1 → T = 18446744073709551615 := fun q1 q2 => by rw [← hT.out]; exact if_neg (val_big hjl q1 q2)
        obtain ⟨t, ht⟩ : ∃ t, l.getD j 0 = t := ⟨_, rfl⟩
        rw [ht] at hc htb hstep hbig
        obtain ⟨rfl, _, rfl⟩ : ao = some ⟨b, off, none⟩ ∧ True ∧ cap = cap' := by
          simp only [Value.slice.injEq] at he
          exact ⟨he.1, trivial, he.2.2⟩
        have hstepH := hide hstep
        clear hstep he h3 ht
        have hjn : (j : Int) < n := by have := hnH.out; omega
        have f1 : IntKind.i64.wrap ((j : Int) - 1) = (j : Int) - 1 := IntWalk.i64_in _ (by omega)
        by_cases hj : j < 64
        · have hj1 : ¬ (63 : Int) < j := by omega
          have hj2 : (j : Int) < 64 := by omega
          have hvl : 2 * v + t < 2 ^ (64 - j) := by
            have := hvH.out
            rw [show 64 - j = (64 - (j + 1)) + 1 by omega, Nat.pow_succ]
            omega
          have hvl2 : 2 * v + t < 18446744073709551616 := Nat.lt_of_lt_of_le hvl (Nat.pow_le_pow_right (by omega) (by omega : 64 - j ≤ 64))
          have f2 : IntKind.u64.wrap ((v : Int) * 2) = ((2 * v : Nat) : Int) := by rw [IntKind.wrap_u64]; omega
          have f3 : IntKind.u64.wrap (t : Int) = (t : Int) := by rw [IntKind.wrap_u64]; omega
          have f4 : IntKind.u64.wrap (((2 * v : Nat) : Int) + (t : Int)) = ((2 * v + t : Nat) : Int) := by rw [IntKind.wrap_u64]; omega
          obtain ⟨v2, hv2⟩ : ∃ v2, 2 * v = v2 := ⟨_, rfl⟩
          rw [hv2] at f2 f4 hvl
          obtain ⟨v3, hv3⟩ : ∃ v3, v2 + t = v3 := ⟨_, rfl⟩
          rw [hv3] at f4 hvl
          have hv4 : val (l.drop j) = v3 := by rw [hstepH.out]; omega
          have hvl := hide hvl
          have hv4 := hide hv4
          have hv3H := hide (show v2 + t = v3 ∧ v3 < 18446744073709551616 by omega)
          clear hv2 hv3 hvl2 f4
          rcases (by omega : t = 0 ∨ t = 1) with rfl | rfl
          all_goals
            go_wp2
            go_round
            case rel => exact ⟨j, by omega, rfl, by rw [hv4.out]; congr 1; have := hv3H.out; rw [IntKind.wrap_u64]; omega, by rw [hv4.out]; exact hvl.out⟩
            case measure => (simp [intOf]; try omega)
        · have hj1 : (63 : Int) < j := by omega
          have hj2 : ¬ (j : Int) < 64 := by omega
          rcases (by omega : t = 0 ∨ t = 1) with rfl | rfl
          · have hv0 : v = 0 := by
              have := hvH.out
              rw [show 64 - (j + 1) = 0 by omega] at this
              omega
            have hd0 : val (l.drop j) = 0 := by rw [hstepH.out, hv0]
            have hd0 := hide hd0
            have hv0 := hide hv0
            go_wp2
            go_round
            case rel => exact ⟨j, by omega, rfl, by rw [hd0.out, hv0.out], by rw [hd0.out]; exact Nat.two_pow_pos _⟩
            case measure => (simp [intOf]; try omega)
          · obtain rfl := hbig (by omega) rfl
            go_wp2
            go_ret
            exact ⟨rfl, Keep.refl _⟩
end Go.Proofs.YtfdeafiidaepgaaDoor
