/- How a learner's rate moves, with no program in sight. -/
import Derived.Test.YteledfiechbhgaaGreatDoorQTwLearn
namespace Go.Proofs.YteledfiechbhgaaGreatDoor
open Go Go.RowKit

/-- A request ends in a window. -/
structure Ln.Ahead (s t : Ln) : Prop where
  kind : t.kind = s.kind
  most : t.most = s.most
  asked : t.asked = s.asked
  rate : t.rate = s.rate
  first : t.first = s.first
  still : t.still = s.still
theorem Ln.regret_ahead (s : Ln) (k : ByteArray) : Ln.Ahead s (s.regret k) := by
  unfold Ln.regret
  split <;> exact ⟨rfl, rfl, rfl, rfl, rfl, rfl⟩
theorem Ln.room_ahead (s : Ln) : Ln.Ahead s s.room.1 := by
  unfold Ln.room
  split
  · exact ⟨rfl, rfl, rfl, rfl, rfl, rfl⟩
  · dsimp only
    split <;> exact ⟨rfl, rfl, rfl, rfl, rfl, rfl⟩
theorem Ln.req_ahead (s : Ln) (k : ByteArray) (hm : s.most ≠ 0) : ∃ t, (s.req k).1 = t.window ∧ Ln.Ahead s t := by
  unfold Ln.req
  dsimp only
  rw [if_neg hm]
  split
  · exact ⟨_, rfl, rfl, rfl, rfl, rfl, rfl, rfl⟩
  · refine ⟨_, rfl, ?_⟩
    have h1 := Ln.regret_ahead { s with clock := s.clock + 1 } k
    have h2 := Ln.room_ahead (Ln.regret { s with clock := s.clock + 1 } k)
    exact ⟨h2.kind.trans h1.kind, h2.most.trans h1.most, h2.asked.trans h1.asked, h2.rate.trans h1.rate, h2.first.trans h1.first, h2.still.trans h1.still⟩
/-- What holds of a learner of kind 6 that was asked i times. -/
structure Rates (kd : Int) (ms i : Nat) (s : Ln) : Prop where
  kind : s.kind = kd
  most : s.most = ms
  fit : ∃ j, s.Fit j
  asked : kd = 6 → s.asked = ((i % ms : Nat) : Int)
  first : kd = 6 → i / ms = 0 → s.first = true
  still : kd = 6 → 0 ≤ s.still ∧ (s.first = true → s.still = 0) ∧ s.still + 1 ≤ ((i / ms : Nat) : Int) + (if s.first then 1 else 0)
/-- What a request does to the rate. -/
structure RateStep (kind : Int) (most i r q : Nat) : Prop where
  five : kind = 5 → q = r
  inside : kind = 6 → (i + 1) % most ≠ 0 → q = r
  once : kind = 6 → i + 1 = most → q = r
  part : kind = 6 → (i + 1) / most < 11 → (q ≤ r + r / 4 ∧ r - r / 4 ≤ q) ∨ q = 4611686018427387904
theorem div_succ (i m : Nat) (hm : 0 < m) : ((i + 1) % m ≠ 0 → (i + 1) / m = i / m ∧ (i + 1) % m = i % m + 1) ∧ ((i + 1) % m = 0 → (i + 1) / m = i / m + 1 ∧ i % m + 1 = m) := by
  have h1 := Nat.div_add_mod i m
  have h2 := Nat.div_add_mod (i + 1) m
  have h3 := Nat.mod_lt i hm
  have h4 := Nat.mod_lt (i + 1) hm
  by_cases h : i % m + 1 < m
  · have e : (i + 1) / m = i / m := by
      have e1 : i + 1 = m * (i / m) + (i % m + 1) := by omega
      conv => lhs; rw [e1]
      rw [Nat.mul_add_div hm, Nat.div_eq_of_lt h, Nat.add_zero]
    rw [e] at h2
    constructor
    · intro _
      exact ⟨e, by omega⟩
    · intro h0
      omega
  · have e : (i + 1) / m = i / m + 1 := by
      have : i + 1 = m * (i / m + 1) := by rw [Nat.mul_add]; omega
      rw [this, Nat.mul_div_cancel_left _ hm]
    rw [e, Nat.mul_add] at h2
    constructor
    · intro h0
      omega
    · intro _
      exact ⟨e, by omega⟩
theorem Rates.step {kind : Int} {most i : Nat} {s : Ln} (h : Rates kind most i s) (hk : kind = 5 ∨ kind = 6) (hm : 0 < most) (k : ByteArray) : Rates kind most (i + 1) (s.req k).1 ∧ RateStep kind most i s.rate (s.req k).1.rate := by
  obtain ⟨t, ht, ha⟩ := Ln.req_ahead s k (by rw [h.most]; omega)
  have hlike := Ln.req_like s k
  obtain ⟨j, hf⟩ := h.fit
  have hfit : ∃ j, (s.req k).1.Fit j := ⟨_, Ln.req_fit hf k⟩
  have hrate := hf.rate
  have hkind : (s.req k).1.kind = kind := hlike.kind.trans h.kind
  have hmost : (s.req k).1.most = most := hlike.most.trans h.most
  have htk := ha.kind.trans h.kind
  have htm := ha.most.trans h.most
  rcases hk with rfl | rfl
  · have hw : t.window = { t with asked := t.asked + 1 } := by
      unfold Ln.window
      dsimp only
      rw [if_pos (.inl (by rw [htk]; decide))]
    have hr : (s.req k).1.rate = s.rate := by rw [ht, hw]; exact ha.rate
    refine ⟨⟨hkind, hmost, hfit, fun h => absurd h (by decide), fun h => absurd h (by decide), fun h => absurd h (by decide)⟩, ⟨fun _ => hr, fun h => absurd h (by decide), fun h => absurd h (by decide), fun h => absurd h (by decide)⟩⟩
  · have hasked := h.asked rfl
    have hfirst := h.first rfl
    obtain ⟨st0, st1, st2⟩ := h.still rfl
    obtain ⟨d1, d2⟩ := div_succ i most hm
    have hta := ha.asked.trans hasked
    by_cases hmod : (i + 1) % most ≠ 0
    · obtain ⟨e1, e2⟩ := d1 hmod
      have hlt : i % most + 1 < most := by have := Nat.mod_lt (i + 1) hm; omega
      have hw : t.window = { t with asked := t.asked + 1 } := by
        unfold Ln.window
        dsimp only
        rw [if_pos (.inr (by rw [hta, htm]; omega))]
      have hr : (s.req k).1.rate = s.rate := by rw [ht, hw]; exact ha.rate
      refine ⟨⟨hkind, hmost, hfit, fun _ => ?_, fun _ h0 => ?_, fun _ => ?_⟩, ⟨fun h => absurd h (by decide), fun _ _ => hr, fun _ _ => hr, fun _ _ => .inl ⟨by rw [hr]; omega, by rw [hr]; omega⟩⟩⟩
      · rw [ht, hw, e2]
        show t.asked + 1 = _
        rw [hta]
        omega
      · rw [ht, hw]
        show t.first = true
        rw [ha.first]
        exact hfirst (by rw [← e1]; exact h0)
      · rw [ht, hw, e1]
        show 0 ≤ t.still ∧ (t.first = true → t.still = 0) ∧ t.still + 1 ≤ _ + (if t.first then 1 else 0)
        rw [ha.still, ha.first]
        exact ⟨st0, st1, st2⟩
    · have hmod : (i + 1) % most = 0 := by omega
      obtain ⟨e1, e2⟩ := d2 hmod
      have hn : ¬ (t.kind ≠ 6 ∨ t.asked + 1 < t.most) := by
        rw [htk, hta, htm]
        omega
      have hw : t.window.asked = 0 ∧ t.window.first = false ∧ (t.first = true → t.window.rate = t.rate ∧ t.window.still = t.still) ∧
          (t.first = false → (t.window.still = t.still + 1 ∧ t.still + 1 ≠ 10 ∧ t.window.rate = t.rate) ∨ (t.window.still = 0 ∧ (t.still + 1 = 10 ∨ ∃ r, (r = t.rate - t.rate / 4 ∨ r = fadd t.rate (t.rate / 4)) ∧ t.window.rate = min (max r 4611686018427387) 4611686018427387904))) := by
        unfold Ln.window
        dsimp only
        rw [if_neg hn, fpart_1000]
        cases hf2 : t.first with
        | true => simp
        | false =>
          rw [if_neg (show ¬ (false = true) by decide)]
          split
          · split
            · rename_i h10
              exact ⟨rfl, rfl, fun h => absurd h (by decide), fun _ => .inr ⟨rfl, .inl h10⟩⟩
            · rename_i h10
              exact ⟨rfl, rfl, fun h => absurd h (by decide), fun _ => .inl ⟨rfl, h10, rfl⟩⟩
          · refine ⟨rfl, rfl, fun h => absurd h (by decide), fun _ => .inr ⟨rfl, .inr ?_⟩⟩
            cases (t.down != decide (t.hits < t.last))
            · exact ⟨_, .inr rfl, rfl⟩
            · exact ⟨_, .inl rfl, rfl⟩
      obtain ⟨w1, w2, w3, w4⟩ := hw
      rw [← ht] at w1 w2 w3 w4
      rw [ha.first, ha.rate, ha.still] at w3 w4
      have hup := rate_up s.rate hrate.2
      refine ⟨⟨hkind, hmost, hfit, fun _ => ?_, fun _ h0 => ?_, fun _ => ?_⟩, ⟨fun h => absurd h (by decide), fun _ h => absurd hmod h, fun _ h1 => ?_, fun _ h11 => ?_⟩⟩
      · rw [w1, hmod]; rfl
      · omega
      · rw [w2]
        refine ⟨?_, fun h => absurd h (by decide), ?_⟩
        · cases hf2 : s.first with
          | true => rw [(w3 hf2).2]; exact st0
          | false => rcases w4 hf2 with h | h <;> rw [h.1] <;> omega
        · rw [if_neg (show ¬ (false = true) by decide)]
          cases hf2 : s.first with
          | true =>
            rw [(w3 hf2).2, st1 hf2, e1]
            omega
          | false =>
            rw [hf2, if_neg (show ¬ (false = true) by decide)] at st2
            rcases w4 hf2 with h | h <;> rw [h.1] <;> omega
      · have h0 : i / most = 0 := Nat.div_eq_of_lt (by omega)
        exact (w3 (hfirst h0)).1
      · cases hf2 : s.first with
        | true => rw [(w3 hf2).1]; exact .inl ⟨by omega, by omega⟩
        | false =>
          rw [hf2, if_neg (show ¬ (false = true) by decide)] at st2
          rcases w4 hf2 with h | ⟨_, h | ⟨r, hr, h⟩⟩
          · rw [h.2.2]; exact .inl ⟨by omega, by omega⟩
          · omega
          · rw [h]
            rcases hr with rfl | rfl
            · exact .inl ⟨by omega, by omega⟩
            · rw [hup]
              by_cases hc : s.rate + s.rate / 4 ≤ 4611686018427387904
              · exact .inl ⟨by omega, by omega⟩
              · exact .inr (by omega)
theorem Rates.new (kind : Int) (most : Nat) (t : List (List Nat)) (ht : ∀ l ∈ t, ∀ x ∈ l, x < 18446744073709551616) : Rates kind most 0 (Ln.new kind most t 0) :=
  ⟨rfl, rfl, ⟨0, Ln.new_fit kind most t 0 ht⟩, fun _ => by rw [Nat.zero_mod]; rfl, fun _ _ => rfl, fun _ => ⟨Int.le_refl _, fun _ => rfl, by rw [Nat.zero_div]; show (0 : Int) + 1 ≤ ((0 : Nat) : Int) + 1; omega⟩⟩
end Go.Proofs.YteledfiechbhgaaGreatDoor
