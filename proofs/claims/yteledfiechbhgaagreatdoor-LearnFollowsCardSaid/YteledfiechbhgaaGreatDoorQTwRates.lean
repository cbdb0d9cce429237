/- How a learner's rate moves, with no program in sight. -/
import Derived.Test.YteledfiechbhgaaGreatDoorQTwLearn
import Derived.Test.YteledfiechbhgaaGreatDoorQTwInv
namespace Go.Proofs.YteledfiechbhgaaGreatDoor
open Go Go.RowKit

/-- A request ends in a window. -/
structure Ln.Ahead (s t : Ln) : Prop where
  kind : t.kind = s.kind
  most : t.most = s.most
  asked : t.asked = s.asked
  rate : t.rate = s.rate
  first : t.first = s.first
  still : t.still = s.still
theorem Ln.regret_ahead (s : Ln) (k : ByteArray) : Ln.Ahead s (s.regret k) := by
  unfold Ln.regret
  split <;> exact ⟨rfl, rfl, rfl, rfl, rfl, rfl⟩
theorem Ln.room_ahead (s : Ln) : Ln.Ahead s s.room.1 := by
  unfold Ln.room
  split
  · exact ⟨rfl, rfl, rfl, rfl, rfl, rfl⟩
  · dsimp only
    split <;> exact ⟨rfl, rfl, rfl, rfl, rfl, rfl⟩
theorem Ln.req_ahead (s : Ln) (k : ByteArray) (hm : s.most ≠ 0) : ∃ t, (s.req k).1 = t.window ∧ Ln.Ahead s t := by
  unfold Ln.req
  dsimp only
  rw [if_neg hm]
  split
  · exact ⟨_, rfl, rfl, rfl, rfl, rfl, rfl, rfl⟩
  · refine ⟨_, rfl, ?_⟩
    have h1 := Ln.regret_ahead { s with clock := s.clock + 1 } k
    have h2 := Ln.room_ahead (Ln.regret { s with clock := s.clock + 1 } k)
    exact ⟨h2.kind.trans h1.kind, h2.most.trans h1.most, h2.asked.trans h1.asked, h2.rate.trans h1.rate, h2.first.trans h1.first, h2.still.trans h1.still⟩
/-- What holds of a learner of kind 6 that was asked i times. -/
structure Rates (kd : Int) (ms i : Nat) (s : Ln) : Prop where
  kind : s.kind = kd
  most : s.most = ms
  fit : ∃ j, s.Fit j
  asked : kd = 6 → s.asked = ((i % ms : Nat) : Int)
  first : kd = 6 → i / ms = 0 → s.first = true
  still : kd = 6 → 0 ≤ s.still ∧ (s.first = true → s.still = 0) ∧ s.still + 1 ≤ ((i / ms : Nat) : Int) + (if s.first then 1 else 0)
/-- What a request does to the rate. -/
structure RateStep (kind : Int) (most i r q : Nat) : Prop where
  five : kind = 5 → q = r
  inside : kind = 6 → (i + 1) % most ≠ 0 → q = r
  once : kind = 6 → i + 1 = most → q = r
  part : kind = 6 → (i + 1) / most < 11 → (q ≤ r + r / 4 ∧ r - r / 4 ≤ q) ∨ q = 4611686018427387904
theorem div_succ (i m : Nat) (hm : 0 < m) : ((i + 1) % m ≠ 0 → (i + 1) / m = i / m ∧ (i + 1) % m = i % m + 1) ∧ ((i + 1) % m = 0 → (i + 1) / m = i / m + 1 ∧ i % m + 1 = m) := by
  have h1 := Nat.div_add_mod i m
  have h2 := Nat.div_add_mod (i + 1) m
  have h3 := Nat.mod_lt i hm
  have h4 := Nat.mod_lt (i + 1) hm
  by_cases h : i % m + 1 < m
  · have e : (i + 1) / m = i / m := by
      have e1 : i + 1 = m * (i / m) + (i % m + 1) := by omega
      conv => lhs; rw [e1]
      rw [Nat.mul_add_div hm, Nat.div_eq_of_lt h, Nat.add_zero]
    rw [e] at h2
    constructor
    · intro _
      exact ⟨e, by omega⟩
    · intro h0
      omega
  · have e : (i + 1) / m = i / m + 1 := by
      have : i + 1 = m * (i / m + 1) := by rw [Nat.mul_add]; omega
      rw [this, Nat.mul_div_cancel_left _ hm]
    rw [e, Nat.mul_add] at h2
    constructor
    · intro h0
      omega
    · intro _
      exact ⟨e, by omega⟩
theorem Rates.step {kind : Int} {most i : Nat} {s : Ln} (h : Rates kind most i s) (hk : kind = 5 ∨ kind = 6) (hm : 0 < most) (k : ByteArray) : Rates kind most (i + 1) (s.req k).1 ∧ RateStep kind most i s.rate (s.req k).1.rate := by
  obtain ⟨t, ht, ha⟩ := Ln.req_ahead s k (by rw [h.most]; omega)
  have hlike := Ln.req_like s k
  obtain ⟨j, hf⟩ := h.fit
  have hfit : ∃ j, (s.req k).1.Fit j := ⟨_, Ln.req_fit hf k⟩
  have hrate := hf.rate
  have hkind : (s.req k).1.kind = kind := hlike.kind.trans h.kind
  have hmost : (s.req k).1.most = most := hlike.most.trans h.most
  have htk := ha.kind.trans h.kind
  have htm := ha.most.trans h.most
  rcases hk with rfl | rfl
  · have hw : t.window = { t with asked := t.asked + 1 } := by
      unfold Ln.window
      dsimp only
      rw [if_pos (.inl (by rw [htk]; decide))]
    have hr : (s.req k).1.rate = s.rate := by rw [ht, hw]; exact ha.rate
    refine ⟨⟨hkind, hmost, hfit, fun h => absurd h (by decide), fun h => absurd h (by decide), fun h => absurd h (by decide)⟩, ⟨fun _ => hr, fun h => absurd h (by decide), fun h => absurd h (by decide), fun h => absurd h (by decide)⟩⟩
  · have hasked := h.asked rfl
    have hfirst := h.first rfl
    obtain ⟨st0, st1, st2⟩ := h.still rfl
    obtain ⟨d1, d2⟩ := div_succ i most hm
    have hta := ha.asked.trans hasked
    by_cases hmod : (i + 1) % most ≠ 0
    · obtain ⟨e1, e2⟩ := d1 hmod
      have hlt : i % most + 1 < most := by have := Nat.mod_lt (i + 1) hm; omega
      have hw : t.window = { t with asked := t.asked + 1 } := by
        unfold Ln.window
        dsimp only
        rw [if_pos (.inr (by rw [hta, htm]; omega))]
      have hr : (s.req k).1.rate = s.rate := by rw [ht, hw]; exact ha.rate
      refine ⟨⟨hkind, hmost, hfit, fun _ => ?_, fun _ h0 => ?_, fun _ => ?_⟩, ⟨fun h => absurd h (by decide), fun _ _ => hr, fun _ _ => hr, fun _ _ => .inl ⟨by rw [hr]; omega, by rw [hr]; omega⟩⟩⟩
      · rw [ht, hw, e2]
        show t.asked + 1 = _
        rw [hta]
        omega
      · rw [ht, hw]
        show t.first = true
        rw [ha.first]
        exact hfirst (by rw [← e1]; exact h0)
      · rw [ht, hw, e1]
        show 0 ≤ t.still ∧ (t.first = true → t.still = 0) ∧ t.still + 1 ≤ _ + (if t.first then 1 else 0)
        rw [ha.still, ha.first]
        exact ⟨st0, st1, st2⟩
    · have hmod : (i + 1) % most = 0 := by omega
      obtain ⟨e1, e2⟩ := d2 hmod
      have hn : ¬ (t.kind ≠ 6 ∨ t.asked + 1 < t.most) := by
        rw [htk, hta, htm]
        omega
      have hw : t.window.asked = 0 ∧ t.window.first = false ∧ (t.first = true → t.window.rate = t.rate ∧ t.window.still = t.still) ∧
          (t.first = false → (t.window.still = t.still + 1 ∧ t.still + 1 ≠ 10 ∧ t.window.rate = t.rate) ∨ (t.window.still = 0 ∧ (t.still + 1 = 10 ∨ ∃ r, (r = t.rate - t.rate / 4 ∨ r = fadd t.rate (t.rate / 4)) ∧ t.window.rate = min (max r 4611686018427387) 4611686018427387904))) := by
        unfold Ln.window
        dsimp only
        rw [if_neg hn, fpart_1000]
        cases hf2 : t.first with
        | true => simp
        | false =>
          rw [if_neg (show ¬ (false = true) by decide)]
          split
          · split
            · rename_i h10
              exact ⟨rfl, rfl, fun h => absurd h (by decide), fun _ => .inr ⟨rfl, .inl h10⟩⟩
            · rename_i h10
              exact ⟨rfl, rfl, fun h => absurd h (by decide), fun _ => .inl ⟨rfl, h10, rfl⟩⟩
          · refine ⟨rfl, rfl, fun h => absurd h (by decide), fun _ => .inr ⟨rfl, .inr ?_⟩⟩
            cases (t.down != decide (t.hits < t.last))
            · exact ⟨_, .inr rfl, rfl⟩
            · exact ⟨_, .inl rfl, rfl⟩
      obtain ⟨w1, w2, w3, w4⟩ := hw
      rw [← ht] at w1 w2 w3 w4
      rw [ha.first, ha.rate, ha.still] at w3 w4
      have hup := rate_up s.rate hrate.2
      refine ⟨⟨hkind, hmost, hfit, fun _ => ?_, fun _ h0 => ?_, fun _ => ?_⟩, ⟨fun h => absurd h (by decide), fun _ h => absurd hmod h, fun _ h1 => ?_, fun _ h11 => ?_⟩⟩
      · rw [w1, hmod]; rfl
      · omega
      · rw [w2]
        refine ⟨?_, fun h => absurd h (by decide), ?_⟩
        · cases hf2 : s.first with
          | true => rw [(w3 hf2).2]; exact st0
          | false => rcases w4 hf2 with h | h <;> rw [h.1] <;> omega
        · rw [if_neg (show ¬ (false = true) by decide)]
          cases hf2 : s.first with
          | true =>
            rw [(w3 hf2).2, st1 hf2, e1]
            omega
          | false =>
            rw [hf2, if_neg (show ¬ (false = true) by decide)] at st2
            rcases w4 hf2 with h | h <;> rw [h.1] <;> omega
      · have h0 : i / most = 0 := Nat.div_eq_of_lt (by omega)
        exact (w3 (hfirst h0)).1
      · cases hf2 : s.first with
        | true => rw [(w3 hf2).1]; exact .inl ⟨by omega, by omega⟩
        | false =>
          rw [hf2, if_neg (show ¬ (false = true) by decide)] at st2
          rcases w4 hf2 with h | ⟨_, h | ⟨r, hr, h⟩⟩
          · rw [h.2.2]; exact .inl ⟨by omega, by omega⟩
          · omega
          · rw [h]
            rcases hr with rfl | rfl
            · exact .inl ⟨by omega, by omega⟩
            · rw [hup]
              by_cases hc : s.rate + s.rate / 4 ≤ 4611686018427387904
              · exact .inl ⟨by omega, by omega⟩
              · exact .inr (by omega)
theorem Rates.new (kind : Int) (most : Nat) (t : List (List Nat)) (ht : ∀ l ∈ t, ∀ x ∈ l, x < 18446744073709551616) : Rates kind most 0 (Ln.new kind most t 0) :=
  ⟨rfl, rfl, ⟨0, Ln.new_fit kind most t 0 ht⟩, fun _ => by rw [Nat.zero_mod]; rfl, fun _ _ => rfl, fun _ => ⟨Int.le_refl _, fun _ => rfl, by rw [Nat.zero_div]; show (0 : Int) + 1 ≤ ((0 : Nat) : Int) + 1; omega⟩⟩
end Go.Proofs.YteledfiechbhgaaGreatDoor
/- In what bounds a learner is, with no program in sight. -/
namespace Go.Proofs.YteledfiechbhgaaGreatDoor
open Go Go.RowKit

structure Bounds (kd : Int) (m i : Nat) (s : Ln) : Prop where
  kind : s.kind = kd
  most : s.most = m
  fit : s.Fit (4 * i)
  inv : s.Inv
  five : kd = 5 → s.rate = 2075258708292324556
theorem Ln.req_rate5 {s : Ln} (hk : s.kind = 5) (k : ByteArray) : (s.req k).1.rate = s.rate := by
  by_cases hm : s.most = 0
  · unfold Ln.req
    dsimp only
    rw [if_pos hm]
  · obtain ⟨t, ht, ha⟩ := Ln.req_ahead s k hm
    have hw : t.window = { t with asked := t.asked + 1 } := by
      unfold Ln.window
      dsimp only
      rw [if_pos (.inl (by rw [ha.kind, hk]; decide))]
    rw [ht, hw]
    exact ha.rate
theorem Bounds.new (kind : Int) (most : Nat) (t : List (List Nat)) (ht : ∀ l ∈ t, ∀ x ∈ l, x < 18446744073709551616) : Bounds kind most 0 (Ln.new kind most t 0) :=
  ⟨rfl, rfl, Ln.new_fit kind most t 0 ht, Ln.new_inv kind most t 0, fun _ => rfl⟩
theorem Bounds.stay {kd : Int} {m i : Nat} {s : Ln} (h : Bounds kd m i s) : Bounds kd m (i + 1) s := ⟨h.kind, h.most, h.fit.mono (by omega), h.inv, h.five⟩
theorem Ln.Inv.count {s : Ln} (h : s.Inv) (c : Int) : ({ s with clock := c } : Ln).Inv := h.clock c
/-- What a request tells. -/
structure Told (m : Nat) (s : Ln) (k : ByteArray) (st : Stp) : Prop where
  once : (st.hit && st.out) = false
  has : 0 < m → s.has k = true
  gone : st.out = true → s.has st.victim = false
theorem Bounds.req {kd : Int} {m i : Nat} {s : Ln} (h : Bounds kd m i s) (k : ByteArray) : Bounds kd m (i + 1) (s.req k).1 ∧ Told m (s.req k).1 k (s.req k).2 := by
  have hl := Ln.req_like s k
  have hf := Ln.req_fit h.fit k
  have h5 : kd = 5 → (s.req k).1.rate = 2075258708292324556 := fun e => by rw [Ln.req_rate5 (h.kind.trans e)]; exact h.five e
  by_cases hm : s.most = 0
  · obtain ⟨h1, h2⟩ := Ln.req_zero h.inv hm k
    refine ⟨⟨hl.kind.trans h.kind, hl.most.trans h.most, hf, by rw [h1]; exact h.inv.clock _, h5⟩, ?_⟩
    rw [h2]
    have := h.most
    exact ⟨rfl, fun h0 => by omega, fun h => by cases h⟩
  · obtain ⟨h1, h2⟩ := Ln.req_inv h.inv hm k
    refine ⟨⟨hl.kind.trans h.kind, hl.most.trans h.most, hf, h1, h5⟩, ?_⟩
    obtain ⟨t, ht⟩ : ∃ t, (s.req k).1 = t := ⟨_, rfl⟩
    obtain ⟨st, hst⟩ : ∃ st, (s.req k).2 = st := ⟨_, rfl⟩
    rw [ht] at h1 h2 ⊢
    rw [hst] at h2 ⊢
    clear ht hst hl hf h5
    cases h2 with
    | hit hk res => exact ⟨rfl, fun _ => by rw [h1.has]; exact decide_eq_true ((res k).2 hk), fun h => by cases h⟩
    | less hk hl res => exact ⟨rfl, fun _ => by rw [h1.has]; exact decide_eq_true ((res k).2 (.inl rfl)), fun h => by cases h⟩
    | full v hk hl hv res =>
      refine ⟨rfl, fun _ => by rw [h1.has]; exact decide_eq_true ((res k).2 (.inl rfl)), fun _ => ?_⟩
      rw [h1.has]
      refine decide_eq_false fun hc => ?_
      rcases (res v).1 hc with h3 | h3
      · exact hk (h3 ▸ hv)
      · exact h3.2 rfl
theorem Bounds.remove {kd : Int} {m i : Nat} {s : Ln} (h : Bounds kd m i s) (k : ByteArray) : Bounds kd m (i + 1) (s.remove k) ∧ (s.remove k).has k = false := by
  obtain ⟨h1, h2, _⟩ := Ln.remove_inv h.inv k
  refine ⟨⟨h.kind, h.most, (Ln.remove_fit h.fit k).mono (by omega), h1, h.five⟩, ?_⟩
  rw [h1.has]
  exact decide_eq_false fun hc => ((h2 k).1 hc).2 rfl
theorem Bounds.adopt {kd : Int} {m i : Nat} {s : Ln} (h : Bounds kd m i s) (k : ByteArray) : Bounds kd m (i + 1) (s.adopt k).1 := by
  have hl := Ln.adopt_like s k
  refine ⟨hl.kind.trans h.kind, hl.most.trans h.most, (Ln.adopt_fit h.fit k).mono (by omega), Ln.adopt_inv h.inv k, fun e => ?_⟩
  have := h.five e
  unfold Ln.adopt
  split
  · exact this
  · exact this
theorem Bounds.drop {kd : Int} {m i : Nat} {s : Ln} (h : Bounds kd m i s) : Bounds kd m (i + 1) s.drop := by
  have hl := Ln.drop_like s
  refine ⟨hl.kind.trans h.kind, hl.most.trans h.most, (Ln.drop_fit h.fit).mono (by omega), Ln.drop_inv h.inv, fun e => ?_⟩
  have := h.five e
  unfold Ln.drop
  split
  · exact this
  · exact this
/-- What is told behind each step. -/
theorem Bounds.tells {kd : Int} {m i : Nat} {s : Ln} (h : Bounds kd m i s) : s.ghosts.Nodup ∧ (∀ c ∈ s.ghosts, s.has c = false) ∧ s.len ≤ m ∧ s.ghosts.length ≤ 2 * m := by
  have h1 := h.inv.gal
  have h2 := h.inv.gbl
  have h3 := h.inv.len
  rw [h.most] at h1 h2 h3
  refine ⟨?_, fun c hc => ?_, by rw [Ln.len_res]; exact h3, ?_⟩
  · unfold Ln.ghosts
    rw [List.nodup_append]
    exact ⟨h.inv.ga, h.inv.gb, fun c hc d hd e => h.inv.gg c hc (e ▸ hd)⟩
  · rw [h.inv.has]
    refine decide_eq_false fun hr => ?_
    unfold Ln.ghosts at hc
    rcases List.mem_append.1 hc with h4 | h4
    · exact h.inv.gra c h4 hr
    · exact h.inv.grb c h4 hr
  · unfold Ln.ghosts
    rw [List.length_append]
    omega
end Go.Proofs.YteledfiechbhgaaGreatDoor
/- Keys that come once each, with no program in sight. -/
namespace Go.Proofs.YteledfiechbhgaaGreatDoor
open Go Go.RowKit

/-- What holds of a learner that was asked for the keys of a row, each once. -/
structure Once (m i : Nat) (row : List ByteArray) (s : Ln) : Prop where
  most : s.most = m
  fit : s.Fit (4 * i)
  inv : s.Inv
  w : s.w = 2305843009213693952
  nd : row.Nodup
  res : ∀ c ∈ s.A.res, c ∈ row
  ga : ∀ c ∈ s.GA, c ∈ row
  gb : ∀ c ∈ s.GB, c ∈ row
  len : s.A.res.length = min m row.length
  low : row.length ≤ s.A.res.length + (s.GA.length + s.GB.length) ∨ m ≤ s.GA.length + s.GB.length
theorem Once.new (kind : Int) (most : Nat) (t : List (List Nat)) (ht : ∀ l ∈ t, ∀ x ∈ l, x < 18446744073709551616) : Once most 0 [] (Ln.new kind most t 0) := by
  have hr : (Ln.new kind most t 0).A.res = [] := by
    unfold Ln.new
    dsimp only
    split <;> rfl
  exact ⟨rfl, Ln.new_fit kind most t 0 ht, Ln.new_inv kind most t 0, rfl, List.nodup_nil, (fun c hc => by rw [hr] at hc; cases hc), (fun c hc => by cases hc), (fun c hc => by cases hc), by rw [hr]; show 0 = min most 0; omega, .inl (Nat.zero_le _)⟩
theorem Once.stay {m i : Nat} {row : List ByteArray} {s : Ln} (h : Once m i row s) : Once m (i + 1) row s := ⟨h.most, h.fit.mono (by omega), h.inv, h.w, h.nd, h.res, h.ga, h.gb, h.len, h.low⟩
/-- As many ghosts as there are. -/
theorem Once.ghosts {m i : Nat} {row : List ByteArray} {s : Ln} (h : Once m i row s) : s.ghosts.length + s.A.res.length ≤ row.length ∧ min m (row.length - s.A.res.length) ≤ s.ghosts.length := by
  unfold Ln.ghosts
  rw [List.length_append]
  have h1 : ((s.GA ++ s.GB) ++ s.A.res).length ≤ row.length := by
    refine sub_len ?_ fun c hc => ?_
    · rw [List.nodup_append, List.nodup_append]
      refine ⟨⟨h.inv.ga, h.inv.gb, fun c hc d hd e => h.inv.gg c hc (e ▸ hd)⟩, h.inv.a.nodup, fun c hc d hd e => ?_⟩
      subst e
      rcases List.mem_append.1 hc with h1 | h1
      · exact h.inv.gra c h1 hd
      · exact h.inv.grb c h1 hd
    · rcases List.mem_append.1 hc with h1 | h1
      · rcases List.mem_append.1 h1 with h1 | h1
        · exact h.ga c h1
        · exact h.gb c h1
      · exact h.res c h1
  rw [List.length_append, List.length_append] at h1
  have h2 := h.low
  omega
theorem Once.req {m i : Nat} {row : List ByteArray} {s : Ln} (h : Once m i row s) (hm : 0 < m) (k : ByteArray) (hk : k ∉ row) :
    Once m (i + 1) (row ++ [k]) (s.req k).1 ∧ (s.req k).2.hit = false ∧ (s.req k).2.out = decide (m < row.length + 1) := by
  have hl := Ln.req_like s k
  have hf := Ln.req_fit h.fit k
  have hms : s.most ≠ 0 := by rw [h.most]; omega
  obtain ⟨h1, h2⟩ := Ln.req_inv h.inv hms k
  have hga : k ∉ s.GA := fun hc => hk (h.ga k hc)
  have hgb : k ∉ s.GB := fun hc => hk (h.gb k hc)
  have hr1 : s.regret k = s := Ln.regret_not h.inv k ⟨hga, hgb⟩
  have hr2 : ({ s with clock := s.clock + 1 } : Ln).regret k = { s with clock := s.clock + 1 } := Ln.regret_not (h.inv.clock _) k ⟨hga, hgb⟩
  have hnd : (row ++ [k]).Nodup := by
    rw [List.nodup_append]
    refine ⟨h.nd, List.nodup_cons.2 ⟨by simp, List.nodup_nil⟩, fun c hc d hd e => ?_⟩
    rw [List.mem_singleton] at hd
    exact hk (hd ▸ e ▸ hc)
  have hmem : ∀ {c}, c ∈ row → c ∈ row ++ [k] := fun hc => List.mem_append_left _ hc
  have hmemk : k ∈ row ++ [k] := List.mem_append_right _ (List.mem_singleton.2 rfl)
  obtain ⟨t, ht⟩ : ∃ t, (s.req k).1 = t := ⟨_, rfl⟩
  obtain ⟨st, hst⟩ : ∃ st, (s.req k).2 = st := ⟨_, rfl⟩
  rw [ht] at h1 h2 hl hf ⊢
  rw [hst] at h2 ⊢
  clear ht hst
  have hlen := h.len
  have hlow := h.low
  have hmst := h.most
  cases h2 with
  | hit hk2 => exact absurd (h.res k hk2) hk
  | less hk2 hlt res ga gb w =>
    rw [hr1] at ga gb
    rw [hr2] at w
    rw [hmst] at hlt
    have el : t.A.res.length = s.A.res.length + 1 := same_len (m := k :: s.A.res) h1.a.nodup (List.nodup_cons.2 ⟨hk2, h.inv.a.nodup⟩) (fun c => by rw [res, List.mem_cons])
    refine ⟨⟨hl.most.trans h.most, hf.mono (by omega), h1, w.trans h.w, hnd, fun c hc => ?_, fun c hc => hmem (h.ga c (by rw [ga] at hc; exact hc)), fun c hc => hmem (h.gb c (by rw [gb] at hc; exact hc)), ?_, ?_⟩, rfl, ?_⟩
    · rcases (res c).1 hc with rfl | h3
      · exact hmemk
      · exact hmem (h.res c h3)
    · rw [el, List.length_append, List.length_singleton]
      omega
    · rw [el, ga, gb, List.length_append, List.length_singleton]
      omega
    · exact (decide_eq_false (by omega)).symm
  | full v hk2 hlt hv res rows w =>
    rw [hr1] at rows
    rw [hr2] at w
    rw [hmst] at hlt rows
    have hkv : k ∉ kDel s.A.res v := fun hc => hk2 (kDel_sub hc)
    have el : t.A.res.length = s.A.res.length := by
      have e1 : t.A.res.length = (k :: kDel s.A.res v).length := same_len h1.a.nodup (List.nodup_cons.2 ⟨hkv, kDel_nodup v h.inv.a.nodup⟩) (fun c => by rw [res, List.mem_cons, kDel_mem])
      rw [e1, List.length_cons, kDel_length h.inv.a.nodup hv]
    refine ⟨⟨hl.most.trans h.most, hf.mono (by omega), h1, w.trans h.w, hnd, fun c hc => ?_, fun c hc => ?_, fun c hc => ?_, ?_, ?_⟩, rfl, ?_⟩
    · rcases (res c).1 hc with rfl | h3
      · exact hmemk
      · exact hmem (h.res c h3.1)
    · rcases rows with ⟨_, ea, eb⟩ | ⟨_, ea, eb⟩
      · rw [ea] at hc
        rcases List.mem_cons.1 (List.mem_of_mem_take hc) with rfl | h3
        · exact hmem (h.res _ hv)
        · exact hmem (h.ga c h3)
      · rw [ea] at hc
        exact hmem (h.ga c hc)
    · rcases rows with ⟨_, ea, eb⟩ | ⟨_, ea, eb⟩
      · rw [eb] at hc
        exact hmem (h.gb c hc)
      · rw [eb] at hc
        rcases List.mem_cons.1 (List.mem_of_mem_take hc) with rfl | h3
        · exact hmem (h.res _ hv)
        · exact hmem (h.gb c h3)
    · rw [el, List.length_append, List.length_singleton]
      omega
    · rw [el, List.length_append, List.length_singleton]
      rcases rows with ⟨_, ea, eb⟩ | ⟨_, ea, eb⟩
      · rw [ea, eb, List.length_take, List.length_cons]
        omega
      · rw [ea, eb, List.length_take, List.length_cons]
        omega
    · exact (decide_eq_true (by omega)).symm
end Go.Proofs.YteledfiechbhgaaGreatDoor
/- What regret does to a weight, with no program in sight. -/
namespace Go.Proofs.YteledfiechbhgaaGreatDoor
open Go Go.RowKit

/-- A share with less of the first is less; with less of the second one it is more. -/
theorem share_a {w b p One : Nat} (hp : p ≤ w) (hb : w + b = One) : p * One / (p + b) ≤ w := by
  refine Nat.div_le_of_le_mul ?_
  rw [← hb, Nat.mul_add, Nat.add_mul, Nat.mul_comm b w]
  have h1 : p * b ≤ w * b := Nat.mul_le_mul_right b hp
  omega
theorem share_b {w b q One : Nat} (hq : q ≤ b) (hb : w + b = One) (h0 : 0 < w + q) : w ≤ w * One / (w + q) := by
  rw [Nat.le_div_iff_mul_le h0]
  exact Nat.mul_le_mul_left w (by omega)
theorem fshare_down {w f : Nat} (h : 46116860184273879 ≤ w ∧ w ≤ 4611686018427387904 - 46116860184273879) (hf : f ≤ 4611686018427387904) : fshare (fmul w f) (fOne - w) 46116860184273879 ≤ w := by
  have h1 : fmul w f ≤ w := fmul_le w f (by omega) hf
  obtain ⟨p, hp⟩ : ∃ p, fmul w f = p := ⟨_, rfl⟩
  rw [hp] at h1 ⊢
  have hb : w + (fOne - w) = 4611686018427387904 := by unfold fOne; omega
  obtain ⟨b, hb2⟩ : ∃ b, fOne - w = b := ⟨_, rfl⟩
  rw [hb2] at hb ⊢
  have hn : ¬ badShare p b 46116860184273879 := by unfold badShare; omega
  have hh : half2 p b = (p, b) := by unfold half2; rw [if_pos (by omega)]
  rw [fshare_eq hn, hh]
  dsimp only
  have hq : fover p (p + b) ≤ w := by
    have := share_a h1 hb
    unfold fover
    split
    · exact this
    · omega
  omega
theorem fshare_up {w f : Nat} (h : 46116860184273879 ≤ w ∧ w ≤ 4611686018427387904 - 46116860184273879) (hf : f ≤ 4611686018427387904) : w ≤ fshare w (fmul (fOne - w) f) 46116860184273879 := by
  have hb : w + (fOne - w) = 4611686018427387904 := by unfold fOne; omega
  obtain ⟨b, hb2⟩ : ∃ b, fOne - w = b := ⟨_, rfl⟩
  rw [hb2] at hb ⊢
  have h1 : fmul b f ≤ b := fmul_le b f (by omega) hf
  obtain ⟨q, hq⟩ : ∃ q, fmul b f = q := ⟨_, rfl⟩
  rw [hq] at h1 ⊢
  have hn : ¬ badShare w q 46116860184273879 := by unfold badShare; omega
  have hh : half2 w q = (w, q) := by unfold half2; rw [if_pos (by omega)]
  rw [fshare_eq hn, hh]
  dsimp only
  have hq : w ≤ fover w (w + q) := by
    have := share_b h1 hb (by omega)
    unfold fover
    split
    · exact this
    · omega
  omega
theorem Ln.window5 {s : Ln} (h : s.kind = 5) : s.window = { s with asked := s.asked + 1 } := by
  unfold Ln.window
  dsimp only
  rw [if_pos (.inl (by rw [h]; decide))]
/-- Of kind 5 a draw is taken where one goes, and nowhere else. -/
theorem Ln.req_tape5 {s : Ln} (h : s.Inv) (h5 : s.kind = 5) (k : ByteArray) : (s.req k).1.tape = if (s.req k).2.out then tNext s.tape s.lane else s.tape := by
  unfold Ln.req
  dsimp only
  split
  · rfl
  rename_i hm
  split
  · rw [Ln.window5 (by exact h5)]
    rfl
  · dsimp only
    have h0 := h.clock (s.clock + 1)
    obtain ⟨s0, hs0⟩ : ∃ s0, ({ s with clock := s.clock + 1 } : Ln) = s0 := ⟨_, rfl⟩
    obtain ⟨k1, k2, k3, k4, k5⟩ := Ln.regret_keep ({ s with clock := s.clock + 1 } : Ln) k
    have hk : (({ s with clock := s.clock + 1 } : Ln).regret k).kind = 5 := ((Ln.regret_like _ k).kind).trans h5
    rw [hs0] at h0 k1 k2 k3 k4 k5 hk ⊢
    have e3 : s0.tape = s.tape := by rw [← hs0]
    have e4 : s0.lane = s.lane := by rw [← hs0]
    have e5 : s0.most = s.most := by rw [← hs0]
    obtain ⟨r1, r2, _, _, _⟩ := Ln.regret_inv h0 k
    obtain ⟨s1, hs1⟩ : ∃ s1, s0.regret k = s1 := ⟨_, rfl⟩
    rw [hs1] at r1 r2 k1 k2 k3 k4 k5 hk ⊢
    by_cases hl : s1.A.res.length < s1.most
    · rw [Ln.room_less hl]
      dsimp only
      rw [Ln.window5 (by exact hk)]
      show s1.tape = _
      rw [k1, e3]
      rfl
    · obtain ⟨v, v1, v2, _, _⟩ := Ln.room_full r1 (by rw [k3, e5]; exact hm) hl
      have hk2 : s1.room.1.kind = 5 := ((Ln.room_like s1).kind).trans hk
      obtain ⟨s2, hs2⟩ : ∃ s2, s1.room.1 = s2 := ⟨_, rfl⟩
      rw [v1]
      rw [hs2] at v2 hk2 ⊢
      dsimp only
      rw [Ln.window5 (by exact hk2)]
      show s2.tape = _
      rw [v2.tape, k1, k2, e3, e4]
      rfl
/-- What holds of a learner of kind 5, and of a map that tells who let a key go. -/
structure Regr (m i at_ : Nat) (lane : List Nat) (by_ : ByteArray → Bool) (s : Ln) : Prop where
  most : s.most = m
  kind : s.kind = 5
  zero : s.lane = 0
  fit : s.Fit (4 * i)
  inv : s.Inv
  tape : s.tape = [lane.drop at_]
  ga : ∀ c ∈ s.GA, by_ c = true
  gb : ∀ c ∈ s.GB, by_ c = false
theorem Regr.new (most : Nat) (lane : List Nat) (ht : ∀ x ∈ lane, x < 18446744073709551616) (f : ByteArray → Bool) : Regr most 0 0 lane f (Ln.new 5 most [lane] 0) :=
  ⟨rfl, rfl, rfl, Ln.new_fit 5 most [lane] 0 (by intro l hl x hx; rw [List.mem_singleton] at hl; subst hl; exact ht x hx), Ln.new_inv 5 most [lane] 0, by rw [List.drop_zero]; rfl, (fun c hc => by cases hc), (fun c hc => by cases hc)⟩
/-- What a request does to the weight. -/
structure RegrStep (s t : Ln) (k : ByteArray) (f : ByteArray → Bool) (hit : Bool) : Prop where
  no : k ∉ s.ghosts → t.w = s.w
  hit : k ∈ s.ghosts → hit = false
  down : k ∈ s.ghosts → f k = true → t.w ≤ s.w
  up : k ∈ s.ghosts → f k = false → s.w ≤ t.w
theorem Ln.regret_w {s : Ln} (h : s.Inv) (hw : 46116860184273879 ≤ s.w ∧ s.w ≤ 4611686018427387904 - 46116860184273879) (k : ByteArray) :
    (k ∉ s.ghosts → (s.regret k).w = s.w) ∧ (k ∈ s.GA → (s.regret k).w ≤ s.w) ∧ (k ∈ s.GB → s.w ≤ (s.regret k).w) := by
  unfold Ln.ghosts
  by_cases hk : k ∈ s.GA ∨ k ∈ s.GB
  · obtain ⟨f, hf⟩ := Ln.regret_yes h k hk
    refine ⟨fun h => absurd (List.mem_append.2 hk) h, fun ha => ?_, fun hb => ?_⟩
    · rw [hf]
      show (if k ∈ s.GA then _ else _) ≤ s.w
      rw [if_pos ha, fpart_100]
      exact fshare_down hw (ffall_le f)
    · rw [hf]
      show s.w ≤ (if k ∈ s.GA then _ else _)
      rw [if_neg (fun ha => h.gg k ha hb), fpart_100]
      exact fshare_up hw (ffall_le f)
  · rw [Ln.regret_not h k ⟨fun h => hk (.inl h), fun h => hk (.inr h)⟩]
    exact ⟨fun _ => rfl, fun _ => Nat.le_refl _, fun _ => Nat.le_refl _⟩
theorem drop_head (lane : List Nat) (j : Nat) : tHead [lane.drop j] 0 = lane[j]?.getD 0 := by
  unfold tHead
  show ((lane.drop j).head?).getD 0 = _
  rw [List.head?_drop]
theorem drop_next (lane : List Nat) (j : Nat) : tNext [lane.drop j] 0 = [lane.drop (j + 1)] := by
  show [(lane.drop j).tail] = _
  rw [List.tail_drop]
theorem Regr.req {m i at_ : Nat} {lane : List Nat} {f : ByteArray → Bool} {s : Ln} (h : Regr m i at_ lane f s) (hm : 0 < m) (k : ByteArray) :
    RegrStep s (s.req k).1 k f (s.req k).2.hit ∧
    ((s.req k).2.out = false → Regr m (i + 1) at_ lane f (s.req k).1) ∧
    ((s.req k).2.out = true → ∀ f' : ByteArray → Bool, (∀ c, f' c = if c = (s.req k).2.victim then decide (lane[at_]?.getD 0 / 4 < (s.req k).1.w) else f c) → Regr m (i + 1) (at_ + 1) lane f' (s.req k).1) := by
  have hl := Ln.req_like s k
  have hf := Ln.req_fit h.fit k
  have htp := Ln.req_tape5 h.inv h.kind k
  obtain ⟨h1, h2⟩ := Ln.req_inv h.inv (by rw [h.most]; omega) k
  have hw := h.fit.w
  obtain ⟨w1, w2, w3⟩ := Ln.regret_w (s := { s with clock := s.clock + 1 }) (h.inv.clock _) hw k
  have hgk := Ln.regret_inv h.inv k
  obtain ⟨_, ⟨hkA, hkB⟩, _, _, hoth⟩ := hgk
  have eg : ({ s with clock := s.clock + 1 } : Ln).ghosts = s.ghosts := rfl
  rw [eg] at w1
  have hgm : ∀ c, c ∈ s.ghosts ↔ c ∈ s.GA ∨ c ∈ s.GB := fun c => List.mem_append
  -- the ghosts that are left are those that were, but for the key
  have hA : ∀ c ∈ (s.regret k).GA, c ∈ s.GA := fun c hc => ((hoth c (fun e => hkA (e ▸ hc))).1).1 hc
  have hB : ∀ c ∈ (s.regret k).GB, c ∈ s.GB := fun c hc => ((hoth c (fun e => hkB (e ▸ hc))).2).1 hc
  have wStep : ∀ {t : Ln}, t.w = (({ s with clock := s.clock + 1 } : Ln).regret k).w → ∀ {hit : Bool}, (k ∈ s.ghosts → hit = false) → RegrStep s t k f hit := fun {t} e {hit} hh => by
    refine ⟨fun hn => by rw [e]; exact w1 hn, hh, fun hg hb => ?_, fun hg hb => ?_⟩
    · rcases (hgm k).1 hg with h3 | h3
      · rw [e]; exact w2 h3
      · rw [h.gb k h3] at hb; cases hb
    · rcases (hgm k).1 hg with h3 | h3
      · rw [h.ga k h3] at hb; cases hb
      · rw [e]; exact w3 h3
  have htape := h.tape
  have hlane := h.zero
  obtain ⟨t, ht⟩ : ∃ t, (s.req k).1 = t := ⟨_, rfl⟩
  obtain ⟨st, hst⟩ : ∃ st, (s.req k).2 = st := ⟨_, rfl⟩
  rw [ht] at h1 h2 hl hf htp ⊢
  rw [hst] at h2 htp ⊢
  clear ht hst
  rw [hlane, htape, drop_next] at htp
  cases h2 with
  | hit hk res ga gb w =>
    refine ⟨⟨fun _ => w, fun hg => ?_, fun hg => ?_, fun hg => ?_⟩, fun _ => ⟨hl.most.trans h.most, hl.kind.trans h.kind, hl.lane.trans h.zero, hf, h1, htp, fun c hc => h.ga c (by rw [ga] at hc; exact hc), fun c hc => h.gb c (by rw [gb] at hc; exact hc)⟩, fun h => by cases h⟩
    all_goals
      exfalso
      rcases (hgm k).1 hg with h3 | h3
      · exact h.inv.gra k h3 hk
      · exact h.inv.grb k h3 hk
  | less hk hlt res ga gb w =>
    refine ⟨wStep w (fun _ => rfl), fun _ => ⟨hl.most.trans h.most, hl.kind.trans h.kind, hl.lane.trans h.zero, hf, h1, htp, fun c hc => h.ga c (hA c (by rw [ga] at hc; exact hc)), fun c hc => h.gb c (hB c (by rw [gb] at hc; exact hc))⟩, fun h => by cases h⟩
  | full v hk hlt hv res rows w =>
    refine ⟨wStep w (fun _ => rfl), (fun h => by cases h), fun _ f' hf' => ⟨hl.most.trans h.most, hl.kind.trans h.kind, hl.lane.trans h.zero, hf, h1, htp, fun c hc => ?_, fun c hc => ?_⟩⟩
    all_goals
      rw [hlane, htape, drop_head] at rows
      dsimp only at hf'
      have hvA : v ∉ s.GA := fun hc => h.inv.gra v hc hv
      have hvB : v ∉ s.GB := fun hc => h.inv.grb v hc hv
      rw [hf']
    · rcases rows with ⟨hd, ea, eb⟩ | ⟨hd, ea, eb⟩
      · rw [ea] at hc
        rcases List.mem_cons.1 (List.mem_of_mem_take hc) with rfl | h3
        · rw [if_pos rfl]; exact hd
        · have h4 := hA c h3
          rw [if_neg (show ¬ c = v from fun e => hvA (e ▸ h4))]
          exact h.ga c h4
      · rw [ea] at hc
        have h4 := hA c hc
        rw [if_neg (show ¬ c = v from fun e => hvA (e ▸ h4))]
        exact h.ga c h4
    · rcases rows with ⟨hd, ea, eb⟩ | ⟨hd, ea, eb⟩
      · rw [eb] at hc
        have h4 := hB c hc
        rw [if_neg (show ¬ c = v from fun e => hvB (e ▸ h4))]
        exact h.gb c h4
      · rw [eb] at hc
        rcases List.mem_cons.1 (List.mem_of_mem_take hc) with rfl | h3
        · rw [if_pos rfl]; exact hd
        · have h4 := hB c h3
          rw [if_neg (show ¬ c = v from fun e => hvB (e ▸ h4))]
          exact h.gb c h4
end Go.Proofs.YteledfiechbhgaaGreatDoor
