/- cachewiseref01: the sum of two rows of bits. -/
import Derived.Test.YtfdeafiidaepgaaDoorFixRef
namespace Go.Proofs.YtfdeafiidaepgaaDoor
open Go Go.RowKit Go.Shelf Go.Proofs.Mul64

def sumBits (f : Nat → Nat) : Nat → Nat
  | 0 => 0
  | k + 1 => sumBits f k + 2 ^ k * f k
theorem two_step (k x : Nat) : 2 ^ (k + 1) * x = 2 * (2 ^ k * x) := by rw [Nat.pow_succ, Nat.mul_comm (2 ^ k) 2, Nat.mul_assoc]
theorem sumBits_cons (f : Nat → Nat) (n : Nat) : sumBits f (n + 1) = f 0 + 2 * sumBits (fun i => f (i + 1)) n := by
  induction n with
  | zero => simp [sumBits]
  | succ n ih =>
    rw [sumBits, ih, sumBits, two_step]
    omega
theorem sumBits_zero (n : Nat) : sumBits (fun _ => 0) n = 0 := by
  induction n with
  | zero => rfl
  | succ n ih => rw [sumBits, ih]; simp
theorem sumBits_congr {f g : Nat → Nat} (h : ∀ i, f i = g i) (n : Nat) : sumBits f n = sumBits g n := by rw [show f = g from funext h]
theorem sumBits_val : ∀ (l : List Nat) (n : Nat), l.length ≤ n → sumBits (fun i => bitAt l i) n = val l
  | [], n, _ => by rw [sumBits_congr (g := fun _ => 0) (fun i => by simp [bitAt, List.getD])]; exact sumBits_zero n
  | b :: l, n + 1, h => by
    rw [sumBits_cons, val, sumBits_congr (g := fun i => bitAt l i) (fun i => ?_), sumBits_val l n (by simpa using h)]
    · simp [bitAt, List.getD]
    · unfold bitAt
      rw [if_neg (by omega), if_neg (by omega), Int.toNat_natCast, Int.toNat_natCast]
      simp [List.getD]
theorem sumBits_shift (l : List Nat) (n : Nat) : ∀ up : Nat, sumBits (fun i => bitAt l ((i : Int) - up)) (n + up) = 2 ^ up * sumBits (fun i => bitAt l i) n
  | 0 => by simp
  | up + 1 => by
    rw [← Nat.add_assoc, sumBits_cons, sumBits_congr (g := fun i => bitAt l ((i : Int) - up)) (fun i => ?_), sumBits_shift l n up, two_step]
    · rw [show bitAt l (((0 : Nat) : Int) - ((up + 1 : Nat) : Int)) = 0 from if_pos (by omega)]
      omega
    · congr 1; omega
theorem val_lt {l : List Nat} (h : Bits l) : val l < 2 ^ l.length := by
  induction l with
  | nil => simp [val]
  | cons b l ih =>
    have h1 := ih fun c hc => h c (List.mem_cons_of_mem _ hc)
    have h2 := h b List.mem_cons_self
    rw [val, List.length_cons, Nat.pow_succ]
    omega
theorem bitAt_le {l : List Nat} (h : Bits l) (i : Int) : bitAt l i ≤ 1 := by
  unfold bitAt
  split
  · omega
  · rw [List.getD]
    cases hh : l[i.toNat]? with
    | none => simp
    | some b => exact h b (List.mem_of_getElem? hh)

theorem plus_end {la lb out : List Nat} {up c : Nat} (ha : Bits la) (hb : Bits lb)
    (h : val out + 2 ^ (la.length + lb.length + up + 1) * c = sumBits (fun i => bitAt la i) (la.length + lb.length + up + 1) + sumBits (fun i => bitAt lb ((i : Int) - up)) (la.length + lb.length + up + 1)) :
    val out = val la + 2 ^ up * val lb := by
  have e1 : sumBits (fun i => bitAt la i) (la.length + lb.length + up + 1) = val la := sumBits_val la _ (by omega)
  have e2 : sumBits (fun i => bitAt lb ((i : Int) - up)) (la.length + lb.length + up + 1) = 2 ^ up * val lb := by
    rw [show la.length + lb.length + up + 1 = (la.length + lb.length + 1) + up by omega, sumBits_shift, sumBits_val lb _ (by omega)]
  rw [e1, e2] at h
  have h1 := val_lt ha
  have h2 : 2 ^ up * val lb < 2 ^ up * 2 ^ lb.length := Nat.mul_lt_mul_of_pos_left (val_lt hb) (Nat.two_pow_pos _)
  rw [← Nat.pow_add] at h2
  have h3 : 2 ^ la.length ≤ 2 ^ (la.length + lb.length + up) := Nat.pow_le_pow_right (by omega) (by omega)
  have h4 : 2 ^ (up + lb.length) ≤ 2 ^ (la.length + lb.length + up) := Nat.pow_le_pow_right (by omega) (by omega)
  rw [two_step] at h
  rcases Nat.eq_zero_or_pos c with rfl | hc
  · simpa using h
  · have h5 : 2 ^ (la.length + lb.length + up) * 1 ≤ 2 ^ (la.length + lb.length + up) * c := Nat.mul_le_mul_left _ hc
    omega

set_option maxHeartbeats 1000000 in
theorem Ref_plus (sa sb : Value) (la lb : List Nat) (up : Nat) (w : World) (ha : RowAt w sa (bv la)) (hb : RowAt w sb (bv lb)) (hba : Bits la) (hbb : Bits lb) (hla : la.length ≤ 1000000) (hlb : lb.length ≤ 1000000) (hup : up ≤ 1000000) :
    Calls Tryd.prog 39 #[sa, sb, .int .i64 up] w fun r w' => ∃ s l, r = .returned s ∧ RowAt w' s (bv l) ∧ val l = val la + 2 ^ up * val lb ∧ Bits l ∧ l.length = la.length + lb.length + up + 1 ∧ Keep w w' := by
  obtain ⟨i, hi, hz0, hz1, hz2⟩ := info_parts infoInt
  have hi := hide hi
  have hz0 := hide hz0
  have hz1 := hide hz1
  have hz2 := hide hz2
  obtain ⟨aoa, capa, rfl⟩ := ha.shape
  obtain ⟨aob, capb, rfl⟩ := hb.shape
  rw [bv_length] at ha ⊢
  rw [bv_length] at hb ⊢
  have haH := hide ha
  have hbH := hide hb
  have hbaH := hide hba
  have hbbH := hide hbb
  clear ha hb hba hbb
  obtain ⟨na, hna⟩ : ∃ na, la.length = na := ⟨_, rfl⟩
  obtain ⟨nb, hnb⟩ : ∃ nb, lb.length = nb := ⟨_, rfl⟩
  rw [hna] at haH hla ⊢
  rw [hnb] at hbH hlb ⊢
  obtain ⟨N, hN⟩ : ∃ N, na + nb + up + 1 = N := ⟨_, rfl⟩
  have e1 : IntKind.i64.wrap ((na : Int) + (nb : Int)) = ((na + nb : Nat) : Int) := by rw [addN]; exact IntWalk.i64_in _ (by omega)
  have e2 : IntKind.i64.wrap (((na + nb : Nat) : Int) + (up : Int)) = ((na + nb + up : Nat) : Int) := by rw [addN]; exact IntWalk.i64_in _ (by omega)
  have e3 : IntKind.i64.wrap (((na + nb + up : Nat) : Int) + 1) = (N : Int) := by rw [show ((na + nb + up : Nat) : Int) + 1 = (N : Int) by omega]; exact IntWalk.i64_in _ (by omega)
  have hNl : N ≤ 3000001 := by omega
  obtain ⟨p1, hp1⟩ : ∃ p1, na + nb = p1 := ⟨_, rfl⟩
  rw [hp1] at e1 e2 e3
  obtain ⟨p2, hp2⟩ : ∃ p2, p1 + up = p2 := ⟨_, rfl⟩
  rw [hp2] at e2 e3
  have hNH := hide (show la.length + lb.length + up + 1 = N by omega)
  rw [hN]
  clear hna hnb hN hp1 hp2
  go_enter Tryd.func39, Tryd.ntmps39
  go_wp2
  go_loopw [7, 8, 9] (fun o c i wr => ∃ (k d : Nat) (l : List Nat), i = .int .i64 k ∧ c = .int .i64 d ∧ d ≤ 1 ∧ k ≤ N ∧ l.length = k ∧ val l + 2 ^ k * d = sumBits (fun i => bitAt la i) k + sumBits (fun i => bitAt lb ((i : Int) - up)) k ∧ Bits l ∧ Holds w wr [OwnRow 3 1 o k (bv l)]) (fun _ _ i _ => (N - intOf i).toNat)
  case atStart => exact ⟨0, 0, [], rfl, rfl, by omega, by omega, rfl, by simp [val, sumBits], fun b hb => (List.not_mem_nil hb).elim, (Holds.start w).ownNil _ _⟩
  case round =>
    obtain ⟨k, d, l, rfl, rfl, hd, hk, hl, hval, hbits, hh⟩ := hrel
    have hH := hide hh
    have hvalH := hide hval
    have hbH' := hide hbits
    have hlH := hide hl
    clear hh hval hbits hl
    by_cases hkN : k < N
    · have hkN' : (k : Int) < N := by omega
      have i0 : IntKind.i64.wrap ((k : Int) - (up : Int)) = (k : Int) - (up : Int) := IntWalk.i64_in _ (by omega)
      have hx := bitAt_le hbaH.out k
      have hy := bitAt_le hbbH.out ((k : Int) - up)
      have hA := hide (Ref_bit _ la k wr (haH.out.keep hH.out.toKeep))
      have hB := hide fun w1 (hk : Keep wr w1) => Ref_bit _ lb ((k : Int) - up) w1 (hbH.out.keep (hH.out.toKeep.trans hk))
      obtain ⟨x, hx'⟩ : ∃ x, bitAt la k = x := ⟨_, rfl⟩
      obtain ⟨y, hy'⟩ : ∃ y, bitAt lb ((k : Int) - up) = y := ⟨_, rfl⟩
      rw [hx'] at hx hA
      rw [hy'] at hy hB
      have i1 : IntKind.i64.wrap ((x : Int) + (y : Int)) = ((x + y : Nat) : Int) := by rw [addN]; exact IntWalk.i64_in _ (by omega)
      have i2 : IntKind.i64.wrap (((x + y : Nat) : Int) + (d : Int)) = ((x + y + d : Nat) : Int) := by rw [addN]; exact IntWalk.i64_in _ (by omega)
      have i3 : ((x + y + d : Nat) : Int).tmod 2 = (((x + y + d) % 2 : Nat) : Int) := rfl
      have i4 : ((x + y + d : Nat) : Int).tdiv 2 = (((x + y + d) / 2 : Nat) : Int) := rfl
      have hm := hide (show 2 * ((x + y + d) / 2) + (x + y + d) % 2 = x + y + d by omega)
      have hml : (x + y + d) % 2 ≤ 1 := by omega
      have hdl : (x + y + d) / 2 ≤ 1 := by omega
      have hst : val l + 2 ^ k * (2 * ((x + y + d) / 2) + (x + y + d) % 2) = sumBits (fun i => bitAt la i) (k + 1) + sumBits (fun i => bitAt lb ((i : Int) - up)) (k + 1) := by
        rw [hm.out, sumBits, sumBits, hx', hy', Nat.mul_add, Nat.mul_add]
        have := hvalH.out
        omega
      obtain ⟨c, hc⟩ : ∃ c, (x + y + d) % 2 = c := ⟨_, rfl⟩
      obtain ⟨e, he⟩ : ∃ e, (x + y + d) / 2 = e := ⟨_, rfl⟩
      rw [hc] at i3 hm hml hst
      rw [he] at i4 hm hdl hst
      have i5 : IntKind.i64.wrap (e : Int) = (e : Int) := IntWalk.i64_in _ (by omega)
      have i6 : IntKind.i64.wrap ((k : Int) + 1) = ((k + 1 : Nat) : Int) := by rw [show (k : Int) + 1 = ((k + 1 : Nat) : Int) by omega]; exact IntWalk.i64_in _ (by omega)
      have hst := hide hst
      obtain ⟨t1, ht1⟩ : ∃ t, x + y = t := ⟨_, rfl⟩
      rw [ht1] at i1 i2 i3 i4
      obtain ⟨t2, ht2⟩ : ∃ t, t1 + d = t := ⟨_, rfl⟩
      rw [ht2] at i2 i3 i4
      clear hx' hy' hc he ht1 ht2
      go_wp2_with (first
        | (go_at_call 48; (with_reducible refine hA.out.mono ?_); rintro r w1 ⟨rfl, hk⟩; have hk1 := hide hk; clear hk)
        | (go_at_call 48; (with_reducible refine (hB.out _ hk1.out).mono ?_); rintro r w2 ⟨rfl, hk⟩; have hH2 := hide (hH.out.keep (hk1.out.trans hk)); clear hk)
        | (at_builtin; refine wpList_append_own_at _ rfl _ _ 56 rfl w.heap.size 3 i (.int .i64 0) 1 8 Tryd.underlying56 hi.out hz0.out hz1.out hz2.out rfl (by decide) _ k (bv l) rfl (hH2.out.alloc.drop).ownsRow _ 1 _ [.int .i64 (c : Nat)] rfl rfl (cell_one_new _ _ _) (by simp [Value.oneCell']) (by simp only [maxLen]; omega) (by omega) (by have := hH2.out.size; simp only [World.size_alloc]; omega) ?_))
      intro v' w' ho hg _ hb
      have h2 := hide (hH2.out.alloc.drop.grown ho hg (by rcases hb with hb | hb; exact .inl hb; exact .inr ⟨_, hb, by simp⟩))
      clear ho hg hb
      go_wp2
      go_roundw
      case rel =>
        refine ⟨k + 1, e, l ++ [c], rfl, rfl, hdl, by omega, by rw [List.length_append, List.length_singleton, hlH.out], ?_, bits_snoc hbH'.out hml, ?_⟩
        · rw [val_snoc, hlH.out, ← hst.out, two_step, Nat.mul_add, ← Nat.mul_assoc, ← Nat.mul_assoc, Nat.mul_comm (2 ^ k) 2]
          omega
        · rw [bv_snoc]
          exact h2.out
      case measure => (simp [intOf]; omega)
    · obtain rfl : k = N := by omega
      go_wp2
      go_ret
      refine ⟨_, l, rfl, hH.out.rowAt, ?_, hbH'.out, hlH.out, hH.out.toKeep⟩
      have := hvalH.out
      rw [← hNH.out] at this
      exact plus_end hbaH.out hbbH.out this
end Go.Proofs.YtfdeafiidaepgaaDoor
