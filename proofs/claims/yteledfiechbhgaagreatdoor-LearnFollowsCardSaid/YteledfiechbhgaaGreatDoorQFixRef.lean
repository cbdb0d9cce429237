/- cachewiseref01: rows of bits. -/
import Derived.Test.YteledfiechbhgaaGreatDoorQFixShare
import Derived.Test.YteledfiechbhgaaGreatDoorQRow
namespace Go.Proofs.YteledfiechbhgaaGreatDoor
open Go Go.RowKit Go.Shelf Go.Proofs.Mul64

def bv (l : List Nat) : List Value := l.map fun b => .int .i64 (b : Nat)
def val : List Nat → Nat
  | [] => 0
  | b :: l => b + 2 * val l
theorem val_snoc (l : List Nat) (b : Nat) : val (l ++ [b]) = val l + 2 ^ l.length * b := by
  induction l with
  | nil => simp [val]
  | cons c l ih =>
    have h : 2 ^ (l.length + 1) * b = 2 * (2 ^ l.length * b) := by rw [Nat.pow_succ, Nat.mul_comm (2 ^ l.length) 2, Nat.mul_assoc]
    rw [List.cons_append, val, ih, val, List.length_cons, h]
    omega
theorem bv_snoc (l : List Nat) (b : Nat) : bv (l ++ [b]) = bv l ++ [.int .i64 (b : Nat)] := by simp [bv]
theorem bv_length (l : List Nat) : (bv l).length = l.length := by simp [bv]
def Bits (l : List Nat) : Prop := ∀ b, b ∈ l → b ≤ 1
theorem bits_snoc {l : List Nat} {b : Nat} (h : Bits l) (hb : b ≤ 1) : Bits (l ++ [b]) := fun c hc => by
  rcases List.mem_append.1 hc with hc | hc
  · exact h c hc
  · rw [List.mem_singleton.1 hc]; exact hb

theorem infoInt : (Tryz.prog.info? 3).map (fun i => (i.zero, i.size, i.bytes)) = some (some (.int .i64 0), 1, 8) := by kernel_rfl

theorem Ref_row (v : Nat) (hv : v < 18446744073709551616) (w : World) :
    Calls Tryz.prog 86 #[.int .u64 v] w fun r w' => ∃ s l, r = .returned s ∧ RowAt w' s (bv l) ∧ val l = v ∧ Bits l ∧ l.length ≤ 64 ∧ Keep w w' := by
  obtain ⟨i, hi, hz0, hz1, hz2⟩ := info_parts infoInt
  have hi := hide hi
  have hz0 := hide hz0
  have hz1 := hide hz1
  have hz2 := hide hz2
  go_enter Tryz.func86, Tryz.ntmps86
  go_wp2
  go_loopw [0, 3] (fun a b wr => ∃ (k : Nat) (l : List Nat), a = .int .u64 k ∧ k < 2 ^ (64 - l.length) ∧ l.length ≤ 64 ∧ val l + 2 ^ l.length * k = v ∧ Bits l ∧ Holds w wr [OwnRow 3 1 b l.length (bv l)]) (fun a _ _ => (intOf a).toNat)
  case atStart => exact ⟨v, [], rfl, by simpa using hv, by simp, by simp [val], fun b hb => (List.not_mem_nil hb).elim, (Holds.start w).ownNil _ _⟩
  case round =>
    obtain ⟨k, l, rfl, hk, hl, hval, hbits, hh⟩ := hrel
    have hH := hide hh
    have hvalH := hide hval
    have hbH := hide hbits
    have hkH := hide hk
    clear hh hval hbits hk
    rcases Nat.eq_zero_or_pos k with rfl | h0
    · go_wp2
      go_ret
      exact ⟨_, l, rfl, hH.out.rowAt, by simpa using hvalH.out, hbH.out, hl, hH.out.toKeep⟩
    · have h0' : (0 : Int) < k := by omega
      have hlt : l.length < 64 := by
        rcases Nat.lt_or_ge l.length 64 with h | h
        · exact h
        · have := hkH.out
          rw [show 64 - l.length = 0 by omega] at this
          omega
      have e1 : (k : Int).tmod 2 = ((k % 2 : Nat) : Int) := rfl
      have e2 : (k : Int).tdiv 2 = ((k / 2 : Nat) : Int) := rfl
      have hm : k % 2 ≤ 1 := by omega
      have hstep : 2 * (k / 2) + k % 2 = k := by omega
      obtain ⟨c, hc⟩ : ∃ c, k % 2 = c := ⟨_, rfl⟩
      obtain ⟨d, hd⟩ : ∃ d, k / 2 = d := ⟨_, rfl⟩
      rw [hc] at e1 hm hstep
      rw [hd] at e2 hstep
      have hdk : d < k := by omega
      have e3 : IntKind.i64.wrap (c : Int) = (c : Int) := IntWalk.i64_in _ (by omega)
      have e4 : IntKind.u64.wrap (d : Int) = (d : Int) := by
        have : k < 2 ^ 64 := Nat.lt_of_lt_of_le hkH.out (Nat.pow_le_pow_right (by omega) (by omega))
        exact wrapN _ (by omega)
      have hstep := hide hstep
      clear hc hd
      go_wp2_with (at_builtin; refine wpList_append_own_at _ rfl _ _ 137 rfl w.heap.size 3 i (.int .i64 0) 1 8 Tryz.underlying137 hi.out hz0.out hz1.out hz2.out rfl (by decide) _ l.length (bv l) rfl (hH.out.alloc.drop).ownsRow _ 1 _ [.int .i64 (c : Nat)] rfl rfl (cell_one_new _ _ _) (by simp [Value.oneCell']) (by simp only [maxLen]; omega) (by omega) (by have := hH.out.size; simp only [World.size_alloc]; omega) ?_)
      intro v' w' ho hg _ hb
      have h2 := hide (hH.out.alloc.drop.grown ho hg (by rcases hb with hb | hb; exact .inl hb; exact .inr ⟨_, hb, by simp⟩))
      clear ho hg hb
      go_wp2
      go_roundw
      case rel =>
        refine ⟨d, l ++ [c], rfl, ?_, by simp; omega, ?_, bits_snoc hbH.out hm, ?_⟩
        · have := hkH.out
          rw [show 64 - l.length = (64 - (l ++ [c]).length) + 1 by simp; omega, Nat.pow_succ] at this
          have := hstep.out
          omega
        · rw [val_snoc, ← hvalH.out, List.length_append, List.length_singleton, Nat.pow_succ, ← hstep.out, Nat.mul_add, Nat.mul_assoc]
          omega
        · rw [bv_snoc, List.length_append]
          exact h2.out
      case measure => (simp [intOf]; omega)

/-! ### A bit of a row -/
def bitAt (l : List Nat) (i : Int) : Nat := if i < 0 then 0 else l.getD i.toNat 0
theorem bv_get {l : List Nat} {k : Nat} (h : k < l.length) : (bv l)[k]? = some (.int .i64 ((l.getD k 0 : Nat) : Int)) := by
  simp [bv, List.getD, List.getElem?_eq_getElem h]
theorem Ref_bit (s : Value) (l : List Nat) (i : Int) (w : World) (h : RowAt w s (bv l)) :
    Calls Tryz.prog 260 #[s, .int .i64 i] w fun r w' => r = .returned (.int .i64 (bitAt l i : Nat)) ∧ Keep w w' := by
  by_cases h0 : i < 0
  · have e : bitAt l i = 0 := if_pos h0
    rw [e]
    clear e
    go_enter Tryz.func260, Tryz.ntmps260
    go_wp2
    go_ret
    exact ⟨rfl, Keep.refl _⟩
  · rcases h with ⟨rfl, hn⟩ | ⟨b, off, cap, rfl, h1, h2, h3⟩
    · have hl : l = [] := by
        have := congrArg List.length hn
        rw [bv_length] at this
        exact List.length_eq_zero_iff.1 this
      have e : bitAt l i = 0 := by rw [hl]; unfold bitAt; rw [if_neg h0]; rfl
      rw [e]
      clear e hn hl
      go_enter Tryz.func260, Tryz.ntmps260
      go_wp2
      go_ret
      exact ⟨rfl, Keep.refl _⟩
    · rw [bv_length] at h1 ⊢
      obtain ⟨k, rfl⟩ : ∃ k : Nat, i = k := ⟨i.toNat, by omega⟩
      by_cases hk : k < l.length
      · have e : bitAt l k = l.getD k 0 := by unfold bitAt; rw [if_neg h0]; rfl
        have hc := h3 k _ (bv_get hk)
        rw [e]
        obtain ⟨t, ht⟩ : ∃ t, l.getD k 0 = t := ⟨_, rfl⟩
        rw [ht] at hc ⊢
        have hk' : (k : Int) < (l.length : Int) := by omega
        clear e ht h3
        go_enter Tryz.func260, Tryz.ntmps260
        go_wp2
        go_ret
        exact ⟨rfl, Keep.refl _⟩
      · have e : bitAt l k = 0 := by unfold bitAt; rw [if_neg h0]; simp [List.getD, List.getElem?_eq_none (show l.length ≤ k by omega)]
        rw [e]
        have hk' : (l.length : Int) ≤ k := by omega
        clear e h3
        go_enter Tryz.func260, Tryz.ntmps260
        go_wp2
        go_ret
        exact ⟨rfl, Keep.refl _⟩
end Go.Proofs.YteledfiechbhgaaGreatDoor
/- cachewiseref01: the sum of two rows of bits. -/
namespace Go.Proofs.YteledfiechbhgaaGreatDoor
open Go Go.RowKit Go.Shelf Go.Proofs.Mul64

def sumBits (f : Nat → Nat) : Nat → Nat
  | 0 => 0
  | k + 1 => sumBits f k + 2 ^ k * f k
theorem two_step (k x : Nat) : 2 ^ (k + 1) * x = 2 * (2 ^ k * x) := by rw [Nat.pow_succ, Nat.mul_comm (2 ^ k) 2, Nat.mul_assoc]
theorem sumBits_cons (f : Nat → Nat) (n : Nat) : sumBits f (n + 1) = f 0 + 2 * sumBits (fun i => f (i + 1)) n := by
  induction n with
  | zero => simp [sumBits]
  | succ n ih =>
    rw [sumBits, ih, sumBits, two_step]
    omega
theorem sumBits_zero (n : Nat) : sumBits (fun _ => 0) n = 0 := by
  induction n with
  | zero => rfl
  | succ n ih => rw [sumBits, ih]; simp
theorem sumBits_congr {f g : Nat → Nat} (h : ∀ i, f i = g i) (n : Nat) : sumBits f n = sumBits g n := by rw [show f = g from funext h]
theorem sumBits_val : ∀ (l : List Nat) (n : Nat), l.length ≤ n → sumBits (fun i => bitAt l i) n = val l
  | [], n, _ => by rw [sumBits_congr (g := fun _ => 0) (fun i => by simp [bitAt, List.getD])]; exact sumBits_zero n
  | b :: l, n + 1, h => by
    rw [sumBits_cons, val, sumBits_congr (g := fun i => bitAt l i) (fun i => ?_), sumBits_val l n (by simpa using h)]
    · simp [bitAt, List.getD]
    · unfold bitAt
      rw [if_neg (by omega), if_neg (by omega), Int.toNat_natCast, Int.toNat_natCast]
      simp [List.getD]
theorem sumBits_shift (l : List Nat) (n : Nat) : ∀ up : Nat, sumBits (fun i => bitAt l ((i : Int) - up)) (n + up) = 2 ^ up * sumBits (fun i => bitAt l i) n
  | 0 => by simp
  | up + 1 => by
    rw [← Nat.add_assoc, sumBits_cons, sumBits_congr (g := fun i => bitAt l ((i : Int) - up)) (fun i => ?_), sumBits_shift l n up, two_step]
    · rw [show bitAt l (((0 : Nat) : Int) - ((up + 1 : Nat) : Int)) = 0 from if_pos (by omega)]
      omega
    · congr 1; omega
theorem val_lt {l : List Nat} (h : Bits l) : val l < 2 ^ l.length := by
  induction l with
  | nil => simp [val]
  | cons b l ih =>
    have h1 := ih fun c hc => h c (List.mem_cons_of_mem _ hc)
    have h2 := h b List.mem_cons_self
    rw [val, List.length_cons, Nat.pow_succ]
    omega
theorem bitAt_le {l : List Nat} (h : Bits l) (i : Int) : bitAt l i ≤ 1 := by
  unfold bitAt
  split
  · omega
  · rw [List.getD]
    cases hh : l[i.toNat]? with
    | none => simp
    | some b => exact h b (List.mem_of_getElem? hh)

theorem plus_end {la lb out : List Nat} {up c : Nat} (ha : Bits la) (hb : Bits lb)
    (h : val out + 2 ^ (la.length + lb.length + up + 1) * c = sumBits (fun i => bitAt la i) (la.length + lb.length + up + 1) + sumBits (fun i => bitAt lb ((i : Int) - up)) (la.length + lb.length + up + 1)) :
    val out = val la + 2 ^ up * val lb := by
  have e1 : sumBits (fun i => bitAt la i) (la.length + lb.length + up + 1) = val la := sumBits_val la _ (by omega)
  have e2 : sumBits (fun i => bitAt lb ((i : Int) - up)) (la.length + lb.length + up + 1) = 2 ^ up * val lb := by
    rw [show la.length + lb.length + up + 1 = (la.length + lb.length + 1) + up by omega, sumBits_shift, sumBits_val lb _ (by omega)]
  rw [e1, e2] at h
  have h1 := val_lt ha
  have h2 : 2 ^ up * val lb < 2 ^ up * 2 ^ lb.length := Nat.mul_lt_mul_of_pos_left (val_lt hb) (Nat.two_pow_pos _)
  rw [← Nat.pow_add] at h2
  have h3 : 2 ^ la.length ≤ 2 ^ (la.length + lb.length + up) := Nat.pow_le_pow_right (by omega) (by omega)
  have h4 : 2 ^ (up + lb.length) ≤ 2 ^ (la.length + lb.length + up) := Nat.pow_le_pow_right (by omega) (by omega)
  rw [two_step] at h
  rcases Nat.eq_zero_or_pos c with rfl | hc
  · simpa using h
  · have h5 : 2 ^ (la.length + lb.length + up) * 1 ≤ 2 ^ (la.length + lb.length + up) * c := Nat.mul_le_mul_left _ hc
    omega

set_option maxHeartbeats 1000000 in
theorem Ref_plus (sa sb : Value) (la lb : List Nat) (up : Nat) (w : World) (ha : RowAt w sa (bv la)) (hb : RowAt w sb (bv lb)) (hba : Bits la) (hbb : Bits lb) (hla : la.length ≤ 1000000) (hlb : lb.length ≤ 1000000) (hup : up ≤ 1000000) :
    Calls Tryz.prog 227 #[sa, sb, .int .i64 up] w fun r w' => ∃ s l, r = .returned s ∧ RowAt w' s (bv l) ∧ val l = val la + 2 ^ up * val lb ∧ Bits l ∧ l.length = la.length + lb.length + up + 1 ∧ Keep w w' := by
  obtain ⟨i, hi, hz0, hz1, hz2⟩ := info_parts infoInt
  have hi := hide hi
  have hz0 := hide hz0
  have hz1 := hide hz1
  have hz2 := hide hz2
  obtain ⟨aoa, capa, rfl⟩ := ha.shape
  obtain ⟨aob, capb, rfl⟩ := hb.shape
  rw [bv_length] at ha ⊢
  rw [bv_length] at hb ⊢
  have haH := hide ha
  have hbH := hide hb
  have hbaH := hide hba
  have hbbH := hide hbb
  clear ha hb hba hbb
  obtain ⟨na, hna⟩ : ∃ na, la.length = na := ⟨_, rfl⟩
  obtain ⟨nb, hnb⟩ : ∃ nb, lb.length = nb := ⟨_, rfl⟩
  rw [hna] at haH hla ⊢
  rw [hnb] at hbH hlb ⊢
  obtain ⟨N, hN⟩ : ∃ N, na + nb + up + 1 = N := ⟨_, rfl⟩
  have e1 : IntKind.i64.wrap ((na : Int) + (nb : Int)) = ((na + nb : Nat) : Int) := by rw [addN]; exact IntWalk.i64_in _ (by omega)
  have e2 : IntKind.i64.wrap (((na + nb : Nat) : Int) + (up : Int)) = ((na + nb + up : Nat) : Int) := by rw [addN]; exact IntWalk.i64_in _ (by omega)
  have e3 : IntKind.i64.wrap (((na + nb + up : Nat) : Int) + 1) = (N : Int) := by rw [show ((na + nb + up : Nat) : Int) + 1 = (N : Int) by omega]; exact IntWalk.i64_in _ (by omega)
  have hNl : N ≤ 3000001 := by omega
  obtain ⟨p1, hp1⟩ : ∃ p1, na + nb = p1 := ⟨_, rfl⟩
  rw [hp1] at e1 e2 e3
  obtain ⟨p2, hp2⟩ : ∃ p2, p1 + up = p2 := ⟨_, rfl⟩
  rw [hp2] at e2 e3
  have hNH := hide (show la.length + lb.length + up + 1 = N by omega)
  rw [hN]
  clear hna hnb hN hp1 hp2
  go_enter Tryz.func227, Tryz.ntmps227
  go_wp2
  go_loopw [7, 8, 9] (fun o c i wr => ∃ (k d : Nat) (l : List Nat), i = .int .i64 k ∧ c = .int .i64 d ∧ d ≤ 1 ∧ k ≤ N ∧ l.length = k ∧ val l + 2 ^ k * d = sumBits (fun i => bitAt la i) k + sumBits (fun i => bitAt lb ((i : Int) - up)) k ∧ Bits l ∧ Holds w wr [OwnRow 3 1 o k (bv l)]) (fun _ _ i _ => (N - intOf i).toNat)
  case atStart => exact ⟨0, 0, [], rfl, rfl, by omega, by omega, rfl, by simp [val, sumBits], fun b hb => (List.not_mem_nil hb).elim, (Holds.start w).ownNil _ _⟩
  case round =>
    obtain ⟨k, d, l, rfl, rfl, hd, hk, hl, hval, hbits, hh⟩ := hrel
    have hH := hide hh
    have hvalH := hide hval
    have hbH' := hide hbits
    have hlH := hide hl
    clear hh hval hbits hl
    by_cases hkN : k < N
    · have hkN' : (k : Int) < N := by omega
      have i0 : IntKind.i64.wrap ((k : Int) - (up : Int)) = (k : Int) - (up : Int) := IntWalk.i64_in _ (by omega)
      have hx := bitAt_le hbaH.out k
      have hy := bitAt_le hbbH.out ((k : Int) - up)
      have hA := hide (Ref_bit _ la k wr (haH.out.keep hH.out.toKeep))
      have hB := hide fun w1 (hk : Keep wr w1) => Ref_bit _ lb ((k : Int) - up) w1 (hbH.out.keep (hH.out.toKeep.trans hk))
      obtain ⟨x, hx'⟩ : ∃ x, bitAt la k = x := ⟨_, rfl⟩
      obtain ⟨y, hy'⟩ : ∃ y, bitAt lb ((k : Int) - up) = y := ⟨_, rfl⟩
      rw [hx'] at hx hA
      rw [hy'] at hy hB
      have i1 : IntKind.i64.wrap ((x : Int) + (y : Int)) = ((x + y : Nat) : Int) := by rw [addN]; exact IntWalk.i64_in _ (by omega)
      have i2 : IntKind.i64.wrap (((x + y : Nat) : Int) + (d : Int)) = ((x + y + d : Nat) : Int) := by rw [addN]; exact IntWalk.i64_in _ (by omega)
      have i3 : ((x + y + d : Nat) : Int).tmod 2 = (((x + y + d) % 2 : Nat) : Int) := rfl
      have i4 : ((x + y + d : Nat) : Int).tdiv 2 = (((x + y + d) / 2 : Nat) : Int) := rfl
      have hm := hide (show 2 * ((x + y + d) / 2) + (x + y + d) % 2 = x + y + d by omega)
      have hml : (x + y + d) % 2 ≤ 1 := by omega
      have hdl : (x + y + d) / 2 ≤ 1 := by omega
      have hst : val l + 2 ^ k * (2 * ((x + y + d) / 2) + (x + y + d) % 2) = sumBits (fun i => bitAt la i) (k + 1) + sumBits (fun i => bitAt lb ((i : Int) - up)) (k + 1) := by
        rw [hm.out, sumBits, sumBits, hx', hy', Nat.mul_add, Nat.mul_add]
        have := hvalH.out
        omega
      obtain ⟨c, hc⟩ : ∃ c, (x + y + d) % 2 = c := ⟨_, rfl⟩
      obtain ⟨e, he⟩ : ∃ e, (x + y + d) / 2 = e := ⟨_, rfl⟩
      rw [hc] at i3 hm hml hst
      rw [he] at i4 hm hdl hst
      have i5 : IntKind.i64.wrap (e : Int) = (e : Int) := IntWalk.i64_in _ (by omega)
      have i6 : IntKind.i64.wrap ((k : Int) + 1) = ((k + 1 : Nat) : Int) := by rw [show (k : Int) + 1 = ((k + 1 : Nat) : Int) by omega]; exact IntWalk.i64_in _ (by omega)
      have hst := hide hst
      obtain ⟨t1, ht1⟩ : ∃ t, x + y = t := ⟨_, rfl⟩
      rw [ht1] at i1 i2 i3 i4
      obtain ⟨t2, ht2⟩ : ∃ t, t1 + d = t := ⟨_, rfl⟩
      rw [ht2] at i2 i3 i4
      clear hx' hy' hc he ht1 ht2
      go_wp2_with (first
        | (go_at_call 260; (with_reducible refine hA.out.mono ?_); rintro r w1 ⟨rfl, hk⟩; have hk1 := hide hk; clear hk)
        | (go_at_call 260; (with_reducible refine (hB.out _ hk1.out).mono ?_); rintro r w2 ⟨rfl, hk⟩; have hH2 := hide (hH.out.keep (hk1.out.trans hk)); clear hk)
        | (at_builtin; refine wpList_append_own_at _ rfl _ _ 137 rfl w.heap.size 3 i (.int .i64 0) 1 8 Tryz.underlying137 hi.out hz0.out hz1.out hz2.out rfl (by decide) _ k (bv l) rfl (hH2.out.alloc.drop).ownsRow _ 1 _ [.int .i64 (c : Nat)] rfl rfl (cell_one_new _ _ _) (by simp [Value.oneCell']) (by simp only [maxLen]; omega) (by omega) (by have := hH2.out.size; simp only [World.size_alloc]; omega) ?_))
      intro v' w' ho hg _ hb
      have h2 := hide (hH2.out.alloc.drop.grown ho hg (by rcases hb with hb | hb; exact .inl hb; exact .inr ⟨_, hb, by simp⟩))
      clear ho hg hb
      go_wp2
      go_roundw
      case rel =>
        refine ⟨k + 1, e, l ++ [c], rfl, rfl, hdl, by omega, by rw [List.length_append, List.length_singleton, hlH.out], ?_, bits_snoc hbH'.out hml, ?_⟩
        · rw [val_snoc, hlH.out, ← hst.out, two_step, Nat.mul_add, ← Nat.mul_assoc, ← Nat.mul_assoc, Nat.mul_comm (2 ^ k) 2]
          omega
        · rw [bv_snoc]
          exact h2.out
      case measure => (simp [intOf]; omega)
    · obtain rfl : k = N := by omega
      go_wp2
      go_ret
      refine ⟨_, l, rfl, hH.out.rowAt, ?_, hbH'.out, hlH.out, hH.out.toKeep⟩
      have := hvalH.out
      rw [← hNH.out] at this
      exact plus_end hbaH.out hbbH.out this
end Go.Proofs.YteledfiechbhgaaGreatDoor
/- cachewiseref01: down and whole. -/
namespace Go.Proofs.YteledfiechbhgaaGreatDoor
open Go Go.RowKit Go.Shelf Go.Proofs.Mul64

theorem Ref_down (s : Value) (l : List Nat) (n : Nat) (hn : n ≤ 1000000) (w : World) (h : RowAt w s (bv l)) :
    Calls Tryz.prog 228 #[s, .int .i64 n] w fun r w' => ∃ s', r = .returned s' ∧ RowAt w' s' (bv (l.drop n)) ∧ Keep w w' := by
  by_cases hl : l.length ≤ n
  · have e : l.drop n = [] := List.drop_eq_nil_of_le hl
    rw [e]
    obtain ⟨ao, cap, rfl⟩ := h.shape
    rw [bv_length]
    have hl' : (l.length : Int) ≤ n := by omega
    clear h e
    go_enter Tryz.func228, Tryz.ntmps228
    go_wp2
    go_ret
    exact ⟨_, rfl, RowAt.nil, Keep.refl _⟩
  · rcases h with ⟨rfl, hnil⟩ | ⟨b, off, cap, rfl, h1, h2, h3⟩
    · have : l.length = 0 := by rw [← bv_length l, hnil]; rfl
      omega
    · have hl' : ¬ (l.length : Int) ≤ n := by omega
      have h3 := hide h3
      rw [bv_length] at h1 ⊢
      go_enter Tryz.func228, Tryz.ntmps228
      go_wp2
      go_ret
      refine ⟨_, rfl, .inr ⟨b, off + n, cap - n, ?_, ?_, ?_, fun j u hu => ?_⟩, Keep.refl _⟩
      · rw [bv_length, List.length_drop]; rfl
      · rw [bv_length, List.length_drop]; omega
      · omega
      · rw [Nat.add_assoc]
        exact h3.out (n + j) u (by simpa [bv] using hu)

/-! ### The number of a row -/
theorem val_drop {l : List Nat} {i : Nat} (h : i < l.length) : val (l.drop i) = l.getD i 0 + 2 * val (l.drop (i + 1)) := by
  rw [List.drop_eq_getElem_cons h, val]
  simp [List.getD, List.getElem?_eq_getElem h]
theorem val_split (l : List Nat) : ∀ i : Nat, val l = val (l.take i) + 2 ^ i * val (l.drop i) := by
  induction l with
  | nil => intro i; simp [val]
  | cons b l ih =>
    intro i
    cases i with
    | zero => simp [val]
    | succ i =>
      have := ih i
      rw [List.take_succ_cons, List.drop_succ_cons, val, val, two_step]
      omega
theorem val_big {l : List Nat} {i : Nat} (h : i < l.length) (hi : 64 ≤ i) (hb : l.getD i 0 = 1) : ¬ val l < 18446744073709551616 := by
  rw [val_split l i, val_drop h, hb]
  have h1 : 2 ^ 64 ≤ 2 ^ i := Nat.pow_le_pow_right (by omega) hi
  have h2 : 2 ^ i * 1 ≤ 2 ^ i * (1 + 2 * val (l.drop (i + 1))) := Nat.mul_le_mul_left _ (by omega)
  omega
def fcap (n : Nat) : Nat := if n < 18446744073709551616 then n else 18446744073709551615
theorem Ref_whole (s : Value) (l : List Nat) (hb : Bits l) (hlen : l.length ≤ 9000000) (w : World) (h : RowAt w s (bv l)) :
    Calls Tryz.prog 87 #[s] w fun r w' => r = .returned (.int .u64 (fcap (val l) : Nat)) ∧ Keep w w' := by
  obtain ⟨ao, cap, rfl⟩ := h.shape
  rw [bv_length] at h ⊢
  obtain ⟨T, hT⟩ : ∃ T, fcap (val l) = T := ⟨_, rfl⟩
  obtain ⟨n, hn⟩ : ∃ n, l.length = n := ⟨_, rfl⟩
  rw [hn] at h hlen ⊢
  rw [hT]
  have hT := hide hT
  have hnH := hide hn
  have hbH := hide hb
  have hH := hide h
  clear hb h hn
  have e1 : IntKind.i64.wrap ((n : Int) - 1) = (n : Int) - 1 := IntWalk.i64_in _ (by omega)
  go_enter Tryz.func87, Tryz.ntmps87
  go_wp2
  go_loop [3, 4] (fun v i => ∃ k : Nat, k ≤ n ∧ i = .int .i64 ((k : Int) - 1) ∧ v = .int .u64 (val (l.drop k) : Nat) ∧ val (l.drop k) < 2 ^ (64 - k)) (fun v i => (intOf i + 1).toNat)
  case atStart => exact ⟨n, Nat.le_refl _, rfl, by rw [List.drop_eq_nil_of_le (by have := hnH.out; omega)]; rfl, by rw [List.drop_eq_nil_of_le (by have := hnH.out; omega)]; exact Nat.two_pow_pos _⟩
  case round =>
    obtain ⟨k, hk, rfl, rfl, hv⟩ := hrel
    have hvH := hide hv
    clear hv
    obtain ⟨v, hv⟩ : ∃ v, val (l.drop k) = v := ⟨_, rfl⟩
    rw [hv] at hvH ⊢
    have hv := hide hv
    rcases Nat.eq_zero_or_pos k with rfl | hk0
    · have hTv : v = T := by
        have h1 := hv.out
        have h2 := hvH.out
        rw [← hT.out, ← h1]
        rw [← h1] at h2
        rw [List.drop_zero] at h2 ⊢
        exact (if_pos h2).symm
      subst hTv
      go_wp2
      go_ret
      exact ⟨rfl, Keep.refl _⟩
    · obtain ⟨j, rfl⟩ : ∃ j, k = j + 1 := ⟨k - 1, by omega⟩
      rw [show (((j + 1 : Nat) : Int) - 1) = (j : Int) by omega]
      rcases hH.out with ⟨_, hnil⟩ | ⟨b, off, cap', he, h1, h2, h3⟩
      · have h5 : l.length = 0 := by rw [← bv_length l, hnil]; rfl
        have := hnH.out
        omega
      · have hjl : j < l.length := by have := hnH.out; omega
        have hc := h3 j _ (bv_get hjl)
        have htb : l.getD j 0 ≤ 1 := by
          have := bitAt_le hbH.out j
          unfold bitAt at this
          rw [if_neg (by omega)] at this
          exact this
        have hstep : val (l.drop j) = l.getD j 0 + 2 * v := by rw [val_drop hjl, hv.out]
        have hbig : 64 ≤ j → l.getD j 0 = 1 → T = 18446744073709551615 := fun q1 q2 => by rw [← hT.out]; exact if_neg (val_big hjl q1 q2)
        obtain ⟨t, ht⟩ : ∃ t, l.getD j 0 = t := ⟨_, rfl⟩
        rw [ht] at hc htb hstep hbig
        obtain ⟨rfl, _, rfl⟩ : ao = some ⟨b, off, none⟩ ∧ True ∧ cap = cap' := by
          simp only [Value.slice.injEq] at he
          exact ⟨he.1, trivial, he.2.2⟩
        have hstepH := hide hstep
        clear hstep he h3 ht
        have hjn : (j : Int) < n := by have := hnH.out; omega
        have f1 : IntKind.i64.wrap ((j : Int) - 1) = (j : Int) - 1 := IntWalk.i64_in _ (by omega)
        by_cases hj : j < 64
        · have hj1 : ¬ (63 : Int) < j := by omega
          have hj2 : (j : Int) < 64 := by omega
          have hvl : 2 * v + t < 2 ^ (64 - j) := by
            have := hvH.out
            rw [show 64 - j = (64 - (j + 1)) + 1 by omega, Nat.pow_succ]
            omega
          have hvl2 : 2 * v + t < 18446744073709551616 := Nat.lt_of_lt_of_le hvl (Nat.pow_le_pow_right (by omega) (by omega : 64 - j ≤ 64))
          have f2 : IntKind.u64.wrap ((v : Int) * 2) = ((2 * v : Nat) : Int) := by rw [IntKind.wrap_u64]; omega
          have f3 : IntKind.u64.wrap (t : Int) = (t : Int) := by rw [IntKind.wrap_u64]; omega
          have f4 : IntKind.u64.wrap (((2 * v : Nat) : Int) + (t : Int)) = ((2 * v + t : Nat) : Int) := by rw [IntKind.wrap_u64]; omega
          obtain ⟨v2, hv2⟩ : ∃ v2, 2 * v = v2 := ⟨_, rfl⟩
          rw [hv2] at f2 f4 hvl
          obtain ⟨v3, hv3⟩ : ∃ v3, v2 + t = v3 := ⟨_, rfl⟩
          rw [hv3] at f4 hvl
          have hv4 : val (l.drop j) = v3 := by rw [hstepH.out]; omega
          have hvl := hide hvl
          have hv4 := hide hv4
          have hv3H := hide (show v2 + t = v3 ∧ v3 < 18446744073709551616 by omega)
          clear hv2 hv3 hvl2 f4
          rcases (by omega : t = 0 ∨ t = 1) with rfl | rfl
          all_goals
            go_wp2
            go_round
            case rel => exact ⟨j, by omega, rfl, by rw [hv4.out]; congr 1; have := hv3H.out; rw [IntKind.wrap_u64]; omega, by rw [hv4.out]; exact hvl.out⟩
            case measure => (simp [intOf]; try omega)
        · have hj1 : (63 : Int) < j := by omega
          have hj2 : ¬ (j : Int) < 64 := by omega
          rcases (by omega : t = 0 ∨ t = 1) with rfl | rfl
          · have hv0 : v = 0 := by
              have := hvH.out
              rw [show 64 - (j + 1) = 0 by omega] at this
              omega
            have hd0 : val (l.drop j) = 0 := by rw [hstepH.out, hv0]
            have hd0 := hide hd0
            have hv0 := hide hv0
            go_wp2
            go_round
            case rel => exact ⟨j, by omega, rfl, by rw [hd0.out, hv0.out], by rw [hd0.out]; exact Nat.two_pow_pos _⟩
            case measure => (simp [intOf]; try omega)
          · obtain rfl := hbig (by omega) rfl
            go_wp2
            go_ret
            exact ⟨rfl, Keep.refl _⟩
end Go.Proofs.YteledfiechbhgaaGreatDoor
/- cachewiseref01: Add, Sub, Mul. -/
namespace Go.Proofs.YteledfiechbhgaaGreatDoor
open Go Go.RowKit Go.Shelf Go.Proofs.Mul64

theorem Ref_plus0 (sa sb : Value) (la lb : List Nat) (w : World) (ha : RowAt w sa (bv la)) (hb : RowAt w sb (bv lb)) (hba : Bits la) (hbb : Bits lb) (hla : la.length ≤ 1000000) (hlb : lb.length ≤ 1000000) :
    Calls Tryz.prog 227 #[sa, sb, .int .i64 0] w fun r w' => ∃ s l, r = .returned s ∧ RowAt w' s (bv l) ∧ val l = val la + 2 ^ 0 * val lb ∧ Bits l ∧ l.length = la.length + lb.length + 0 + 1 ∧ Keep w w' := Ref_plus sa sb la lb 0 w ha hb hba hbb hla hlb (by omega)
theorem Ref_Add (a b : Nat) (ha : a < 18446744073709551616) (hb : b < 18446744073709551616) (w : World) :
    Calls Tryz.prog 267 #[.int .u64 a, .int .u64 b] w fun r w' => r = .returned (.int .u64 (fadd a b : Nat)) ∧ Keep w w' := by
  obtain ⟨T, hT⟩ : ∃ T, fadd a b = T := ⟨_, rfl⟩
  rw [hT]
  have hT := hide hT
  go_enter Tryz.func267, Tryz.ntmps267
  go_wp2_with (first
    | (go_at_call 86; (with_reducible refine (Ref_row a ha _).mono ?_); rintro r w1 ⟨sa, la, rfl, h1, h2, h3, h4, h5⟩; have ra := hide h1; have va := hide h2; have ba := hide h3; have na := hide h4; have k1 := hide h5; clear h1 h2 h3 h4 h5)
    | (go_at_call 86; (with_reducible refine (Ref_row b hb _).mono ?_); rintro r w2 ⟨sb, lb, rfl, h1, h2, h3, h4, h5⟩; have rb := hide h1; have vb := hide h2; have bb := hide h3; have nb := hide h4; have k2 := hide h5; clear h1 h2 h3 h4 h5)
    | (go_at_call 227; (with_reducible refine (Ref_plus0 sa sb la lb _ (ra.out.keep k2.out) rb.out ba.out bb.out (Nat.le_trans na.out (by decide)) (Nat.le_trans nb.out (by decide))).mono ?_); rintro r w3 ⟨sc, lc, rfl, h1, h2, h3, h4, h5⟩; have rc := hide h1; have vc := hide h2; have bc := hide h3; have nc := hide h4; have k3 := hide h5; clear h1 h2 h3 h4 h5)
    | (go_at_call 87; (with_reducible refine (Ref_whole sc lc bc.out (by have := na.out; have := nb.out; have := nc.out; omega) _ rc.out).mono ?_); rintro r w4 ⟨rfl, h5⟩; have k4 := hide h5; clear h5))
  go_ret
  refine ⟨?_, ((k1.out.trans k2.out).trans k3.out).trans k4.out⟩
  rw [← hT.out, vc.out, va.out, vb.out, Nat.pow_zero, Nat.one_mul]
  rfl
end Go.Proofs.YteledfiechbhgaaGreatDoor
