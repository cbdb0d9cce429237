/- cachewiseref01: Mul. -/
import Derived.Test.YteledfiechbhgaaGreatDoorQFixRef
namespace Go.Proofs.YteledfiechbhgaaGreatDoor
open Go Go.RowKit Go.Shelf Go.Proofs.Mul64

theorem Ref_down62 (s : Value) (l : List Nat) (w : World) (h : RowAt w s (bv l)) :
    Calls Tryz.prog 228 #[s, .int .i64 62] w fun r w' => ∃ s', r = .returned s' ∧ RowAt w' s' (bv (l.drop 62)) ∧ Keep w w' := Ref_down s l 62 (by omega) w h
theorem val_take_succ (l : List Nat) (k : Nat) (h : k < l.length) : val (l.take (k + 1)) = val (l.take k) + 2 ^ k * l.getD k 0 := by
  have e : l.take (k + 1) = l.take k ++ [l.getD k 0] := by rw [List.take_succ_eq_append_getElem h]; simp [List.getD, List.getElem?_eq_getElem h]
  rw [e, val_snoc, List.length_take, Nat.min_eq_left (by omega)]
theorem bits_drop {l : List Nat} (h : Bits l) (n : Nat) : Bits (l.drop n) := fun b hb => h b (List.mem_of_mem_drop hb)
theorem val_drop_div {l : List Nat} (h : Bits l) (n : Nat) : val (l.drop n) = val l / 2 ^ n := by
  have h1 := val_split l n
  have h2 : val (l.take n) < 2 ^ n := by
    have := val_lt (l := l.take n) (fun b hb => h b (List.mem_of_mem_take hb))
    exact Nat.lt_of_lt_of_le this (Nat.pow_le_pow_right (by omega) (by rw [List.length_take]; omega))
  rw [h1, Nat.add_mul_div_left _ _ (Nat.two_pow_pos _), Nat.div_eq_of_lt h2, Nat.zero_add]
theorem Ref_Mul (a b : Nat) (ha : a < 18446744073709551616) (hb : b < 18446744073709551616) (w : World) :
    Calls Tryz.prog 164 #[.int .u64 a, .int .u64 b] w fun r w' => r = .returned (.int .u64 (fmul a b : Nat)) ∧ Keep w w' := by
  obtain ⟨T, hT⟩ : ∃ T, fmul a b = T := ⟨_, rfl⟩
  rw [hT]
  have hT := hide hT
  go_enter Tryz.func164, Tryz.ntmps164
  go_wp2_with (first
    | (go_at_call 86; (with_reducible refine (Ref_row a ha _).mono ?_); rintro r w1 ⟨sa, la, rfl, h1, h2, h3, h4, h5⟩; have ra := hide h1; have va := hide h2; have ba := hide h3; have na := hide h4; have k1 := hide h5; clear h1 h2 h3 h4 h5)
    | (go_at_call 86; (with_reducible refine (Ref_row b hb _).mono ?_); rintro r w2 ⟨sb, lb, rfl, h1, h2, h3, h4, h5⟩
       obtain ⟨ao, cap, rfl⟩ := h1.shape
       rw [bv_length] at h1 ⊢
       have rb := hide h1; have vb := hide h2; have bb := hide h3; have nb := hide h4; have k2 := hide h5; clear h1 h2 h3 h4 h5))
  go_loopw [7, 8] (fun p i wr => ∃ (k : Nat) (lp : List Nat), i = .int .i64 k ∧ k ≤ lb.length ∧ RowAt wr p (bv lp) ∧ Bits lp ∧ val lp = val la * val (lb.take k) ∧ lp.length ≤ 200 * k ∧ Keep w2 wr) (fun _ i _ => (lb.length - intOf i).toNat)
  case atStart => exact ⟨0, [], rfl, Nat.zero_le _, RowAt.nil, fun b hb => (List.not_mem_nil hb).elim, by simp [val], by simp, Keep.refl _⟩
  case round =>
    obtain ⟨k, lp, rfl, hk, h1, h2, h3, h4, h5⟩ := hrel
    have rp := hide h1; have bp := hide h2; have vp := hide h3; have np := hide h4; have kp := hide h5
    clear h1 h2 h3 h4 h5
    by_cases hkl : k < lb.length
    · have hkl' : (k : Int) < (lb.length : Int) := by omega
      have hst := val_take_succ lb k hkl
      have htb : lb.getD k 0 ≤ 1 := by
        have := bitAt_le bb.out k
        unfold bitAt at this
        rw [if_neg (by omega)] at this
        exact this
      have f1 : IntKind.i64.wrap ((k : Int) + 1) = ((k + 1 : Nat) : Int) := by rw [show (k : Int) + 1 = ((k + 1 : Nat) : Int) by omega]; exact IntWalk.i64_in _ (by have := nb.out; omega)
      rcases rb.out with ⟨_, hnil⟩ | ⟨q, off, cap', he, h1, h2, h3⟩
      · have h5 : lb.length = 0 := by rw [← bv_length lb, hnil]; rfl
        omega
      · obtain ⟨rfl, _, rfl⟩ : ao = some ⟨q, off, none⟩ ∧ True ∧ cap = cap' := by
          simp only [Value.slice.injEq] at he
          exact ⟨he.1, trivial, he.2.2⟩
        have hc := kp.out.cell (h3 k _ (bv_get hkl))
        obtain ⟨t, ht⟩ : ∃ t, lb.getD k 0 = t := ⟨_, rfl⟩
        rw [ht] at hst htb hc
        have hst := hide hst
        clear ht he h3
        rcases (by omega : t = 0 ∨ t = 1) with rfl | rfl
        · go_wp2
          go_roundw
          case rel => exact ⟨k + 1, lp, rfl, hkl, rp.out, bp.out, by rw [hst.out, Nat.mul_zero, Nat.add_zero]; exact vp.out, by have := np.out; omega, kp.out⟩
          case measure => (simp [intOf]; omega)
        · go_wp2_with (go_at_call 227; (with_reducible refine (Ref_plus _ sa lp la k _ rp.out (ra.out.keep (k2.out.trans kp.out)) bp.out ba.out (by have := np.out; have := nb.out; omega) (by have := na.out; omega) (by have := nb.out; omega)).mono ?_); rintro r w3 ⟨sc, lc, rfl, h1, h2, h3, h4, h5⟩; have rc := hide h1; have vc := hide h2; have bc := hide h3; have nc := hide h4; have k3 := hide h5; clear h1 h2 h3 h4 h5)
          go_roundw
          case rel => exact ⟨k + 1, lc, rfl, hkl, rc.out, bc.out, by rw [vc.out, vp.out, hst.out, Nat.mul_one, Nat.mul_add, Nat.mul_comm (2 ^ k)], by have := nc.out; have := np.out; have := na.out; have := nb.out; omega, kp.out.trans k3.out⟩
          case measure => (simp [intOf]; omega)
    · obtain rfl : k = lb.length := by omega
      go_wp2_with (first
        | (go_at_call 228; (with_reducible refine (Ref_down62 _ lp _ rp.out).mono ?_); rintro r w3 ⟨sc, rfl, h1, h5⟩; have rc := hide h1; have k3 := hide h5; clear h1 h5)
        | (go_at_call 87; (with_reducible refine (Ref_whole sc _ (bits_drop bp.out 62) (by rw [List.length_drop]; have := np.out; have := nb.out; omega) _ rc.out).mono ?_); rintro r w4 ⟨rfl, h5⟩; have k4 := hide h5; clear h5))
      go_ret
      refine ⟨?_, (((k1.out.trans k2.out).trans kp.out).trans k3.out).trans k4.out⟩
      rw [← hT.out, val_drop_div bp.out, vp.out, List.take_length, va.out, vb.out]
      rfl
end Go.Proofs.YteledfiechbhgaaGreatDoor
