/- cachewiseref01: over, its first half: the row that is divided. -/
import Derived.Test.YteledfiechbhgaaGreatDoorQFixRefMul
import Derived.Test.YteledfiechbhgaaGreatDoorQStep
import Derived.Deep.DeepCutAuto
import Derived.Outline
namespace Go.Proofs.YteledfiechbhgaaGreatDoor
open Go Go.RowKit Go.Shelf Go.Proofs.Mul64

theorem Ref_row_0 (w : World) :
    Calls Tryz.prog 86 #[.int .u64 0] w fun r w' => r = .returned (.slice none 0 0) ∧ w' = w := by
  go_enter Tryz.func86, Tryz.ntmps86
  go_wp2
  refine wp_loop_rounds 1 ?_
  rw [rounds_succ]
  go_wp2
  go_ret
  exact ⟨rfl, rfl⟩
theorem bv_rep (n : Nat) : bv (List.replicate n 0) = List.replicate n (.int .i64 0) := by simp [bv]
theorem bv_append (a b : List Nat) : bv (a ++ b) = bv a ++ bv b := by simp [bv]
theorem bv_one (l : List Nat) : ∀ u ∈ bv l, u.oneCell' = true := by
  intro u hu
  obtain ⟨b, _, rfl⟩ := List.mem_map.1 hu
  rfl
theorem KeepOfGrown {w w' : World} (g : w.grownBy w' none) : Keep w w' := ⟨g.os, g.output, g.tape, g.size, fun i o h => by
  have hl : i < w.heap.size := by
    rcases Nat.lt_or_ge i w.heap.size with h' | h'
    · exact h'
    · simp [Array.getElem?_eq_none h'] at h
  rw [g.block i hl (by simp)]; exact h⟩
theorem val_rep (n : Nat) (l : List Nat) : val (List.replicate n 0 ++ l) = 2 ^ n * val l := by
  induction n with
  | zero => simp
  | succ n ih => rw [List.replicate_succ, List.cons_append, val, ih, Nat.pow_succ, Nat.mul_comm (2 ^ n) 2, Nat.mul_assoc]; omega
theorem bits_rep {n : Nat} {l : List Nat} (h : Bits l) : Bits (List.replicate n 0 ++ l) := fun b hb => by
  rcases List.mem_append.1 hb with hb | hb
  · rw [(List.mem_replicate.1 hb).2]; omega
  · exact h b hb
theorem bits_cons {b : Nat} {l : List Nat} (hb : b ≤ 1) (h : Bits l) : Bits (b :: l) := fun c hc => by
  rcases List.mem_cons.1 hc with rfl | hc
  · exact hb
  · exact h c hc
theorem bv_set (j : Nat) (H : List Nat) : (bv (List.replicate (j + 1) 0 ++ H)).set j (.int .i64 1) = bv (List.replicate j 0 ++ 1 :: H) := by
  rw [List.replicate_succ', List.append_assoc, bv_append, bv_append, bv_rep, List.set_append_right _ _ (by simp)]
  simp [bv]
theorem addr_add (b o j : Nat) : (⟨b, o, none⟩ : Addr).add j = ⟨b, o + j, none⟩ := by unfold Addr.add; split <;> simp_all
theorem made62 : (madeCells (Value.int .i64 0).cells (62 * 1)).toList = bv (List.replicate 62 0) := by rw [bv_rep]; exact toList_madeCells_one _ _
set_option maxRecDepth 100000 in
theorem Ref_over (a b : Nat) (ha : a < 18446744073709551616) (hb : b < 18446744073709551616) (h0 : 0 < b) (w : World) :
    Calls Tryz.prog 44 #[.int .u64 a, .int .u64 b] w fun r w' => r = .returned (.int .u64 (fover a b : Nat)) ∧ Keep w w' := by
  obtain ⟨T, hT⟩ : ∃ T, fover a b = T := ⟨_, rfl⟩
  rw [hT]
  have hT := hide hT
  obtain ⟨i, hi, hz0, hz1, hz2⟩ := info_parts infoInt
  have hi := hide hi
  have hz0 := hide hz0
  have hz1 := hide hz1
  have hz2 := hide hz2
  go_enter Tryz.func44, Tryz.ntmps44
  go_upto_region 1 with fail
  go_cut [5] (fun s wr => ∃ la, RowAt wr s (bv (List.replicate 62 0 ++ la)) ∧ Bits la ∧ val la = a ∧ la.length ≤ 64 ∧ Keep w wr)
  case first =>
    refine wp_region_any (by kernel_rfl) ?_
    refine wpAny_take (i := 1) (v := .int .u64 a) rfl (by kernel_rfl) (by kernel_rfl) (by kernel_rfl) (fun _ _ _ h => h) (Or.inl ⟨by rfl, ?_⟩) ?_
    · intro w; go_simp
    refine wpAny_ready (rs := [0, 2]) (by kernel_rfl) (by simp) ?_
    refine AllReady.cons rfl (fun K hK => ?_) ?_
    · refine step_make rfl _ _ 137 rfl w.heap.size 3 i (.int .i64 0) 1 Tryz.underlying137 hi.out hz0.out hz1.out .i64 .i64 62 62 62 rfl rfl rfl rfl (by rw [hz2.out]; omega) (by simp [maxLen]) (Nat.le_refl _) ?_
      intro w1 o1 g1
      have H1 := hide (((Holds.start w).drew.ownNil 3 1).grown o1 g1 (.inr ⟨_, rfl, Nat.le_refl _⟩))
      clear o1 g1
      refine hK _ _ ?_
      clear hK K
      refine wpAny_ready (rs := [2]) (by kernel_rfl) (by simp) ?_
      refine AllReady.cons rfl (fun K hK => ?_) AllReady.nil
      go_simp
      refine (Ref_row a ha _).mono ?_
      rintro r w2 ⟨sa, la, rfl, h1, h2, h3, h4, h5⟩
      have H2 := hide (H1.out.keep h5)
      refine hK _ _ ?_
      clear hK K h5
      refine wpAny_ready (rs := [3]) (by kernel_rfl) (by simp) ?_
      refine AllReady.cons rfl (fun K hK => ?_) AllReady.nil
      rw [made62] at H2
      rcases h1 with ⟨rfl, hnil⟩ | ⟨bb, off, cap, rfl, ha1, ha2, ha3⟩
      · obtain rfl : la = [] := List.length_eq_zero_iff.1 (by rw [← bv_length la, hnil]; rfl)
        refine step_append_none rfl _ _ 137 rfl w.heap.size 3 i 1 Tryz.underlying137 hi.out _ 62 (bv (List.replicate 62 0)) (by rfl) H2.out.ownsRow (by rfl) ?_
        have HR := hide H2.out
        refine hK _ _ ?_
        clear hK K
        refine wpAny_ready (rs := [4]) (by kernel_rfl) (by simp) ?_
        refine AllReady.cons rfl (fun K hK => ?_) AllReady.nil
        go_simp
        refine hK _ _ ?_
        clear hK K
        refine wpAny_done (by kernel_rfl) ?_ _
        go_wp2
        go_meet
        case rel => exact ⟨[], by rw [List.append_nil]; exact HR.out.rowAt, h3, h2, by simp, HR.out.toKeep⟩
      · refine step_append_at rfl _ _ 137 rfl w.heap.size 3 i (.int .i64 0) 1 8 Tryz.underlying137 hi.out hz0.out hz1.out hz2.out rfl (by decide) _ 62 (bv (List.replicate 62 0)) (by rfl) H2.out.ownsRow ⟨bb, off, none⟩ _ _ (bv la) (by rfl) (by simp) (fun j u hu => by rw [addr_add]; exact ha3 j u hu) (bv_one la) (by rw [bv_length, maxLen]; omega) (by rw [bv_length]; omega) H2.out.size ?_
        intro v' w' o1 g1 hb1
        have HR := hide (H2.out.grown o1 g1 (by rcases hb1 with hb1 | hb1; exact .inl hb1; exact .inr ⟨_, hb1, Nat.le_refl _⟩))
        clear o1 g1 hb1
        refine hK _ _ ?_
        clear hK K
        refine wpAny_ready (rs := [4]) (by kernel_rfl) (by simp) ?_
        refine AllReady.cons rfl (fun K hK => ?_) AllReady.nil
        go_simp
        refine hK _ _ ?_
        clear hK K
        refine wpAny_done (by kernel_rfl) ?_ _
        go_wp2
        go_meet
        case rel => exact ⟨la, by rw [bv_append]; exact HR.out.rowAt, h3, h2, h4, HR.out.toKeep⟩
    refine AllReady.cons rfl (fun K hK => ?_) AllReady.nil
    go_simp
    refine (Ref_row a ha _).mono ?_
    rintro r w1 ⟨sa, la, rfl, h1, h2, h3, h4, h5⟩
    have H1 := hide (((Holds.start w).drew.keep h5).ownNil 3 1)
    refine hK _ _ ?_
    clear hK K h5
    refine wpAny_ready (rs := [0]) (by kernel_rfl) (by simp) ?_
    refine AllReady.cons rfl (fun K hK => ?_) AllReady.nil
    refine step_make rfl _ _ 137 rfl w.heap.size 3 i (.int .i64 0) 1 Tryz.underlying137 hi.out hz0.out hz1.out .i64 .i64 62 62 62 rfl rfl rfl rfl (by rw [hz2.out]; omega) (by simp [maxLen]) H1.out.size ?_
    intro w2 o1 g1
    have H2 := hide (H1.out.grown o1 g1 (.inr ⟨_, rfl, Nat.le_refl _⟩))
    have h1 := h1.keep (KeepOfGrown g1)
    clear o1 g1
    refine hK _ _ ?_
    clear hK K
    refine wpAny_ready (rs := [3]) (by kernel_rfl) (by simp) ?_
    refine AllReady.cons rfl (fun K hK => ?_) AllReady.nil
    · rw [made62] at H2
      rcases h1 with ⟨rfl, hnil⟩ | ⟨bb, off, cap, rfl, ha1, ha2, ha3⟩
      · obtain rfl : la = [] := List.length_eq_zero_iff.1 (by rw [← bv_length la, hnil]; rfl)
        refine step_append_none rfl _ _ 137 rfl w.heap.size 3 i 1 Tryz.underlying137 hi.out _ 62 (bv (List.replicate 62 0)) (by rfl) H2.out.ownsRow (by rfl) ?_
        have HR := hide H2.out
        refine hK _ _ ?_
        clear hK K
        refine wpAny_ready (rs := [4]) (by kernel_rfl) (by simp) ?_
        refine AllReady.cons rfl (fun K hK => ?_) AllReady.nil
        go_simp
        refine hK _ _ ?_
        clear hK K
        refine wpAny_done (by kernel_rfl) ?_ _
        go_wp2
        go_meet
        case rel => exact ⟨[], by rw [List.append_nil]; exact HR.out.rowAt, h3, h2, by simp, HR.out.toKeep⟩
      · refine step_append_at rfl _ _ 137 rfl w.heap.size 3 i (.int .i64 0) 1 8 Tryz.underlying137 hi.out hz0.out hz1.out hz2.out rfl (by decide) _ 62 (bv (List.replicate 62 0)) (by rfl) H2.out.ownsRow ⟨bb, off, none⟩ _ _ (bv la) (by rfl) (by simp) (fun j u hu => by rw [addr_add]; exact ha3 j u hu) (bv_one la) (by rw [bv_length, maxLen]; omega) (by rw [bv_length]; omega) H2.out.size ?_
        intro v' w' o1 g1 hb1
        have HR := hide (H2.out.grown o1 g1 (by rcases hb1 with hb1 | hb1; exact .inl hb1; exact .inr ⟨_, hb1, Nat.le_refl _⟩))
        clear o1 g1 hb1
        refine hK _ _ ?_
        clear hK K
        refine wpAny_ready (rs := [4]) (by kernel_rfl) (by simp) ?_
        refine AllReady.cons rfl (fun K hK => ?_) AllReady.nil
        go_simp
        refine hK _ _ ?_
        clear hK K
        refine wpAny_done (by kernel_rfl) ?_ _
        go_wp2
        go_meet
        case rel => exact ⟨la, by rw [bv_append]; exact HR.out.rowAt, h3, h2, h4, HR.out.toKeep⟩
  obtain ⟨la, hr, hbl, hvl, hnl, hkl⟩ := hcut
  obtain ⟨ao, cap, rfl⟩ := hr.shape
  obtain ⟨L, hL⟩ : ∃ L, List.replicate 62 0 ++ la = L := ⟨_, rfl⟩
  have hbL : Bits L := by rw [← hL]; exact bits_rep hbl
  have hvL : val L = 4611686018427387904 * a := by rw [← hL, val_rep, hvl]
  have hnL : 62 ≤ L.length ∧ L.length ≤ 126 := by rw [← hL, List.length_append, List.length_replicate]; omega
  rw [hL, bv_length] at hr ⊢
  obtain ⟨n, hn⟩ : ∃ n, L.length = n := ⟨_, rfl⟩
  rw [hn] at hr hnL ⊢
  have hn := hide hn
  have hbL := hide hbL
  have hvL := hide hvL
  have hr := hide hr
  have hkl := hide hkl
  clear hL hnl hvl hbl
  go_wp2_with (at_make; refine wpList_make_full _ rfl _ _ 137 rfl wc.heap.size 3 i (.int .i64 0) 1 Tryz.underlying137 hi.out hz0.out hz1.out .i64 .i64 _ _ n rfl rfl rfl rfl (by rw [hz2.out]; omega) (by simp only [maxLen]; omega) (Nat.le_refl _) ?_; intro w1 o1 g1; have H1 := hide (((Holds.start wc).ownNil 3 1).grown o1 g1 (.inr ⟨_, rfl, Nat.le_refl _⟩)); clear o1 g1)
  go_loopw [7, 8] (fun r iv wr => ∃ (k R : Nat) (H : List Nat), r = .int .u64 R ∧ iv = .int .i64 ((k : Int) - 1) ∧ k ≤ n ∧ H.length = n - k ∧ Bits H ∧ R < b ∧ val (L.drop k) = b * val H + R ∧ Holds wc wr [OwnRow 3 1 (.slice (some ⟨wc.heap.size, 0, none⟩) n n) n (bv (List.replicate k 0 ++ H))]) (fun _ iv _ => (intOf iv + 1).toNat)
  case atStart => exact ⟨n, 0, [], rfl, rfl, Nat.le_refl _, by simp, fun b hb => (List.not_mem_nil hb).elim, h0, by rw [List.drop_eq_nil_of_le (by have := hn.out; omega)]; simp [val], by rw [List.append_nil, bv_rep]; have := H1.out; rwa [Nat.mul_one, show (Value.int .i64 0).cells = #[.int .i64 0] from rfl, toList_madeCells_one] at this⟩
  case round =>
    obtain ⟨k, R, H, rfl, rfl, hk, hHl, hHb, hRb, hv, hh⟩ := hrel
    have hvH := hide hv
    have HH := hide hh
    have hHb := hide hHb
    have hHl := hide hHl
    clear hv hh
    rcases Nat.eq_zero_or_pos k with rfl | hk0
    · have HV : fcap (val H) = T := by
        have h1 := hvH.out
        rw [List.drop_zero, hvL.out] at h1
        rw [← hT.out, fover, Nat.mul_comm a, h1, Nat.mul_add_div h0, Nat.div_eq_of_lt hRb, Nat.add_zero]
        rfl
      have HV := hide HV
      have HR : Hide (RowAt wr (.slice (some ⟨wc.heap.size, 0, none⟩) n n) (bv H)) := ⟨by have := HH.out.rowAt; rwa [List.replicate_zero, List.nil_append] at this⟩
      go_wp2_with (go_at_call 87; (with_reducible refine (Ref_whole _ H hHb.out (by have := hHl.out; omega) _ HR.out).mono ?_); rintro r w4 ⟨rfl, h5⟩; have k4 := hide h5; clear h5)
      go_ret
      exact ⟨rfl, (hkl.out.trans HH.out.toKeep).trans k4.out⟩
    · obtain ⟨j, rfl⟩ : ∃ j, k = j + 1 := ⟨k - 1, by omega⟩
      rw [show (((j + 1 : Nat) : Int) - 1) = (j : Int) by omega]
      rcases hr.out with ⟨_, hnil⟩ | ⟨q, off, cap', he, h1, h2, h3⟩
      · have h5 : L.length = 0 := by rw [← bv_length L, hnil]; rfl
        have := hn.out
        omega
      · obtain ⟨rfl, _, rfl⟩ : ao = some ⟨q, off, none⟩ ∧ True ∧ cap = cap' := by
          simp only [Value.slice.injEq] at he
          exact ⟨he.1, trivial, he.2.2⟩
        have hjl : j < L.length := by have := hn.out; omega
        have hjn : (j : Int) < n := by omega
        have hc := HH.out.toKeep.cell (h3 j _ (bv_get hjl))
        have htb : L.getD j 0 ≤ 1 := by
          have := bitAt_le hbL.out j
          unfold bitAt at this
          rw [if_neg (by omega)] at this
          exact this
        have hstep : val (L.drop j) = L.getD j 0 + 2 * val (L.drop (j + 1)) := val_drop hjl
        obtain ⟨t, ht⟩ : ∃ t, L.getD j 0 = t := ⟨_, rfl⟩
        rw [ht] at hc htb hstep
        rw [hvH.out] at hstep
        have hgc : (bv (List.replicate (j + 1) 0 ++ H))[j]? = some (.int .i64 0) := by
          rw [List.replicate_succ', List.append_assoc, bv_append, bv_rep, List.getElem?_append_right (by simp)]
          simp [bv]
        have hq := HH.out.ownsRow.cellAt j (by omega)
        rw [hgc] at hq
        have hf := HH.out.ownsRow.frozenAt j
        have hst := HH.out.ownsRow.stored j (.int .i64 1)
        rw [bv_set] at hst
        have HS := hide (HH.out.grown hst.1 hst.2 (.inl rfl))
        have f6 : IntKind.i64.wrap ((j : Int) - 1) = (j : Int) - 1 := IntWalk.i64_in _ (by omega)
        have hstep := hide hstep
        have f3 : IntKind.u64.wrap (t : Int) = (t : Int) := by rw [IntKind.wrap_u64]; omega
        have H0 : Hide (bv (List.replicate (j + 1) 0 ++ H) = bv (List.replicate j 0 ++ 0 :: H)) := ⟨by rw [List.replicate_succ', List.append_assoc]; rfl⟩
        clear hst ht he h3 hgc
        by_cases hR : R < 9223372036854775808
        · have f1 : (R : Int).tdiv 9223372036854775808 = 0 := by rw [show (R : Int).tdiv 9223372036854775808 = ((R / 9223372036854775808 : Nat) : Int) from rfl]; omega
          have f2 : IntKind.u64.wrap ((R : Int) * 2) = ((2 * R : Nat) : Int) := by rw [IntKind.wrap_u64]; omega
          have f4 : IntKind.u64.wrap (((2 * R : Nat) : Int) + (t : Int)) = ((2 * R + t : Nat) : Int) := by rw [IntKind.wrap_u64]; omega
          obtain ⟨p, hp⟩ : ∃ p, 2 * R = p := ⟨_, rfl⟩
          obtain ⟨m, hm⟩ : ∃ m, p + t = m := ⟨_, rfl⟩
          rw [hp] at f2 f4
          rw [hm] at f4
          by_cases hmb : m < b
          · have hmb' : (m : Int) < b := by omega
            have hmH : Hide (2 * R + t = m) := ⟨by omega⟩
            clear hp hm hR
            go_wp2
            go_roundw
            case rel => exact ⟨j, m, 0 :: H, rfl, rfl, by omega, by have := hHl.out; simp; omega, bits_cons (by omega) hHb.out, hmb, by rw [hstep.out, val, ← hmH.out, Nat.zero_add, Nat.mul_left_comm b]; omega, by rw [← H0.out]; exact HH.out⟩
            case measure => (simp [intOf] <;> omega)
          · have hmb' : ¬ (m : Int) < b := by omega
            have f5 : IntKind.u64.wrap ((m : Int) - (b : Int)) = ((m - b : Nat) : Int) := by rw [IntKind.wrap_u64]; omega
            obtain ⟨R', hR'⟩ : ∃ R', m - b = R' := ⟨_, rfl⟩
            rw [hR'] at f5
            have hmH : Hide (2 * R + t = b + R') := ⟨by omega⟩
            have hRl : R' < b := by omega
            clear hp hm hR hR'
            go_wp2
            go_roundw
            case rel => exact ⟨j, R', 1 :: H, rfl, rfl, by omega, by have := hHl.out; simp; omega, bits_cons (by omega) hHb.out, hRl, by rw [hstep.out, val, show b * (1 + 2 * val H) = b + 2 * (b * val H) by rw [Nat.mul_add, Nat.mul_one, Nat.mul_left_comm]]; have := hmH.out; omega, HS.out⟩
            case measure => (simp [intOf] <;> omega)
        · have f1 : (R : Int).tdiv 9223372036854775808 = 1 := by rw [show (R : Int).tdiv 9223372036854775808 = ((R / 9223372036854775808 : Nat) : Int) from rfl]; omega
          have f2 : IntKind.u64.wrap ((R : Int) * 2) = ((2 * R - 18446744073709551616 : Nat) : Int) := by rw [IntKind.wrap_u64]; omega
          have f4 : IntKind.u64.wrap (((2 * R - 18446744073709551616 : Nat) : Int) + (t : Int)) = ((2 * R - 18446744073709551616 + t : Nat) : Int) := by rw [IntKind.wrap_u64]; omega
          obtain ⟨p, hp⟩ : ∃ p, 2 * R - 18446744073709551616 = p := ⟨_, rfl⟩
          obtain ⟨m, hm⟩ : ∃ m, p + t = m := ⟨_, rfl⟩
          rw [hp] at f2 f4
          rw [hm] at f4
          have f5 : IntKind.u64.wrap ((m : Int) - (b : Int)) = ((m + 18446744073709551616 - b : Nat) : Int) := by rw [IntKind.wrap_u64]; omega
          obtain ⟨R', hR'⟩ : ∃ R', m + 18446744073709551616 - b = R' := ⟨_, rfl⟩
          rw [hR'] at f5
          have hmH : Hide (2 * R + t = b + R') := ⟨by omega⟩
          have hRl : R' < b := by omega
          clear hp hm hR hR'
          go_wp2
          go_roundw
          case rel => exact ⟨j, R', 1 :: H, rfl, rfl, by omega, by have := hHl.out; simp; omega, bits_cons (by omega) hHb.out, hRl, by rw [hstep.out, val, show b * (1 + 2 * val H) = b + 2 * (b * val H) by rw [Nat.mul_add, Nat.mul_one, Nat.mul_left_comm]]; have := hmH.out; omega, HS.out⟩
          case measure => (simp [intOf] <;> omega)
end Go.Proofs.YteledfiechbhgaaGreatDoor
