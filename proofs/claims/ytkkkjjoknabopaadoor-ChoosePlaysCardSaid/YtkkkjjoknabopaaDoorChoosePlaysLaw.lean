/- The law ChoosePlays. -/
import Derived.Test.YtkkkjjoknabopaaDoorChoosePlays
namespace Go.Proofs.YtkkkjjoknabopaaDoor
open Go Go.RowKit

theorem refRight_val {margin hold : Int} {w : World} {v : Bool} (hv : rangeB margin hold = v) :
    Calls Tryd.prog 10 #[.int .i64 margin, .int .i64 hold] w fun r w' => r = .returned (.bool v) ∧ w = w' := by
  have h := refRight_any margin hold w
  rw [hv] at h
  exact h
set_option maxRecDepth 100000 in
set_option maxHeartbeats 40000000 in
theorem walk_ChoosePlays_nil (margin hold : Int) (W : World) (hE : Env W) (hm : 0 ≤ margin ∧ margin ≤ 1073741824 ∧ 1 ≤ hold ∧ hold ≤ 64) :
    Calls Tryd.prog 3 #[.int .i64 margin, .int .i64 hold, .slice none 0 0] W fun e w' => e = .returned (.bool true) ∧ Holds W w' [] := by
  have hE := hide hE
  have hmH := hide hm
  have hR : Hide (rangeB margin hold = true) := ⟨decide_eq_true hm⟩
  go_enter Tryd.func3, Tryd.ntmps3
  go_wp2_with (first
    | (go_at_call 8; (with_reducible refine (awake13 W _ _ hE.out (Holds.start W)).mono ?_); rintro r w1 ⟨rfl, h1⟩; have h1 := hide h1)
    | (go_at_call 9; (with_reducible refine (Sel_New margin hold _ W _ h1.out hmH.out).mono ?_); rintro r w2 ⟨b, rfl, h2⟩; have h2 := hide h2)
    | (go_at_call 10; (with_reducible refine (refRight_val hR.out).mono ?_); rintro r w3 ⟨rfl, rfl⟩))
  refine wp_loop_rounds 1 ?_
  rw [rounds_succ]
  go_wp2
  go_ret
  exact ⟨rfl, h2.out.drop⟩
set_option maxRecDepth 100000 in
set_option maxHeartbeats 40000000 in
theorem walk_ChoosePlays_bad (margin hold : Int) (v : Value) (len : Nat) (hv : v = .slice none 0 0 ∧ len = 0 ∨ ∃ a c, v = .slice (some a) len c ∧ len ≤ 200) (W : World) (hE : Env W) (hm : ¬ (0 ≤ margin ∧ margin ≤ 1073741824 ∧ 1 ≤ hold ∧ hold ≤ 64)) :
    Calls Tryd.prog 3 #[.int .i64 margin, .int .i64 hold, v] W fun e w' => e = .returned (.bool true) ∧ Holds W w' [] := by
  have hE := hide hE
  have hmH := hide hm
  have hR : Hide (rangeB margin hold = false) := ⟨decide_eq_false hm⟩
  clear hm
  rcases hv with ⟨rfl, rfl⟩ | ⟨a, c, rfl, hl⟩
  all_goals
    go_enter Tryd.func3, Tryd.ntmps3
    go_wp2_with (first
      | (go_at_call 8; (with_reducible refine (awake13 W _ _ hE.out (Holds.start W)).mono ?_); rintro r w1 ⟨rfl, h1⟩; have h1 := hide h1)
      | (go_at_call 9; (with_reducible refine (Sel_New_bad margin hold _ W _ h1.out hmH.out).mono ?_); rintro r w2 ⟨ve, rfl, h2⟩; have h2 := hide h2)
      | (go_at_call 10; (with_reducible refine (refRight_val hR.out).mono ?_); rintro r w3 ⟨rfl, rfl⟩)
      | (go_at_call 11; (with_reducible refine (Wraps_hit _ _ 1 _ _ (hE.out.of h2.out) (by decide) h2.out.errAt).mono ?_); rintro r w4 ⟨rfl, h4⟩
         have h4 := hide (h2.out.keep h4)))
    go_ret
    exact ⟨rfl, h4.out.drop⟩
set_option maxRecDepth 100000 in
set_option maxHeartbeats 40000000 in
theorem walk_ChoosePlays_long (margin hold : Int) (a : Addr) (len c : Nat) (hl : 200 < len) (W : World) (hE : Env W) :
    Calls Tryd.prog 3 #[.int .i64 margin, .int .i64 hold, .slice (some a) len c] W fun e w' => e = .returned (.bool true) ∧ Holds W w' [] := by
  have hE := hide hE
  go_enter Tryd.func3, Tryd.ntmps3
  go_wp2_with (first
    | (go_at_call 8; (with_reducible refine (awake13 W _ _ hE.out (Holds.start W)).mono ?_); rintro r w1 ⟨rfl, h1⟩; have h1 := hide h1))
  go_ret
  exact ⟨rfl, h1.out⟩
set_option maxRecDepth 100000 in
set_option maxHeartbeats 40000000 in
theorem walk_ChoosePlays (margin hold : Int) (sb so : Nat) (sp : Option Nat) (cap len : Nat) (ws : Nat → Win) (W : World) (hE : Env W) (hl : len ≤ 200) (hm : 0 ≤ margin ∧ margin ≤ 1073741824 ∧ 1 ≤ hold ∧ hold ≤ 64) (hsp : 0 < len → sp = none) (hws : ∀ i, i < len → WinAt W sb (so + i * 10) (ws i) ∧ WinFits (ws i)) :
    Calls Tryd.prog 3 #[.int .i64 margin, .int .i64 hold, .slice (some ⟨sb, so, sp⟩) len cap] W fun e w' => e = .returned (.bool true) ∧ Holds W w' [] := by
  have hE := hide hE
  have hws := hide hws
  have hsp := hide hsp
  have hmH := hide hm
  have hR : Hide (rangeB margin hold = true) := ⟨decide_eq_true hm⟩
  have hmm : Hide (0 ≤ margin ∧ margin ≤ 1073741824) := ⟨hm.1, hm.2.1⟩
  have hh : Hide (1 ≤ hold ∧ hold ≤ 64) := ⟨hm.2.2⟩
  clear hm
  go_enter Tryd.func3, Tryd.ntmps3
  go_wp2_with (first
    | (go_at_call 8; (with_reducible refine (awake13 W _ _ hE.out (Holds.start W)).mono ?_); rintro r w1 ⟨rfl, h1⟩; have h1 := hide h1)
    | (go_at_call 9; (with_reducible refine (Sel_New margin hold _ W _ h1.out hmH.out).mono ?_); rintro r w2 ⟨b, rfl, h2⟩; have h2 := hide h2)
    | (go_at_call 10; (with_reducible refine (refRight_val hR.out).mono ?_); rintro r w3 ⟨rfl, rfl⟩))
  go_loopw [9, 10] (fun cn t wr => ∃ (k : Nat) (c : Int), k ≤ len ∧ t = .int .i64 k ∧ cn = .int .i64 c ∧ 0 ≤ c ∧ c < hold ∧ Holds W wr [IsSel b margin hold c]) (fun _ t _ => (len - (intOf t).toNat))
  case atStart => exact ⟨0, 0, by omega, rfl, rfl, by omega, by have := hh.out; omega, h2.out⟩
  case round =>
    obtain ⟨k, c, hk, rfl, rfl, hc0, hc1, hwr⟩ := hrel
    by_cases hlt : k < len
    · obtain ⟨hA, hF⟩ := hws.out k hlt
      obtain rfl := hsp.out (by omega)
      have hA := hA.keep (W' := wr) fun a v h => hwr.oldCell h
      have hk0 : (0 : Int) ≤ k := by omega
      have hkl : (k : Int) < len := by omega
      have hk1 : k * 10 < 2000 := by omega
      have h3 := hide hwr
      clear hwr
      generalize ws k = n at hA hF
      obtain ⟨x0, x1, x2, x3, x4, x5, x6, now, pinned, moving⟩ := n
      obtain ⟨c0, c1, c2, c3, c4, c5, c6, c7, c8, c9⟩ := hA
      obtain ⟨hx, h7, hn0, hn1⟩ := hF
      simp only [Win.xs] at hx h7 c0 c1 c2 c3 c4 c5 c6 c7 c8 c9
      have hx := hide hx
      have h7 := hide h7
      cases hr : rightB [x0, x1, x2, x3, x4, x5, x6]
      · go_wp2_with (first
          | (go_at_call 12; (with_reducible refine (right_any x0 x1 x2 x3 x4 x5 x6 _).mono ?_); rintro r w4 ⟨rfl, h4⟩
             have h4 := hide (h3.out.alloc'.keep h4)))
        go_ret
        exact ⟨rfl, h4.out.drop⟩
      · have hf := rightB_fair hr hx.out h7.out
        have hB := best_lt [x0, x1, x2, x3, x4, x5, x6]
        have hcc : Hide (0 ≤ c ∧ c ≤ 64) := ⟨by have := hh.out; omega⟩
        have hcd : Hide (0 ≤ c ∧ c < hold ∧ hold ≤ 64) := ⟨by have := hh.out; omega⟩
        obtain ⟨c', kk, ok, hv⟩ : ∃ c' kk ok, askB margin hold c [x0, x1, x2, x3, x4, x5, x6] now pinned moving = (c', kk, ok) := ⟨_, _, _, rfl⟩
        have hlim := askB_lt ⟨hc0, hc1⟩ hv
        obtain ⟨bv, hbv⟩ : ∃ bv, beatenB [x0, x1, x2, x3, x4, x5, x6] now margin = bv := ⟨_, rfl⟩
        have hv := hide hv
        have hbv := hide hbv
        have hlim := hide hlim
        have n1 : (kk == kk) = true := beq_self_eq_true kk
        have n2 : (c' == c') = true := beq_self_eq_true c'
        have n3 : (ok == ok) = true := beq_self_eq_true ok
        have n4 : (bv == bv) = true := beq_self_eq_true bv
        go_wp2_with (first
          | (go_at_call 12; (with_reducible refine (right_any x0 x1 x2 x3 x4 x5 x6 _).mono ?_); rintro r w4 ⟨rfl, h4⟩
             have h4 := h3.out.alloc.keep h4
             obtain ⟨r0, r1, r2, r3, r4, r5, r6, r7, r8, r9⟩ := win_cells h4
             have h4 := hide h4)
          | (go_at_call 13; (with_reducible refine (Ask_val hf hcc.out h4.out.p1 hv.out).mono ?_); rintro r w5 ⟨rfl, h5⟩
             obtain ⟨s0, s1, s2, s3, s4, s5, s6, s7, s8, s9⟩ := win_cells h5.p1
             have h5 := hide h5)
          | (go_at_call 14; (with_reducible refine (refAsk_any c margin hold x0 x1 x2 x3 x4 x5 x6 now pinned moving _ c' kk ok hf hmm.out hcd.out hv.out).mono ?_); rintro r w6 ⟨rfl, h6⟩
             have h6 := h5.out.keep h6
             obtain ⟨t0, t1, t2, t3, t4, t5, t6, t7, t8, t9⟩ := win_cells h6.p1
             have tb : w6.cell? ⟨b, 2, none⟩ = some (.int .i64 c') := h6.cell rfl
             have h6 := hide h6))
        have u0 := fun u : KeptOf w6 => u.cell t0
        have u1 := fun u : KeptOf w6 => u.cell t1
        have u2 := fun u : KeptOf w6 => u.cell t2
        have u3 := fun u : KeptOf w6 => u.cell t3
        have u4 := fun u : KeptOf w6 => u.cell t4
        have u5 := fun u : KeptOf w6 => u.cell t5
        have u6 := fun u : KeptOf w6 => u.cell t6
        have u7 := fun u : KeptOf w6 => u.cell t7
        have ub := fun u : KeptOf w6 => u.cell tb
        (refine wp_region_kept (by kernel_rfl) (by kernel_rfl) ?_; (repeat (go_big_quiet_step (first
          | (go_at_call 15; with_reducible exact KeptOf.calls (Counted_cell (ub _)))
          | (go_at_call 16; with_reducible exact KeptOf.calls (Best_any x0 x1 x2 x3 x4 x5 x6 _))
          | (go_at_call 17; with_reducible exact KeptOf.calls (refBest_any x0 x1 x2 x3 x4 x5 x6 _))
          | (go_at_call 18; with_reducible exact KeptOf.calls (Beaten_val x0 x1 x2 x3 x4 x5 x6 now margin _ _ hf hbv.out))
          | (go_at_call 19; with_reducible exact KeptOf.calls (refBeaten_any x0 x1 x2 x3 x4 x5 x6 now margin _ _ hf hmm.out hbv.out))))); refine wpQuiet_nil ?_; intro _ hw'; obtain ⟨uq, hw''⟩ := hw'; subst hw'')
        have h8 := hide (uq.holds h6.out)
        go_wp2
        go_roundw
        case rel => exact ⟨k + 1, c', by omega, by go_num, rfl, hlim.out.1, hlim.out.2, h8.out.p1.drop⟩
        case measure => simp [intOf]; omega
    · obtain rfl : k = len := by omega
      have h3 := hide hwr
      clear hwr
      go_wp2
      go_ret
      exact ⟨rfl, h3.out.drop⟩
theorem ChoosePlays_at : LawAt 3 Tryd.f3 := by
  intro W args hE hA
  rw [Tryd.params3] at hA
  obtain ⟨v0, vs0, e0, a0, hA⟩ := args_cons hA
  obtain ⟨v1, vs1, rfl, a1, hA⟩ := args_cons hA
  obtain ⟨v2, vs2, rfl, a2, hA⟩ := args_cons hA
  obtain rfl := args_nil hA
  obtain ⟨margin, rfl, _⟩ := arg_int Tryd.underlying3 a0
  obtain ⟨hold, rfl, _⟩ := arg_int Tryd.underlying3 a1
  obtain ⟨len, ws, hw⟩ := wins_of_arg a2
  obtain rfl : args = #[.int .i64 margin, .int .i64 hold, v2] := by cases args; simpa using e0
  by_cases hm : 0 ≤ margin ∧ margin ≤ 1073741824 ∧ 1 ≤ hold ∧ hold ≤ 64
  · rcases hw with ⟨rfl, _⟩ | ⟨b, o, cap, sp, rfl, hsp, hl, hc, hi⟩
    · exact walk_ChoosePlays_nil margin hold W hE hm
    · by_cases h2 : len ≤ 200
      · exact walk_ChoosePlays margin hold b o sp cap len ws W hE h2 hm hsp hi
      · exact walk_ChoosePlays_long margin hold _ len cap (by omega) W hE
  · rcases hw with ⟨rfl, rfl⟩ | ⟨b, o, cap, sp, rfl, hsp, hl, hc, hi⟩
    · exact walk_ChoosePlays_bad margin hold _ 0 (.inl ⟨rfl, rfl⟩) W hE hm
    · by_cases h2 : len ≤ 200
      · exact walk_ChoosePlays_bad margin hold _ len (.inr ⟨_, _, rfl, h2⟩) W hE hm
      · exact walk_ChoosePlays_long margin hold _ len cap (by omega) W hE
set_option maxRecDepth 100000 in
theorem ChoosePlays_lifted (os : Os) (started : os.Started) (H : Type) (enc : TypeId × Value → H) (F : Stop.Interp) :
    ReturnsInHanded {} Tryd.checked os 3 .any ((OpenSpec.ofChange Rows.choosePlaysSpec).preRow enc Tryd.prog Tryd.f3 Rows.choosePlaysRow.domain false Rows.choosePlaysRow.laid) (((OpenSpec.ofChange Rows.choosePlaysSpec).at F).post enc Tryd.prog Tryd.f3 false true false false) := by
  have hx : DataW.whole enc Tryd.prog ((laidWorld os).forCall (fun _ _ => 0) ⟨#[], #[.int .i64 0, .int .i64 0, .slice none 0 0], []⟩).memory Tryd.f3.params.toList Rows.choosePlaysSpec.vars false (#[.int .i64 0, .int .i64 0, .slice none 0 0] : Array Value).toList 16 = some ([.lit (.int .i64 0), .lit (.int .i64 0), .nil], [], []) := by kernel_rfl
  refine returnsInHanded_of_row (C := Tryd.checked) (s := OpenSpec.ofChange Rows.choosePlaysSpec) own started (by kernel_rfl) Tryd.func3
    (witness_row_at (enc := enc) (C := Tryd.checked) false (laidWorld os) #[.int .i64 0, .int .i64 0, .slice none 0 0] rfl (by kernel_rfl) (by kernel_rfl) (by kernel_rfl)
      (OpenSpec.preRow_of_cond 16 hx (by kernel_rfl) (fun k hk => by cases hk) (by kernel_rfl) (laidWorld_met os _))) ?_
  intro W base args ds gs before hval hW _ _ _ hL _ _
  exact law_post rfl rfl (by intro H ds h; have h' : ds.length = 3 := h; match ds, h' with | [_, _, _], _ => rfl) (by decide +kernel) ChoosePlays_at (env_of_laid hL) hval hW
theorem ChoosePlays_said : Rows.ChoosePlaysSaid :=
  OpenClaim.holds_of_cond 3 Tryd.f3 rfl rfl rfl rfl rfl rfl rfl ⟨rfl, rfl, rfl, rfl, rfl⟩ rfl rfl rfl rfl rfl (by kernel_rfl) Tryd.func3 (by kernel_rfl)
    (of_decide_eq_true (by kernel_rfl)) (by unfold Func.isWrapper; first | (rw [if_pos (by decide +kernel)]; kernel_rfl) | (rw [if_neg (by decide +kernel)]; exact ⟨rfl, rfl⟩))
    (fun os started H enc _ F => by rw [OpenClaim.pre_eq_preRow]; exact ChoosePlays_lifted os started H enc F)
theorem ChoosePlays_plain (f : FuncId) (fn : Func) (hf : Tryd.pinned.checked.prog.funcNamed "cachewise/cachewiselaw13.ChoosePlays" = some f) (hfn : Tryd.pinned.checked.prog.funcs[f]? = some fn) :
    true = Tryd.pinned.checked.prog.looks [] ∧ ∀ (j : Nat) t, fn.params[j]? = some t → Tryd.pinned.checked.prog.wantsStandIn t = false := by
  obtain rfl : f = 3 := Option.some.inj ((show Tryd.prog.funcNamed "cachewise/cachewiselaw13.ChoosePlays" = some 3 by kernel_rfl).symm.trans hf) |>.symm
  obtain rfl : fn = Tryd.f3 := (Option.some.inj (Tryd.func3.symm.trans hfn)).symm
  refine ⟨by kernel_rfl, fun j t ht => ?_⟩
  have hall : ∀ t, t ∈ Tryd.f3.params.toList → Tryd.prog.wantsStandIn t = false := by decide +kernel
  exact hall t (by simpa using Array.mem_of_getElem? ht)
theorem ChoosePlays_card : Rows.ChoosePlaysCardSaid :=
  Claim7.holds_tied_plain_at .later [] _ _ _ _ ChoosePlays_said (fun _ h => by cases h) (by kernel_rfl) (fun _ h => by cases h) choosePlays_row_tie rfl ⟨rfl, rfl⟩ (by kernel_rfl) rfl ChoosePlays_plain (by kernel_rfl)
end Go.Proofs.YtkkkjjoknabopaaDoor
