/- The law ChooseFirst. -/
import Derived.Test.YtkkkjjoknabopaaDoorChooseScript
namespace Go.Proofs.YtkkkjjoknabopaaDoor
open Go Go.RowKit

theorem askB_t {m now : Int} {xs : List Int} (h : beatenB xs now m = true) : askB m 1 0 xs now false false = (0, ((best xs : Nat) : Int), true) := by simp [askB, h]
theorem askB_f {m now : Int} {xs : List Int} (h : beatenB xs now m = false) : askB m 1 0 xs now false false = (0, 0, false) := by simp [askB, h]
set_option maxRecDepth 100000 in
set_option maxHeartbeats 40000000 in
theorem walk_ChooseFirst_nil (margin : Int) (W : World) (hE : Env W) :
    Calls Tryd.prog 7 #[.int .i64 margin, .slice none 0 0] W fun e w' => e = .returned (.bool true) ∧ Holds W w' [] := by
  have hE := hide hE
  by_cases hm : 0 ≤ margin ∧ margin ≤ 1073741824
  · obtain ⟨m0, m1⟩ := hm
    go_enter Tryd.func7, Tryd.ntmps7
    go_wp2_with (first
      | (go_at_call 8; (with_reducible refine (awake13 W _ _ hE.out (Holds.start W)).mono ?_); rintro r w1 ⟨rfl, h1⟩; have h1 := hide h1)
      | (go_at_call 9; (with_reducible refine (Sel_New margin 1 _ W _ h1.out ⟨m0, m1, by decide, by decide⟩).mono ?_); rintro r w2 ⟨b, rfl, h2⟩; have h2 := hide h2))
    refine wp_loop_rounds 1 ?_
    rw [rounds_succ]
    go_wp2
    go_ret
    exact ⟨rfl, h2.out.drop⟩
  · go_enter Tryd.func7, Tryd.ntmps7
    go_wp2_with (first
      | (go_at_call 8; (with_reducible refine (awake13 W _ _ hE.out (Holds.start W)).mono ?_); rintro r w1 ⟨rfl, h1⟩; have h1 := hide h1))
    all_goals (go_ret; exact ⟨rfl, h1.out⟩)
set_option maxRecDepth 100000 in
set_option maxHeartbeats 40000000 in
theorem walk_ChooseFirst (margin : Int) (sb so : Nat) (sp : Option Nat) (cap len : Nat) (ws : Nat → Win) (W : World) (hE : Env W) (hsp : 0 < len → sp = none) (hws : ∀ i, i < len → WinAt W sb (so + i * 10) (ws i) ∧ WinFits (ws i)) :
    Calls Tryd.prog 7 #[.int .i64 margin, .slice (some ⟨sb, so, sp⟩) len cap] W fun e w' => e = .returned (.bool true) ∧ Holds W w' [] := by
  have hE := hide hE
  have hws := hide hws
  have hsp := hide hsp
  by_cases hm : len ≤ 200 ∧ 0 ≤ margin ∧ margin ≤ 1073741824
  · obtain ⟨hl, m0, m1⟩ := hm
    go_enter Tryd.func7, Tryd.ntmps7
    go_wp2_with (first
      | (go_at_call 8; (with_reducible refine (awake13 W _ _ hE.out (Holds.start W)).mono ?_); rintro r w1 ⟨rfl, h1⟩; have h1 := hide h1)
      | (go_at_call 9; (with_reducible refine (Sel_New margin 1 _ W _ h1.out ⟨m0, m1, by decide, by decide⟩).mono ?_); rintro r w2 ⟨b, rfl, h2⟩; have h2 := hide h2))
    go_loopw [7] (fun t wr => ∃ k : Nat, k ≤ len ∧ t = .int .i64 k ∧ Holds W wr [IsSel b margin 1 0]) (fun t _ => (len - (intOf t).toNat))
    case atStart => exact ⟨0, by omega, rfl, h2.out⟩
    case round =>
      obtain ⟨k, hk, rfl, hwr⟩ := hrel
      by_cases hlt : k < len
      · obtain ⟨hA, hF⟩ := hws.out k hlt
        obtain rfl := hsp.out (by omega)
        have hA := hA.keep (W' := wr) fun a v h => hwr.oldCell h
        have hk0 : (0 : Int) ≤ k := by omega
        have hkl : (k : Int) < len := by omega
        have hk1 : k * 10 < 2000 := by omega
        have h3 := hide hwr
        clear hwr
        generalize ws k = n at hA hF
        obtain ⟨x0, x1, x2, x3, x4, x5, x6, now, pinned, moving⟩ := n
        obtain ⟨c0, c1, c2, c3, c4, c5, c6, c7, c8, c9⟩ := hA
        obtain ⟨hx, h7, hn0, hn1⟩ := hF
        simp only [Win.xs] at hx h7 c0 c1 c2 c3 c4 c5 c6 c7 c8 c9
        have hx := hide hx
        have h7 := hide h7
        cases hr : rightB [x0, x1, x2, x3, x4, x5, x6]
        · go_wp2_with (first
            | (go_at_call 12; (with_reducible refine (right_any x0 x1 x2 x3 x4 x5 x6 _).mono ?_); rintro r w4 ⟨rfl, h4⟩
               have h4 := hide (h3.out.alloc'.keep h4)))
          go_ret
          exact ⟨rfl, h4.out.drop⟩
        · have hf := rightB_fair hr hx.out h7.out
          have hB := best_lt [x0, x1, x2, x3, x4, x5, x6]
          cases hb : beatenB [x0, x1, x2, x3, x4, x5, x6] now margin <;> cases pinned <;> cases moving
          all_goals
            have hb' := hide hb
            clear hb
            have hvA : Hide (∀ m, askB margin 1 0 [x0, x1, x2, x3, x4, x5, x6] now true m = (0, 0, false)) := ⟨fun m => by simp [askB]⟩
            have hvB : Hide (∀ p, askB margin 1 0 [x0, x1, x2, x3, x4, x5, x6] now p true = (0, 0, false)) := ⟨fun m => by simp [askB]⟩
            first
              | have hvC := hide (askB_t (m := margin) hb'.out)
              | have hvC := hide (askB_f (m := margin) hb'.out)
            go_wp2_with (first
              | (go_at_call 12; (with_reducible refine (right_any x0 x1 x2 x3 x4 x5 x6 _).mono ?_); rintro r w4 ⟨rfl, h4⟩
                 have h4 := h3.out.alloc.keep h4
                 obtain ⟨r0, r1, r2, r3, r4, r5, r6, r7, r8, r9⟩ := win_cells h4
                 have h4 := hide h4)
              | (go_at_call 13
                 first
                   | with_reducible refine (Ask_val hf ⟨Int.le_refl 0, by decide⟩ h4.out.p1 hvC.out).mono ?_
                   | with_reducible refine (Ask_val hf ⟨Int.le_refl 0, by decide⟩ h4.out.p1 (hvA.out _)).mono ?_
                   | with_reducible refine (Ask_val hf ⟨Int.le_refl 0, by decide⟩ h4.out.p1 (hvB.out _)).mono ?_
                 rintro r w5 ⟨rfl, h5⟩
                 obtain ⟨s0, s1, s2, s3, s4, s5, s6, s7, s8, s9⟩ := win_cells h5.p1
                 have h5 := hide h5)
              | (go_at_call 18; (with_reducible refine (Beaten_val x0 x1 x2 x3 x4 x5 x6 now margin _ _ hf hb'.out).mono ?_); rintro r w6 ⟨rfl, h6⟩
                 have h6 := h5.out.keep h6
                 obtain ⟨t0, t1, t2, t3, t4, t5, t6, t7, t8, t9⟩ := win_cells h6.p1
                 have h6 := hide h6)
              | (go_at_call 16; (with_reducible refine (Best_any x0 x1 x2 x3 x4 x5 x6 _).mono ?_); rintro r w7 ⟨rfl, h7⟩
                 have h7 := hide (h6.out.keep h7))
              | (go_at_call 15
                 first
                   | with_reducible refine (Counted_any b margin 1 0 W _ _ h7.out).mono ?_
                   | with_reducible refine (Counted_any b margin 1 0 W _ _ h6.out).mono ?_
                   | with_reducible refine (Counted_any b margin 1 0 W _ _ h5.out).mono ?_
                 rintro r w8 ⟨rfl, h8⟩
                 have h8 := hide h8))
            go_roundw
            case rel => exact ⟨k + 1, by omega, by go_num, h8.out.p1.drop⟩
            case measure => simp [intOf]; omega
      · obtain rfl : k = len := by omega
        have h3 := hide hwr
        clear hwr
        go_wp2
        go_ret
        exact ⟨rfl, h3.out.drop⟩
  · go_enter Tryd.func7, Tryd.ntmps7
    go_wp2_with (first
      | (go_at_call 8; (with_reducible refine (awake13 W _ _ hE.out (Holds.start W)).mono ?_); rintro r w1 ⟨rfl, h1⟩; have h1 := hide h1))
    all_goals (go_ret; exact ⟨rfl, h1.out⟩)
theorem ChooseFirst_at : LawAt 7 Tryd.f7 := by
  intro W args hE hA
  rw [Tryd.params7] at hA
  obtain ⟨v0, vs0, e0, a0, hA⟩ := args_cons hA
  obtain ⟨v1, vs1, rfl, a1, hA⟩ := args_cons hA
  obtain rfl := args_nil hA
  obtain ⟨margin, rfl, _⟩ := arg_int Tryd.underlying3 a0
  obtain ⟨len, ws, hw⟩ := wins_of_arg a1
  obtain rfl : args = #[.int .i64 margin, v1] := by cases args; simpa using e0
  rcases hw with ⟨rfl, _⟩ | ⟨b, o, cap, sp, rfl, hsp, hl, hc, hi⟩
  · exact walk_ChooseFirst_nil margin W hE
  · exact walk_ChooseFirst margin b o sp cap len ws W hE hsp hi
set_option maxRecDepth 100000 in
theorem ChooseFirst_lifted (os : Os) (started : os.Started) (H : Type) (enc : TypeId × Value → H) (F : Stop.Interp) :
    ReturnsInHanded {} Tryd.checked os 7 .any ((OpenSpec.ofChange Rows.chooseFirstSpec).preRow enc Tryd.prog Tryd.f7 Rows.chooseFirstRow.domain false Rows.chooseFirstRow.laid) (((OpenSpec.ofChange Rows.chooseFirstSpec).at F).post enc Tryd.prog Tryd.f7 false true false false) := by
  have hx : DataW.whole enc Tryd.prog ((laidWorld os).forCall (fun _ _ => 0) ⟨#[], #[.int .i64 0, .slice none 0 0], []⟩).memory Tryd.f7.params.toList Rows.chooseFirstSpec.vars false (#[.int .i64 0, .slice none 0 0] : Array Value).toList 16 = some ([.lit (.int .i64 0), .nil], [], []) := by kernel_rfl
  refine returnsInHanded_of_row (C := Tryd.checked) (s := OpenSpec.ofChange Rows.chooseFirstSpec) own started (by kernel_rfl) Tryd.func7
    (witness_row_at (enc := enc) (C := Tryd.checked) false (laidWorld os) #[.int .i64 0, .slice none 0 0] rfl (by kernel_rfl) (by kernel_rfl) (by kernel_rfl)
      (OpenSpec.preRow_of_cond 16 hx (by kernel_rfl) (fun k hk => by cases hk) (by kernel_rfl) (laidWorld_met os _))) ?_
  intro W base args ds gs before hval hW _ _ _ hL _ _
  exact law_post rfl rfl (by intro H ds h; have h' : ds.length = 2 := h; match ds, h' with | [_, _], _ => rfl) (by decide +kernel) ChooseFirst_at (env_of_laid hL) hval hW
theorem ChooseFirst_said : Rows.ChooseFirstSaid :=
  OpenClaim.holds_of_cond 7 Tryd.f7 rfl rfl rfl rfl rfl rfl rfl ⟨rfl, rfl, rfl, rfl, rfl⟩ rfl rfl rfl rfl rfl (by kernel_rfl) Tryd.func7 (by kernel_rfl)
    (of_decide_eq_true (by kernel_rfl)) (by unfold Func.isWrapper; first | (rw [if_pos (by decide +kernel)]; kernel_rfl) | (rw [if_neg (by decide +kernel)]; exact ⟨rfl, rfl⟩))
    (fun os started H enc _ F => by rw [OpenClaim.pre_eq_preRow]; exact ChooseFirst_lifted os started H enc F)
theorem ChooseFirst_plain (f : FuncId) (fn : Func) (hf : Tryd.pinned.checked.prog.funcNamed "cachewise/cachewiselaw13.ChooseFirst" = some f) (hfn : Tryd.pinned.checked.prog.funcs[f]? = some fn) :
    true = Tryd.pinned.checked.prog.looks [] ∧ ∀ (j : Nat) t, fn.params[j]? = some t → Tryd.pinned.checked.prog.wantsStandIn t = false := by
  obtain rfl : f = 7 := Option.some.inj ((show Tryd.prog.funcNamed "cachewise/cachewiselaw13.ChooseFirst" = some 7 by kernel_rfl).symm.trans hf) |>.symm
  obtain rfl : fn = Tryd.f7 := (Option.some.inj (Tryd.func7.symm.trans hfn)).symm
  refine ⟨by kernel_rfl, fun j t ht => ?_⟩
  have hall : ∀ t, t ∈ Tryd.f7.params.toList → Tryd.prog.wantsStandIn t = false := by decide +kernel
  exact hall t (by simpa using Array.mem_of_getElem? ht)
theorem ChooseFirst_card : Rows.ChooseFirstCardSaid :=
  Claim7.holds_tied_plain_at .later [] _ _ _ _ ChooseFirst_said (fun _ h => by cases h) (by kernel_rfl) (fun _ h => by cases h) chooseFirst_row_tie rfl ⟨rfl, rfl⟩ (by kernel_rfl) rfl ChooseFirst_plain (by kernel_rfl)
end Go.Proofs.YtkkkjjoknabopaaDoor
