/- The law ChooseHolds. -/
import Derived.Test.YtkkkjjoknabopaaDoorChooseScript
namespace Go.Proofs.YtkkkjjoknabopaaDoor
open Go Go.RowKit

theorem ask_p {m h c now : Int} {xs : List Int} {v : Bool} : askB m h c xs now true v = (0, 0, false) := by simp [askB]
theorem ask_m {m h c now : Int} {xs : List Int} : askB m h c xs now false true = (0, 0, false) := by simp [askB]
theorem ask_f {m h c now : Int} {xs : List Int} (hb : beatenB xs now m = false) : askB m h c xs now false false = (0, 0, false) := by simp [askB, hb]
theorem ask_t0 {m h c now : Int} {xs : List Int} (hb : beatenB xs now m = true) (hc : c + 1 < h) : askB m h c xs now false false = (c + 1, 0, false) := by simp [askB, hb, hc]
theorem ask_t1 {m h c now : Int} {xs : List Int} (hb : beatenB xs now m = true) (hc : ¬ c + 1 < h) : askB m h c xs now false false = (0, ((best xs : Nat) : Int), true) := by simp [askB, hb, hc]
theorem beaten_ne {m now : Int} {xs : List Int} (h0 : 0 ≤ m) (hb : beatenB xs now m = true) : (((best xs : Nat) : Int) == now) = false := by
  rw [beq_eq_false_iff_ne]
  rintro rfl
  rw [beatenB_best h0] at hb
  cases hb
set_option maxRecDepth 100000 in
set_option maxHeartbeats 40000000 in
theorem walk_ChooseHolds_nil (margin hold : Int) (W : World) (hE : Env W) :
    Calls Tryd.prog 5 #[.int .i64 margin, .int .i64 hold, .slice none 0 0] W fun e w' => e = .returned (.bool true) ∧ Holds W w' [] := by
  have hE := hide hE
  by_cases hm : 0 ≤ margin ∧ margin ≤ 1073741824 ∧ 1 ≤ hold ∧ hold ≤ 64
  · obtain ⟨m0, m1, m2, m3⟩ := hm
    go_enter Tryd.func5, Tryd.ntmps5
    go_wp2_with (first
      | (go_at_call 8; (with_reducible refine (awake13 W _ _ hE.out (Holds.start W)).mono ?_); rintro r w1 ⟨rfl, h1⟩; have h1 := hide h1)
      | (go_at_call 9; (with_reducible refine (Sel_New margin hold _ W _ h1.out ⟨m0, m1, m2, m3⟩).mono ?_); rintro r w2 ⟨b, rfl, h2⟩; have h2 := hide h2))
    refine wp_loop_rounds 1 ?_
    rw [rounds_succ]
    go_wp2
    go_ret
    exact ⟨rfl, h2.out.drop⟩
  · go_enter Tryd.func5, Tryd.ntmps5
    go_wp2_with (first
      | (go_at_call 8; (with_reducible refine (awake13 W _ _ hE.out (Holds.start W)).mono ?_); rintro r w1 ⟨rfl, h1⟩; have h1 := hide h1))
    all_goals (go_ret; exact ⟨rfl, h1.out⟩)
set_option maxRecDepth 100000 in
set_option maxHeartbeats 40000000 in
theorem walk_ChooseHolds (margin hold : Int) (sb so : Nat) (sp : Option Nat) (cap len : Nat) (ws : Nat → Win) (W : World) (hE : Env W) (hsp : 0 < len → sp = none) (hws : ∀ i, i < len → WinAt W sb (so + i * 10) (ws i) ∧ WinFits (ws i)) :
    Calls Tryd.prog 5 #[.int .i64 margin, .int .i64 hold, .slice (some ⟨sb, so, sp⟩) len cap] W fun e w' => e = .returned (.bool true) ∧ Holds W w' [] := by
  have hE := hide hE
  have hws := hide hws
  have hsp := hide hsp
  by_cases hm : len ≤ 200 ∧ 0 ≤ margin ∧ margin ≤ 1073741824 ∧ 1 ≤ hold ∧ hold ≤ 64
  · obtain ⟨hl, m0, m1, m2, m3⟩ := hm
    go_enter Tryd.func5, Tryd.ntmps5
    go_wp2_with (first
      | (go_at_call 8; (with_reducible refine (awake13 W _ _ hE.out (Holds.start W)).mono ?_); rintro r w1 ⟨rfl, h1⟩; have h1 := hide h1)
      | (go_at_call 9; (with_reducible refine (Sel_New margin hold _ W _ h1.out ⟨m0, m1, m2, m3⟩).mono ?_); rintro r w2 ⟨b, rfl, h2⟩; have h2 := hide h2))
    go_loopw [9, 10] (fun rn t wr => ∃ (k : Nat) (run : Int), k ≤ len ∧ t = .int .i64 k ∧ rn = .int .i64 run ∧ 0 ≤ run ∧ run < hold ∧ Holds W wr [IsSel b margin hold run]) (fun _ t _ => (len - (intOf t).toNat))
    case atStart => exact ⟨0, 0, by omega, rfl, rfl, by omega, by omega, h2.out⟩
    case round =>
      obtain ⟨k, run, hk, rfl, rfl, hr0, hr1, hwr⟩ := hrel
      by_cases hlt : k < len
      · obtain ⟨hA, hF⟩ := hws.out k hlt
        obtain rfl := hsp.out (by omega)
        have hA := hA.keep (W' := wr) fun a v h => hwr.oldCell h
        have hk0 : (0 : Int) ≤ k := by omega
        have hkl : (k : Int) < len := by omega
        have hk1 : k * 10 < 2000 := by omega
        have h3 := hide hwr
        clear hwr
        generalize ws k = n at hA hF
        obtain ⟨x0, x1, x2, x3, x4, x5, x6, now, pinned, moving⟩ := n
        obtain ⟨c0, c1, c2, c3, c4, c5, c6, c7, c8, c9⟩ := hA
        obtain ⟨hx, h7, hn0, hn1⟩ := hF
        simp only [Win.xs] at hx h7 c0 c1 c2 c3 c4 c5 c6 c7 c8 c9
        have hx := hide hx
        have h7 := hide h7
        cases hr : rightB [x0, x1, x2, x3, x4, x5, x6]
        · go_wp2_with (first
            | (go_at_call 12; (with_reducible refine (right_any x0 x1 x2 x3 x4 x5 x6 _).mono ?_); rintro r w4 ⟨rfl, h4⟩
               have h4 := hide (h3.out.alloc'.keep h4)))
          go_ret
          exact ⟨rfl, h4.out.drop⟩
        · have hf := rightB_fair hr hx.out h7.out
          have hB := best_lt [x0, x1, x2, x3, x4, x5, x6]
          have hB' : (best [x0, x1, x2, x3, x4, x5, x6] : Int) < 7 := by omega
          have hB0 : (0 : Int) ≤ (best [x0, x1, x2, x3, x4, x5, x6] : Int) := by omega
          have hc : Hide (0 ≤ run ∧ run ≤ 64) := ⟨by omega⟩
          have z0 : ((0 : Int) == hold) = false := by rw [beq_eq_false_iff_ne]; omega
          cases pinned
          · cases moving
            · cases hb : beatenB [x0, x1, x2, x3, x4, x5, x6] now margin
              · have hb' := hide hb
                clear hb
                have hv := hide (ask_f (h := hold) (c := run) hb'.out)
                go_wp2_with (first | (go_at_call 12; (with_reducible refine (right_any x0 x1 x2 x3 x4 x5 x6 _).mono ?_); rintro r w4 ⟨rfl, h4⟩; have h4 := h3.out.alloc.keep h4; obtain ⟨r0, r1, r2, r3, r4, r5, r6, r7, r8, r9⟩ := win_cells h4; have h4 := hide h4) | (go_at_call 18; (with_reducible refine (Beaten_val x0 x1 x2 x3 x4 x5 x6 now margin _ _ hf hb'.out).mono ?_); rintro r w5 ⟨rfl, h5⟩; have h5 := h4.out.keep h5; obtain ⟨q0, q1, q2, q3, q4, q5, q6, q7, q8, q9⟩ := win_cells h5; have h5 := hide h5) | (go_at_call 13; (first | (with_reducible refine (Ask_val hf hc.out h5.out.p1 hv.out).mono ?_) | (with_reducible refine (Ask_val hf hc.out h4.out.p1 hv.out).mono ?_)); rintro r w6 ⟨rfl, h6⟩; obtain ⟨s0, s1, s2, s3, s4, s5, s6, s7, s8, s9⟩ := win_cells h6.p1; have h6 := hide h6) | (go_at_call 16; (with_reducible refine (Best_any x0 x1 x2 x3 x4 x5 x6 _).mono ?_); rintro r w7 ⟨rfl, h7'⟩; have h7' := h6.out.keep h7'; obtain ⟨t0, t1, t2, t3, t4, t5, t6, t7, t8, t9⟩ := win_cells h7'.p1; have h7' := hide h7') | (go_at_call 18; (with_reducible refine (Beaten_val x0 x1 x2 x3 x4 x5 x6 _ margin _ false hf (beatenB_best m0)).mono ?_); rintro r w8 ⟨rfl, h8⟩; have h8 := hide (h7'.out.keep h8)) | (go_at_call 15; (first | (with_reducible refine (Counted_any b margin hold _ W _ _ h8.out).mono ?_) | (with_reducible refine (Counted_any b margin hold _ W _ _ h6.out).mono ?_)); rintro r w9 ⟨rfl, h9⟩; have h9 := hide h9))
                go_roundw
                case rel => exact ⟨k + 1, 0, by omega, by go_num, rfl, by omega, by omega, h9.out.p1.drop⟩
                case measure => simp [intOf]; omega
              · have hb' := hide hb
                have hne := beaten_ne m0 hb
                clear hb
                by_cases hrh : run + 1 < hold
                · have hv := hide (ask_t0 (h := hold) (c := run) hb'.out hrh)
                  have z1 : (run + 1 == hold) = false := by rw [beq_eq_false_iff_ne]; omega
                  go_wp2_with (first | (go_at_call 12; (with_reducible refine (right_any x0 x1 x2 x3 x4 x5 x6 _).mono ?_); rintro r w4 ⟨rfl, h4⟩; have h4 := h3.out.alloc.keep h4; obtain ⟨r0, r1, r2, r3, r4, r5, r6, r7, r8, r9⟩ := win_cells h4; have h4 := hide h4) | (go_at_call 18; (with_reducible refine (Beaten_val x0 x1 x2 x3 x4 x5 x6 now margin _ _ hf hb'.out).mono ?_); rintro r w5 ⟨rfl, h5⟩; have h5 := h4.out.keep h5; obtain ⟨q0, q1, q2, q3, q4, q5, q6, q7, q8, q9⟩ := win_cells h5; have h5 := hide h5) | (go_at_call 13; (first | (with_reducible refine (Ask_val hf hc.out h5.out.p1 hv.out).mono ?_) | (with_reducible refine (Ask_val hf hc.out h4.out.p1 hv.out).mono ?_)); rintro r w6 ⟨rfl, h6⟩; obtain ⟨s0, s1, s2, s3, s4, s5, s6, s7, s8, s9⟩ := win_cells h6.p1; have h6 := hide h6) | (go_at_call 16; (with_reducible refine (Best_any x0 x1 x2 x3 x4 x5 x6 _).mono ?_); rintro r w7 ⟨rfl, h7'⟩; have h7' := h6.out.keep h7'; obtain ⟨t0, t1, t2, t3, t4, t5, t6, t7, t8, t9⟩ := win_cells h7'.p1; have h7' := hide h7') | (go_at_call 18; (with_reducible refine (Beaten_val x0 x1 x2 x3 x4 x5 x6 _ margin _ false hf (beatenB_best m0)).mono ?_); rintro r w8 ⟨rfl, h8⟩; have h8 := hide (h7'.out.keep h8)) | (go_at_call 15; (first | (with_reducible refine (Counted_any b margin hold _ W _ _ h8.out).mono ?_) | (with_reducible refine (Counted_any b margin hold _ W _ _ h6.out).mono ?_)); rintro r w9 ⟨rfl, h9⟩; have h9 := hide h9))
                  go_roundw
                  case rel => exact ⟨k + 1, run + 1, by omega, by go_num, rfl, by omega, by omega, h9.out.p1.drop⟩
                  case measure => simp [intOf]; omega
                · have hv := hide (ask_t1 (h := hold) (c := run) hb'.out hrh)
                  have z1 : (run + 1 == hold) = true := by rw [beq_iff_eq]; omega
                  go_wp2_with (first | (go_at_call 12; (with_reducible refine (right_any x0 x1 x2 x3 x4 x5 x6 _).mono ?_); rintro r w4 ⟨rfl, h4⟩; have h4 := h3.out.alloc.keep h4; obtain ⟨r0, r1, r2, r3, r4, r5, r6, r7, r8, r9⟩ := win_cells h4; have h4 := hide h4) | (go_at_call 18; (with_reducible refine (Beaten_val x0 x1 x2 x3 x4 x5 x6 now margin _ _ hf hb'.out).mono ?_); rintro r w5 ⟨rfl, h5⟩; have h5 := h4.out.keep h5; obtain ⟨q0, q1, q2, q3, q4, q5, q6, q7, q8, q9⟩ := win_cells h5; have h5 := hide h5) | (go_at_call 13; (first | (with_reducible refine (Ask_val hf hc.out h5.out.p1 hv.out).mono ?_) | (with_reducible refine (Ask_val hf hc.out h4.out.p1 hv.out).mono ?_)); rintro r w6 ⟨rfl, h6⟩; obtain ⟨s0, s1, s2, s3, s4, s5, s6, s7, s8, s9⟩ := win_cells h6.p1; have h6 := hide h6) | (go_at_call 16; (with_reducible refine (Best_any x0 x1 x2 x3 x4 x5 x6 _).mono ?_); rintro r w7 ⟨rfl, h7'⟩; have h7' := h6.out.keep h7'; obtain ⟨t0, t1, t2, t3, t4, t5, t6, t7, t8, t9⟩ := win_cells h7'.p1; have h7' := hide h7') | (go_at_call 18; (with_reducible refine (Beaten_val x0 x1 x2 x3 x4 x5 x6 _ margin _ false hf (beatenB_best m0)).mono ?_); rintro r w8 ⟨rfl, h8⟩; have h8 := hide (h7'.out.keep h8)) | (go_at_call 15; (first | (with_reducible refine (Counted_any b margin hold _ W _ _ h8.out).mono ?_) | (with_reducible refine (Counted_any b margin hold _ W _ _ h6.out).mono ?_)); rintro r w9 ⟨rfl, h9⟩; have h9 := hide h9))
                  go_roundw
                  case rel => exact ⟨k + 1, 0, by omega, by go_num, rfl, by omega, by omega, h9.out.p1.drop⟩
                  case measure => simp [intOf]; omega
            · have hb' : Hide (beatenB [x0, x1, x2, x3, x4, x5, x6] now margin = beatenB [x0, x1, x2, x3, x4, x5, x6] now margin) := ⟨rfl⟩
              have hv : Hide (askB margin hold run [x0, x1, x2, x3, x4, x5, x6] now false true = (0, 0, false)) := ⟨ask_m⟩
              go_wp2_with (first | (go_at_call 12; (with_reducible refine (right_any x0 x1 x2 x3 x4 x5 x6 _).mono ?_); rintro r w4 ⟨rfl, h4⟩; have h4 := h3.out.alloc.keep h4; obtain ⟨r0, r1, r2, r3, r4, r5, r6, r7, r8, r9⟩ := win_cells h4; have h4 := hide h4) | (go_at_call 18; (with_reducible refine (Beaten_val x0 x1 x2 x3 x4 x5 x6 now margin _ _ hf hb'.out).mono ?_); rintro r w5 ⟨rfl, h5⟩; have h5 := h4.out.keep h5; obtain ⟨q0, q1, q2, q3, q4, q5, q6, q7, q8, q9⟩ := win_cells h5; have h5 := hide h5) | (go_at_call 13; (first | (with_reducible refine (Ask_val hf hc.out h5.out.p1 hv.out).mono ?_) | (with_reducible refine (Ask_val hf hc.out h4.out.p1 hv.out).mono ?_)); rintro r w6 ⟨rfl, h6⟩; obtain ⟨s0, s1, s2, s3, s4, s5, s6, s7, s8, s9⟩ := win_cells h6.p1; have h6 := hide h6) | (go_at_call 16; (with_reducible refine (Best_any x0 x1 x2 x3 x4 x5 x6 _).mono ?_); rintro r w7 ⟨rfl, h7'⟩; have h7' := h6.out.keep h7'; obtain ⟨t0, t1, t2, t3, t4, t5, t6, t7, t8, t9⟩ := win_cells h7'.p1; have h7' := hide h7') | (go_at_call 18; (with_reducible refine (Beaten_val x0 x1 x2 x3 x4 x5 x6 _ margin _ false hf (beatenB_best m0)).mono ?_); rintro r w8 ⟨rfl, h8⟩; have h8 := hide (h7'.out.keep h8)) | (go_at_call 15; (first | (with_reducible refine (Counted_any b margin hold _ W _ _ h8.out).mono ?_) | (with_reducible refine (Counted_any b margin hold _ W _ _ h6.out).mono ?_)); rintro r w9 ⟨rfl, h9⟩; have h9 := hide h9))
              go_roundw
              case rel => exact ⟨k + 1, 0, by omega, by go_num, rfl, by omega, by omega, h9.out.p1.drop⟩
              case measure => simp [intOf]; omega
          · have hb' : Hide (beatenB [x0, x1, x2, x3, x4, x5, x6] now margin = beatenB [x0, x1, x2, x3, x4, x5, x6] now margin) := ⟨rfl⟩
            have hv : Hide (askB margin hold run [x0, x1, x2, x3, x4, x5, x6] now true moving = (0, 0, false)) := ⟨ask_p⟩
            go_wp2_with (first | (go_at_call 12; (with_reducible refine (right_any x0 x1 x2 x3 x4 x5 x6 _).mono ?_); rintro r w4 ⟨rfl, h4⟩; have h4 := h3.out.alloc.keep h4; obtain ⟨r0, r1, r2, r3, r4, r5, r6, r7, r8, r9⟩ := win_cells h4; have h4 := hide h4) | (go_at_call 18; (with_reducible refine (Beaten_val x0 x1 x2 x3 x4 x5 x6 now margin _ _ hf hb'.out).mono ?_); rintro r w5 ⟨rfl, h5⟩; have h5 := h4.out.keep h5; obtain ⟨q0, q1, q2, q3, q4, q5, q6, q7, q8, q9⟩ := win_cells h5; have h5 := hide h5) | (go_at_call 13; (first | (with_reducible refine (Ask_val hf hc.out h5.out.p1 hv.out).mono ?_) | (with_reducible refine (Ask_val hf hc.out h4.out.p1 hv.out).mono ?_)); rintro r w6 ⟨rfl, h6⟩; obtain ⟨s0, s1, s2, s3, s4, s5, s6, s7, s8, s9⟩ := win_cells h6.p1; have h6 := hide h6) | (go_at_call 16; (with_reducible refine (Best_any x0 x1 x2 x3 x4 x5 x6 _).mono ?_); rintro r w7 ⟨rfl, h7'⟩; have h7' := h6.out.keep h7'; obtain ⟨t0, t1, t2, t3, t4, t5, t6, t7, t8, t9⟩ := win_cells h7'.p1; have h7' := hide h7') | (go_at_call 18; (with_reducible refine (Beaten_val x0 x1 x2 x3 x4 x5 x6 _ margin _ false hf (beatenB_best m0)).mono ?_); rintro r w8 ⟨rfl, h8⟩; have h8 := hide (h7'.out.keep h8)) | (go_at_call 15; (first | (with_reducible refine (Counted_any b margin hold _ W _ _ h8.out).mono ?_) | (with_reducible refine (Counted_any b margin hold _ W _ _ h6.out).mono ?_)); rintro r w9 ⟨rfl, h9⟩; have h9 := hide h9))
            go_roundw
            case rel => exact ⟨k + 1, 0, by omega, by go_num, rfl, by omega, by omega, h9.out.p1.drop⟩
            case measure => simp [intOf]; omega
      · obtain rfl : k = len := by omega
        have h3 := hide hwr
        clear hwr
        go_wp2
        go_ret
        exact ⟨rfl, h3.out.drop⟩
  · go_enter Tryd.func5, Tryd.ntmps5
    go_wp2_with (first
      | (go_at_call 8; (with_reducible refine (awake13 W _ _ hE.out (Holds.start W)).mono ?_); rintro r w1 ⟨rfl, h1⟩; have h1 := hide h1))
    all_goals (go_ret; exact ⟨rfl, h1.out⟩)
theorem ChooseHolds_at : LawAt 5 Tryd.f5 := by
  intro W args hE hA
  rw [Tryd.params5] at hA
  obtain ⟨v0, vs0, e0, a0, hA⟩ := args_cons hA
  obtain ⟨v1, vs1, rfl, a1, hA⟩ := args_cons hA
  obtain ⟨v2, vs2, rfl, a2, hA⟩ := args_cons hA
  obtain rfl := args_nil hA
  obtain ⟨margin, rfl, _⟩ := arg_int Tryd.underlying3 a0
  obtain ⟨hold, rfl, _⟩ := arg_int Tryd.underlying3 a1
  obtain ⟨len, ws, hw⟩ := wins_of_arg a2
  obtain rfl : args = #[.int .i64 margin, .int .i64 hold, v2] := by cases args; simpa using e0
  rcases hw with ⟨rfl, _⟩ | ⟨b, o, cap, sp, rfl, hsp, hl, hc, hi⟩
  · exact walk_ChooseHolds_nil margin hold W hE
  · exact walk_ChooseHolds margin hold b o sp cap len ws W hE hsp hi
set_option maxRecDepth 100000 in
theorem ChooseHolds_lifted (os : Os) (started : os.Started) (H : Type) (enc : TypeId × Value → H) (F : Stop.Interp) :
    ReturnsInHanded {} Tryd.checked os 5 .any ((OpenSpec.ofChange Rows.chooseHoldsSpec).preRow enc Tryd.prog Tryd.f5 Rows.chooseHoldsRow.domain false Rows.chooseHoldsRow.laid) (((OpenSpec.ofChange Rows.chooseHoldsSpec).at F).post enc Tryd.prog Tryd.f5 false true false false) := by
  have hx : DataW.whole enc Tryd.prog ((laidWorld os).forCall (fun _ _ => 0) ⟨#[], #[.int .i64 0, .int .i64 0, .slice none 0 0], []⟩).memory Tryd.f5.params.toList Rows.chooseHoldsSpec.vars false (#[.int .i64 0, .int .i64 0, .slice none 0 0] : Array Value).toList 16 = some ([.lit (.int .i64 0), .lit (.int .i64 0), .nil], [], []) := by kernel_rfl
  refine returnsInHanded_of_row (C := Tryd.checked) (s := OpenSpec.ofChange Rows.chooseHoldsSpec) own started (by kernel_rfl) Tryd.func5
    (witness_row_at (enc := enc) (C := Tryd.checked) false (laidWorld os) #[.int .i64 0, .int .i64 0, .slice none 0 0] rfl (by kernel_rfl) (by kernel_rfl) (by kernel_rfl)
      (OpenSpec.preRow_of_cond 16 hx (by kernel_rfl) (fun k hk => by cases hk) (by kernel_rfl) (laidWorld_met os _))) ?_
  intro W base args ds gs before hval hW _ _ _ hL _ _
  exact law_post rfl rfl (by intro H ds h; have h' : ds.length = 3 := h; match ds, h' with | [_, _, _], _ => rfl) (by decide +kernel) ChooseHolds_at (env_of_laid hL) hval hW
theorem ChooseHolds_said : Rows.ChooseHoldsSaid :=
  OpenClaim.holds_of_cond 5 Tryd.f5 rfl rfl rfl rfl rfl rfl rfl ⟨rfl, rfl, rfl, rfl, rfl⟩ rfl rfl rfl rfl rfl (by kernel_rfl) Tryd.func5 (by kernel_rfl)
    (of_decide_eq_true (by kernel_rfl)) (by unfold Func.isWrapper; first | (rw [if_pos (by decide +kernel)]; kernel_rfl) | (rw [if_neg (by decide +kernel)]; exact ⟨rfl, rfl⟩))
    (fun os started H enc _ F => by rw [OpenClaim.pre_eq_preRow]; exact ChooseHolds_lifted os started H enc F)
theorem ChooseHolds_plain (f : FuncId) (fn : Func) (hf : Tryd.pinned.checked.prog.funcNamed "cachewise/cachewiselaw13.ChooseHolds" = some f) (hfn : Tryd.pinned.checked.prog.funcs[f]? = some fn) :
    true = Tryd.pinned.checked.prog.looks [] ∧ ∀ (j : Nat) t, fn.params[j]? = some t → Tryd.pinned.checked.prog.wantsStandIn t = false := by
  obtain rfl : f = 5 := Option.some.inj ((show Tryd.prog.funcNamed "cachewise/cachewiselaw13.ChooseHolds" = some 5 by kernel_rfl).symm.trans hf) |>.symm
  obtain rfl : fn = Tryd.f5 := (Option.some.inj (Tryd.func5.symm.trans hfn)).symm
  refine ⟨by kernel_rfl, fun j t ht => ?_⟩
  have hall : ∀ t, t ∈ Tryd.f5.params.toList → Tryd.prog.wantsStandIn t = false := by decide +kernel
  exact hall t (by simpa using Array.mem_of_getElem? ht)
theorem ChooseHolds_card : Rows.ChooseHoldsCardSaid :=
  Claim7.holds_tied_plain_at .later [] _ _ _ _ ChooseHolds_said (fun _ h => by cases h) (by kernel_rfl) (fun _ h => by cases h) chooseHolds_row_tie rfl ⟨rfl, rfl⟩ (by kernel_rfl) rfl ChooseHolds_plain (by kernel_rfl)
end Go.Proofs.YtkkkjjoknabopaaDoor
