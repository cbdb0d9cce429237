/- The law ChooseBest. -/
import Derived.Test.YtkkkjjoknabopaaDoorChooseAwake
import Derived.Test.YtkkkjjoknabopaaDoorQuiet
import Derived.Test.YtkkkjjoknabopaaDoorLift
namespace Go.Proofs.YtkkkjjoknabopaaDoor
open Go Go.RowKit

def rightB (xs : List Int) : Bool := (List.range 7).all fun i => decide (0 ≤ gi xs i)
theorem rightB_iff (xs : List Int) : rightB xs = true ↔ ∀ i, i < 7 → 0 ≤ gi xs i := by simp [rightB]
theorem rightB_false {xs : List Int} {k : Nat} (h : k < 7) (hk : gi xs k < 0) : rightB xs = false := by
  cases hb : rightB xs
  · rfl
  · have := (rightB_iff xs).1 hb k h; omega
set_option maxHeartbeats 1000000 in
theorem right_any (x0 x1 x2 x3 x4 x5 x6 : Int) (w : World) :
    Calls Tryd.prog 12 #[.agg (row7 x0 x1 x2 x3 x4 x5 x6)] w fun r w' => r = .returned (.bool (rightB [x0, x1, x2, x3, x4, x5, x6])) ∧ Keep w w' := by
  have hK := hide ((Keep.refl w).alloc (o := .cells (row7 x0 x1 x2 x3 x4 x5 x6) 31))
  go_enter Tryd.func12, Tryd.ntmps12
  go_wp2
  go_loop [3] (fun t => ∃ k : Nat, k ≤ 7 ∧ t = .int .i64 k ∧ ∀ i, i < k → 0 ≤ gi [x0, x1, x2, x3, x4, x5, x6] i) (fun t => (7 - intOf t).toNat)
  case atStart => exact ⟨0, by omega, rfl, fun i hi => absurd hi (Nat.not_lt_zero i)⟩
  case round =>
    obtain ⟨k, hk, rfl, hall⟩ := hrel
    have hA := hide hall
    clear hall
    by_cases hlt : k < 7
    · have hlt' : (k : Int) < 7 := by omega
      have hc : (w.alloc (.cells (row7 x0 x1 x2 x3 x4 x5 x6) 31)).cell? ⟨w.heap.size, k, none⟩ = some (.int .i64 (gi [x0, x1, x2, x3, x4, x5, x6] k)) := by
        rw [World.cell?_alloc_at _ _ _ _ rfl]
        exact row7_get x0 x1 x2 x3 x4 x5 x6 _ hlt
      by_cases hd : gi [x0, x1, x2, x3, x4, x5, x6] k < 0
      · go_wp2
        go_ret
        exact ⟨by rw [show rightB [x0, x1, x2, x3, x4, x5, x6] = false from rightB_false hlt hd]; rfl, hK.out⟩
      · go_wp2
        go_round
        case rel => exact ⟨k + 1, by omega, by go_num, fun i hi => by
          by_cases e : i = k
          · subst e; omega
          · exact hA.out i (by omega)⟩
        case measure => simp [intOf]; omega
    · obtain rfl : k = 7 := by omega
      go_wp2
      go_ret
      exact ⟨by rw [show rightB [x0, x1, x2, x3, x4, x5, x6] = true from (rightB_iff _).2 hA.out]; rfl, hK.out⟩
theorem rightB_fair {xs : List Int} (h : rightB xs = true) (hx : ∀ i, gi xs i ≤ 9223372036854775807) (h7 : ∀ i, 7 ≤ i → gi xs i = 0) : fair xs := fun i => by
  have h := (rightB_iff xs).1 h
  by_cases hi : i < 7
  · exact ⟨h i hi, hx i⟩
  · exact ⟨by rw [h7 i (by omega)]; decide, hx i⟩

theorem Beaten_val (x0 x1 x2 x3 x4 x5 x6 now margin : Int) (w : World) (v : Bool) (hf : fair [x0, x1, x2, x3, x4, x5, x6]) (hv : beatenB [x0, x1, x2, x3, x4, x5, x6] now margin = v) :
    Calls Tryd.prog 18 #[.agg (row7 x0 x1 x2 x3 x4 x5 x6), .int .i64 now, .int .i64 margin] w fun r w' => r = .returned (.bool v) ∧ Keep w w' := by
  have h := Beaten_any x0 x1 x2 x3 x4 x5 x6 now margin w hf
  rw [hv] at h
  exact h
theorem beatenB_best {xs : List Int} {m : Int} (h : 0 ≤ m) : beatenB xs (best xs) m = false := by
  unfold beatenB
  apply decide_eq_false
  simp
  omega
theorem beatenB_mono {xs : List Int} {now m n : Int} (h : m ≤ n) (hb : beatenB xs now n = true) : beatenB xs now m = true := by
  unfold beatenB at *
  have := of_decide_eq_true hb
  exact decide_eq_true ⟨this.1, this.2.1, by omega⟩
theorem beatenB_zero {xs : List Int} {k : Nat} (h : k < 7) : beatenB xs k 0 = decide (gi xs (best xs) < gi xs k) := by
  unfold beatenB
  rw [decide_eq_decide]
  simp
  omega
set_option maxRecDepth 100000 in
set_option maxHeartbeats 40000000 in
theorem walk_ChooseBest (x0 x1 x2 x3 x4 x5 x6 margin more : Int) (W : World) (hE : Env W) (hx : ∀ i, gi [x0, x1, x2, x3, x4, x5, x6] i ≤ 9223372036854775807) (h7 : ∀ i, 7 ≤ i → gi [x0, x1, x2, x3, x4, x5, x6] i = 0) :
    Calls Tryd.prog 4 #[.agg (row7 x0 x1 x2 x3 x4 x5 x6), .int .i64 margin, .int .i64 more] W fun e w' => e = .returned (.bool true) ∧ Holds W w' [] := by
  have hE := hide hE
  have hx := hide hx
  have h7 := hide h7
  have h0 := hide ((Holds.start W).alloc (o := .cells (row7 x0 x1 x2 x3 x4 x5 x6) 31))
  obtain ⟨W1, hW1⟩ : ∃ W1, W.alloc (.cells (row7 x0 x1 x2 x3 x4 x5 x6) 31) = W1 := ⟨_, rfl⟩
  obtain ⟨bw, hbw⟩ : ∃ bw, W.heap.size = bw := ⟨_, rfl⟩
  rw [hW1, hbw] at h0
  cases hr : rightB [x0, x1, x2, x3, x4, x5, x6]
  · go_enter Tryd.func4, Tryd.ntmps4
    go_wp2_with (first
      | (go_at_call 8; (with_reducible refine (awake13 W _ _ hE.out h0.out).mono ?_); rintro r w1 ⟨rfl, h1⟩
         obtain ⟨r0, r1, r2, r3, r4, r5, r6⟩ := row7_cells h1
         have h1 := hide h1)
      | (go_at_call 12; (with_reducible refine (right_any x0 x1 x2 x3 x4 x5 x6 _).mono ?_); rintro r w2 ⟨rfl, h2⟩
         have h2 := h1.out.keep h2
         have h2 := hide h2))
    go_ret
    exact ⟨rfl, h2.out.drop⟩
  · by_cases hm : 0 ≤ margin ∧ margin ≤ 1073741824 ∧ 0 ≤ more ∧ more ≤ 1073741824
    · obtain ⟨m0, m1, m2, m3⟩ := hm
      have hf := rightB_fair hr hx.out h7.out
      have hB := best_lt [x0, x1, x2, x3, x4, x5, x6]
      have hB' : (best [x0, x1, x2, x3, x4, x5, x6] : Int) < 7 := by omega
      have hB0 : (0 : Int) ≤ (best [x0, x1, x2, x3, x4, x5, x6] : Int) := by omega
      have hmH : Hide (IntKind.i64.wrap (margin + more) = margin + more) := ⟨IntWalk.i64_in _ (by omega)⟩
      go_enter Tryd.func4, Tryd.ntmps4
      go_wp2_with (first
        | (go_at_call 8; (with_reducible refine (awake13 W _ _ hE.out h0.out).mono ?_); rintro r w1 ⟨rfl, h1⟩
           obtain ⟨r0, r1, r2, r3, r4, r5, r6⟩ := row7_cells h1
           have h1 := hide h1)
        | (go_at_call 12; (with_reducible refine (right_any x0 x1 x2 x3 x4 x5 x6 _).mono ?_); rintro r w2 ⟨rfl, h2⟩
           have h2 := h1.out.keep h2
           obtain ⟨s0, s1, s2, s3, s4, s5, s6⟩ := row7_cells h2
           have h2 := hide h2)
        | (go_at_call 16; (with_reducible refine (Best_any x0 x1 x2 x3 x4 x5 x6 _).mono ?_); rintro r w3 ⟨rfl, h3⟩
           have h3 := h2.out.keep h3
           obtain ⟨t0, t1, t2, t3, t4, t5, t6⟩ := row7_cells h3
           have h3 := hide h3)
        | (go_at_call 18; (with_reducible refine (Beaten_val x0 x1 x2 x3 x4 x5 x6 _ _ _ false hf (beatenB_best m0)).mono ?_); rintro r w4 ⟨rfl, h4⟩
           have h4 := h3.out.keep h4
           have h4 := hide h4))
      go_loopw [8] (fun t wr => ∃ k : Nat, k ≤ 7 ∧ t = .int .i64 k ∧ Holds W wr [pts bw (.cells (row7 x0 x1 x2 x3 x4 x5 x6) 31)]) (fun t _ => (7 - intOf t).toNat)
      case atStart => exact ⟨0, by omega, rfl, h4.out⟩
      case round =>
        obtain ⟨k, hk, rfl, hwr⟩ := hrel
        have h5 := hide hwr
        obtain ⟨r0, r1, r2, r3, r4, r5, r6⟩ := row7_cells hwr
        by_cases hlt : k < 7
        · have hlt' : (k : Int) < 7 := by omega
          have hk0 : (0 : Int) ≤ k := by omega
          have ck := hwr.cell (row7_get x0 x1 x2 x3 x4 x5 x6 k hlt)
          have cb := hwr.cell (row7_get x0 x1 x2 x3 x4 x5 x6 (best [x0, x1, x2, x3, x4, x5, x6]) hB)
          clear hwr
          have q0 := fun u : KeptOf wr => u.cell r0
          have q1 := fun u : KeptOf wr => u.cell r1
          have q2 := fun u : KeptOf wr => u.cell r2
          have q3 := fun u : KeptOf wr => u.cell r3
          have q4 := fun u : KeptOf wr => u.cell r4
          have q5 := fun u : KeptOf wr => u.cell r5
          have q6 := fun u : KeptOf wr => u.cell r6
          have qk := fun u : KeptOf wr => u.cell ck
          have qb := fun u : KeptOf wr => u.cell cb
          have d1 : decide (gi [x0, x1, x2, x3, x4, x5, x6] k < gi [x0, x1, x2, x3, x4, x5, x6] (best [x0, x1, x2, x3, x4, x5, x6])) = false := decide_eq_false (by have := best_le [x0, x1, x2, x3, x4, x5, x6] k hlt; omega)
          have z0 := beatenB_zero (xs := [x0, x1, x2, x3, x4, x5, x6]) hlt
          have hz := hide z0
          have hmono : Hide (beatenB [x0, x1, x2, x3, x4, x5, x6] k (margin + more) = true → beatenB [x0, x1, x2, x3, x4, x5, x6] k margin = true) := ⟨beatenB_mono (by omega)⟩
          have hfirst : Hide (k < best [x0, x1, x2, x3, x4, x5, x6] → gi [x0, x1, x2, x3, x4, x5, x6] (best [x0, x1, x2, x3, x4, x5, x6]) < gi [x0, x1, x2, x3, x4, x5, x6] k) := ⟨best_first _ _⟩
          clear z0 ck cb r0 r1 r2 r3 r4 r5 r6
          have hpos : Hide (beatenB [x0, x1, x2, x3, x4, x5, x6] k (margin + more) = true → gi [x0, x1, x2, x3, x4, x5, x6] (best [x0, x1, x2, x3, x4, x5, x6]) < gi [x0, x1, x2, x3, x4, x5, x6] k) := ⟨fun h => by have h1 := beatenB_mono (m := 0) (by omega) h; rw [hz.out] at h1; exact of_decide_eq_true h1⟩
          cases e1 : beatenB [x0, x1, x2, x3, x4, x5, x6] k (margin + more) <;> by_cases e3 : gi [x0, x1, x2, x3, x4, x5, x6] (best [x0, x1, x2, x3, x4, x5, x6]) < gi [x0, x1, x2, x3, x4, x5, x6] k <;> by_cases e4 : k < best [x0, x1, x2, x3, x4, x5, x6]
          all_goals
            try exact absurd (hfirst.out e4) e3
          all_goals
            try exact absurd (hpos.out e1) e3
          all_goals
              have E1 := hide e1
              have E3 : Hide (beatenB [x0, x1, x2, x3, x4, x5, x6] k 0 = decide (gi [x0, x1, x2, x3, x4, x5, x6] (best [x0, x1, x2, x3, x4, x5, x6]) < gi [x0, x1, x2, x3, x4, x5, x6] k)) := hz
              clear e1
              first
                | have d3 : decide (gi [x0, x1, x2, x3, x4, x5, x6] (best [x0, x1, x2, x3, x4, x5, x6]) < gi [x0, x1, x2, x3, x4, x5, x6] k) = true := decide_eq_true e3
                | have d3 : decide (gi [x0, x1, x2, x3, x4, x5, x6] (best [x0, x1, x2, x3, x4, x5, x6]) < gi [x0, x1, x2, x3, x4, x5, x6] k) = false := decide_eq_false e3
              first
                | (have d4 : decide (k < best [x0, x1, x2, x3, x4, x5, x6]) = true := decide_eq_true e4
                   have d5 : (gi [x0, x1, x2, x3, x4, x5, x6] k == gi [x0, x1, x2, x3, x4, x5, x6] (best [x0, x1, x2, x3, x4, x5, x6])) = false := by simp; omega)
                | have d4 : decide (k < best [x0, x1, x2, x3, x4, x5, x6]) = false := decide_eq_false e4
              go_wp2
              have hm := hmH.out
              (refine wp_region_kept (by kernel_rfl) (by kernel_rfl) ?_; (repeat (go_big_quiet_step (first
                | (go_at_call 18; with_reducible exact KeptOf.calls (Beaten_val x0 x1 x2 x3 x4 x5 x6 k (margin + more) _ _ hf E1.out))
                | (go_at_call 18; with_reducible exact KeptOf.calls (Beaten_val x0 x1 x2 x3 x4 x5 x6 k margin _ true hf (hmono.out E1.out)))
                | (go_at_call 18; with_reducible exact KeptOf.calls (Beaten_val x0 x1 x2 x3 x4 x5 x6 k 0 _ _ hf E3.out))))); refine wpQuiet_nil ?_; intro _ hw'; obtain ⟨uq, hw''⟩ := hw'; subst hw'')
              clear hm d1 d3 d4 q0 q1 q2 q3 q4 q5 q6 qk qb
              try clear d5
              have h6 := hide (uq.holds h5.out)
              go_wp2
              go_roundw
              case rel => exact ⟨k + 1, by omega, by go_num, h6.out⟩
              case measure => simp [intOf]; omega
        · obtain rfl : k = 7 := by omega
          clear hwr
          go_wp2
          go_ret
          exact ⟨rfl, h5.out.drop⟩
    · go_enter Tryd.func4, Tryd.ntmps4
      go_wp2_with (first
        | (go_at_call 8; (with_reducible refine (awake13 W _ _ hE.out h0.out).mono ?_); rintro r w1 ⟨rfl, h1⟩
           obtain ⟨r0, r1, r2, r3, r4, r5, r6⟩ := row7_cells h1
           have h1 := hide h1)
        | (go_at_call 12; (with_reducible refine (right_any x0 x1 x2 x3 x4 x5 x6 _).mono ?_); rintro r w2 ⟨rfl, h2⟩
           have h2 := h1.out.keep h2
           have h2 := hide h2))
      all_goals (go_ret; exact ⟨rfl, h2.out.drop⟩)

/-- An argument of the type [7]int. -/
theorem ints7_of_shp {W : World} {n : Nat} {cs : List Value} (h : Shp Tryd.prog W n 31 cs) : ∃ x0 x1 x2 x3 x4 x5 x6 : Int, cs = (row7 x0 x1 x2 x3 x4 x5 x6).toList ∧ (∀ i, gi [x0, x1, x2, x3, x4, x5, x6] i ≤ 9223372036854775807) ∧ (∀ i, 7 ≤ i → gi [x0, x1, x2, x3, x4, x5, x6] i = 0) := by
  obtain ⟨hl, n', hi⟩ := shp_array Tryd.underlying31 h
  have e7 : Tryd.prog.cellsOf 31 = 7 := by kernel_rfl
  have e1 : Tryd.prog.cellsOf 3 = 1 := by kernel_rfl
  rw [e7] at hl
  rw [e1] at hi
  match cs, hl with
  | [c0, c1, c2, c3, c4, c5, c6], _ =>
    obtain ⟨x0, e0, w0⟩ := shp_int Tryd.underlying3 (hi 0 (by decide))
    obtain ⟨x1, e1, w1⟩ := shp_int Tryd.underlying3 (hi 1 (by decide))
    obtain ⟨x2, e2, w2⟩ := shp_int Tryd.underlying3 (hi 2 (by decide))
    obtain ⟨x3, e3, w3⟩ := shp_int Tryd.underlying3 (hi 3 (by decide))
    obtain ⟨x4, e4, w4⟩ := shp_int Tryd.underlying3 (hi 4 (by decide))
    obtain ⟨x5, e5, w5⟩ := shp_int Tryd.underlying3 (hi 5 (by decide))
    obtain ⟨x6, e6, w6⟩ := shp_int Tryd.underlying3 (hi 6 (by decide))
    refine ⟨x0, x1, x2, x3, x4, x5, x6, ?_, ?_, ?_⟩
    · simp_all
    · intro i
      match i with
      | 0 => exact (i64_bounds w0).2
      | 1 => exact (i64_bounds w1).2
      | 2 => exact (i64_bounds w2).2
      | 3 => exact (i64_bounds w3).2
      | 4 => exact (i64_bounds w4).2
      | 5 => exact (i64_bounds w5).2
      | 6 => exact (i64_bounds w6).2
      | _ + 7 => exact (by decide : (0 : Int) ≤ 9223372036854775807)
    · intro i hi
      obtain ⟨j, rfl⟩ : ∃ j, i = j + 7 := ⟨i - 7, by omega⟩
      rfl
theorem ChooseBest_at : LawAt 4 Tryd.f4 := by
  intro W args hE hA
  rw [Tryd.params4] at hA
  obtain ⟨v0, vs0, e0, a0, hA⟩ := args_cons hA
  obtain ⟨v1, vs1, rfl, a1, hA⟩ := args_cons hA
  obtain ⟨v2, vs2, rfl, a2, hA⟩ := args_cons hA
  obtain rfl := args_nil hA
  obtain ⟨cs, rfl, n, hs⟩ := arg_array Tryd.underlying31 a0
  obtain ⟨x0, x1, x2, x3, x4, x5, x6, hcs, hx, h7⟩ := ints7_of_shp hs
  obtain ⟨margin, rfl, _⟩ := arg_int Tryd.underlying3 a1
  obtain ⟨more, rfl, _⟩ := arg_int Tryd.underlying3 a2
  obtain rfl : cs = row7 x0 x1 x2 x3 x4 x5 x6 := by cases cs; simpa using hcs
  obtain rfl : args = #[.agg (row7 x0 x1 x2 x3 x4 x5 x6), .int .i64 margin, .int .i64 more] := by cases args; simpa using e0
  exact walk_ChooseBest x0 x1 x2 x3 x4 x5 x6 margin more W hE hx h7
set_option maxRecDepth 100000 in
theorem ChooseBest_lifted (os : Os) (started : os.Started) (H : Type) (enc : TypeId × Value → H) (F : Stop.Interp) :
    ReturnsInHanded {} Tryd.checked os 4 .any ((OpenSpec.ofChange Rows.chooseBestSpec).preRow enc Tryd.prog Tryd.f4 Rows.chooseBestRow.domain false Rows.chooseBestRow.laid) (((OpenSpec.ofChange Rows.chooseBestSpec).at F).post enc Tryd.prog Tryd.f4 false true false false) := by
  have hx : DataW.whole enc Tryd.prog ((laidWorld os).forCall (fun _ _ => 0) ⟨#[], #[.agg #[.int .i64 0, .int .i64 0, .int .i64 0, .int .i64 0, .int .i64 0, .int .i64 0, .int .i64 0], .int .i64 0, .int .i64 0], []⟩).memory Tryd.f4.params.toList Rows.chooseBestSpec.vars false (#[.agg #[.int .i64 0, .int .i64 0, .int .i64 0, .int .i64 0, .int .i64 0, .int .i64 0, .int .i64 0], .int .i64 0, .int .i64 0] : Array Value).toList 16 = some ([.agg [.lit (.int .i64 0), .lit (.int .i64 0), .lit (.int .i64 0), .lit (.int .i64 0), .lit (.int .i64 0), .lit (.int .i64 0), .lit (.int .i64 0)], .lit (.int .i64 0), .lit (.int .i64 0)], [], []) := by kernel_rfl
  refine returnsInHanded_of_row (C := Tryd.checked) (s := OpenSpec.ofChange Rows.chooseBestSpec) own started (by kernel_rfl) Tryd.func4
    (witness_row_at (enc := enc) (C := Tryd.checked) false (laidWorld os) #[.agg #[.int .i64 0, .int .i64 0, .int .i64 0, .int .i64 0, .int .i64 0, .int .i64 0, .int .i64 0], .int .i64 0, .int .i64 0] rfl (by kernel_rfl) (by kernel_rfl) (by kernel_rfl)
      (OpenSpec.preRow_of_cond 16 hx (by kernel_rfl) (fun k hk => by cases hk) (by kernel_rfl) (laidWorld_met os _))) ?_
  intro W base args ds gs before hval hW _ _ _ hL _ _
  exact law_post rfl rfl (by intro H ds h; have h' : ds.length = 3 := h; match ds, h' with | [_, _, _], _ => rfl) (by decide +kernel) ChooseBest_at (env_of_laid hL) hval hW
theorem ChooseBest_said : Rows.ChooseBestSaid :=
  OpenClaim.holds_of_cond 4 Tryd.f4 rfl rfl rfl rfl rfl rfl rfl ⟨rfl, rfl, rfl, rfl, rfl⟩ rfl rfl rfl rfl rfl (by kernel_rfl) Tryd.func4 (by kernel_rfl)
    (of_decide_eq_true (by kernel_rfl)) (by unfold Func.isWrapper; first | (rw [if_pos (by decide +kernel)]; kernel_rfl) | (rw [if_neg (by decide +kernel)]; exact ⟨rfl, rfl⟩))
    (fun os started H enc _ F => by rw [OpenClaim.pre_eq_preRow]; exact ChooseBest_lifted os started H enc F)
theorem ChooseBest_plain (f : FuncId) (fn : Func) (hf : Tryd.pinned.checked.prog.funcNamed "cachewise/cachewiselaw13.ChooseBest" = some f) (hfn : Tryd.pinned.checked.prog.funcs[f]? = some fn) :
    true = Tryd.pinned.checked.prog.looks [] ∧ ∀ (j : Nat) t, fn.params[j]? = some t → Tryd.pinned.checked.prog.wantsStandIn t = false := by
  obtain rfl : f = 4 := Option.some.inj ((show Tryd.prog.funcNamed "cachewise/cachewiselaw13.ChooseBest" = some 4 by kernel_rfl).symm.trans hf) |>.symm
  obtain rfl : fn = Tryd.f4 := (Option.some.inj (Tryd.func4.symm.trans hfn)).symm
  refine ⟨by kernel_rfl, fun j t ht => ?_⟩
  have hall : ∀ t, t ∈ Tryd.f4.params.toList → Tryd.prog.wantsStandIn t = false := by decide +kernel
  exact hall t (by simpa using Array.mem_of_getElem? ht)
theorem ChooseBest_card : Rows.ChooseBestCardSaid :=
  Claim7.holds_tied_plain_at .later [] _ _ _ _ ChooseBest_said (fun _ h => by cases h) (by kernel_rfl) (fun _ h => by cases h) chooseBest_row_tie rfl ⟨rfl, rfl⟩ (by kernel_rfl) rfl ChooseBest_plain (by kernel_rfl)
end Go.Proofs.YtkkkjjoknabopaaDoor
