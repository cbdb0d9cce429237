/- The law ChoosePlays: the document's answer, and the program's beside it. -/
import Derived.Test.YtkkkjjoknabopaaDoorChooseScript
namespace Go.Proofs.YtkkkjjoknabopaaDoor
open Go Go.RowKit

def rangeB (margin hold : Int) : Bool := decide (0 ≤ margin ∧ margin ≤ 1073741824 ∧ 1 ≤ hold ∧ hold ≤ 64)
theorem refRight_any (margin hold : Int) (w : World) :
    Calls Tryd.prog 10 #[.int .i64 margin, .int .i64 hold] w fun r w' => r = .returned (.bool (rangeB margin hold)) ∧ w = w' := by
  by_cases h : 0 ≤ margin ∧ margin ≤ 1073741824 ∧ 1 ≤ hold ∧ hold ≤ 64
  · rw [show rangeB margin hold = true from decide_eq_true h]
    obtain ⟨h1, h2, h3, h4⟩ := h
    go_enter Tryd.func10, Tryd.ntmps10
    go_wp2
    go_ret
    exact ⟨rfl, rfl⟩
  · rw [show rangeB margin hold = false from decide_eq_false h]
    by_cases h1 : 0 ≤ margin
    · by_cases h2 : margin ≤ 1073741824
      · by_cases h3 : 1 ≤ hold
        · have h4 : ¬ hold ≤ 64 := fun h4 => h ⟨h1, h2, h3, h4⟩
          clear h
          go_enter Tryd.func10, Tryd.ntmps10
          go_wp2
          go_ret
          exact ⟨by simp, rfl⟩
        · clear h
          go_enter Tryd.func10, Tryd.ntmps10
          go_wp2
          go_ret
          exact ⟨rfl, rfl⟩
      · clear h
        go_enter Tryd.func10, Tryd.ntmps10
        go_wp2
        go_ret
        exact ⟨rfl, rfl⟩
    · clear h
      go_enter Tryd.func10, Tryd.ntmps10
      go_wp2
      go_ret
      exact ⟨rfl, rfl⟩
set_option maxHeartbeats 4000000 in
theorem refBest_any (x0 x1 x2 x3 x4 x5 x6 : Int) (w : World) :
    Calls Tryd.prog 17 #[.agg (row7 x0 x1 x2 x3 x4 x5 x6)] w fun r w' => r = .returned (.int .i64 (best [x0, x1, x2, x3, x4, x5, x6])) ∧ Keep w w' := by
  have hK := hide ((Keep.refl w).alloc (o := .cells (row7 x0 x1 x2 x3 x4 x5 x6) 31))
  have hB := best_lt [x0, x1, x2, x3, x4, x5, x6]
  have hle := hide (best_le [x0, x1, x2, x3, x4, x5, x6])
  have hfi := hide (best_first [x0, x1, x2, x3, x4, x5, x6])
  go_enter Tryd.func17, Tryd.ntmps17
  go_wp2
  go_loopw [3] (fun t wr => ∃ k : Nat, k ≤ best [x0, x1, x2, x3, x4, x5, x6] ∧ t = .int .i64 k ∧ Keep (w.alloc (.cells (row7 x0 x1 x2 x3 x4 x5 x6) 31)) wr) (fun t _ => (7 - intOf t).toNat)
  case atStart => exact ⟨0, by omega, rfl, Keep.refl _⟩
  case round =>
    obtain ⟨k, hk, rfl, hkw⟩ := hrel
    obtain ⟨wo, rfl⟩ : ∃ wo : World, wo = wr := ⟨_, rfl⟩
    have hkw := hide hkw
    have hk7 : k < 7 := by omega
    have hk7' : (k : Int) < 7 := by omega
    have hk0 : (0 : Int) ≤ k := by omega
    go_wp2
    go_loopw [4, 5] (fun l t wr => ∃ (i : Nat) (lb : Bool), i ≤ 7 ∧ t = .int .i64 i ∧ l = .bool lb ∧ (lb = true ↔ ∀ j, j < i → gi [x0, x1, x2, x3, x4, x5, x6] k ≤ gi [x0, x1, x2, x3, x4, x5, x6] j) ∧ Keep (w.alloc (.cells (row7 x0 x1 x2 x3 x4 x5 x6) 31)) wr) (fun _ t _ => (7 - intOf t).toNat)
    case atStart => exact ⟨0, true, by omega, rfl, rfl, ⟨fun _ j hj => absurd hj (Nat.not_lt_zero j), fun _ => rfl⟩, hkw.out⟩
    case round =>
      obtain ⟨i, lb, hi, rfl, rfl, hl, hkr⟩ := hrel
      have hl := hide hl
      have ck := hkr.cell (a := ⟨w.heap.size, k, none⟩) (v := .int .i64 (gi [x0, x1, x2, x3, x4, x5, x6] k)) (by rw [World.cell?_alloc_at _ _ _ _ rfl]; exact row7_get x0 x1 x2 x3 x4 x5 x6 _ hk7)
      by_cases hlt : i < 7
      · have hlt' : (i : Int) < 7 := by omega
        have hi0 : (0 : Int) ≤ i := by omega
        have ci := hkr.cell (a := ⟨w.heap.size, i, none⟩) (v := .int .i64 (gi [x0, x1, x2, x3, x4, x5, x6] i)) (by rw [World.cell?_alloc_at _ _ _ _ rfl]; exact row7_get x0 x1 x2 x3 x4 x5 x6 _ hlt)
        have hkr := hide hkr
        by_cases hd : gi [x0, x1, x2, x3, x4, x5, x6] i < gi [x0, x1, x2, x3, x4, x5, x6] k
        · go_wp2
          go_quiet (fail)
          go_wp2
          go_roundw
          case rel => exact ⟨i + 1, false, by omega, by go_num, rfl, ⟨fun h => (by cases h), fun h => by have := h i (by omega); omega⟩, hkr.out.drewN⟩
          case measure => simp [intOf]; omega
        · go_wp2
          go_quiet (fail)
          go_wp2
          go_roundw
          case rel => exact ⟨i + 1, lb, by omega, by go_num, rfl, ⟨fun h j hj => by
            by_cases e : j = i
            · subst e; omega
            · exact hl.out.1 h j (by omega), fun h => hl.out.2 fun j hj => h j (by omega)⟩, hkr.out.drewN⟩
          case measure => simp [intOf]; omega
      · obtain rfl : i = 7 := by omega
        have hkr := hide hkr
        cases lb
        · have hne : k ≠ best [x0, x1, x2, x3, x4, x5, x6] := fun e => by
            have := hl.out.2 (by subst e; exact hle.out)
            cases this
          go_wp2
          go_roundw
          case rel => exact ⟨k + 1, by omega, by go_num, hkr.out⟩
          case measure => simp [intOf]; omega
        · have he : k = best [x0, x1, x2, x3, x4, x5, x6] := by
            rcases Nat.lt_or_ge k (best [x0, x1, x2, x3, x4, x5, x6]) with h | h
            · have h1 := hfi.out k h
              have h2 := hl.out.1 rfl (best [x0, x1, x2, x3, x4, x5, x6]) hB
              omega
            · omega
          have he := hide he
          go_wp2
          go_ret
          exact ⟨by rw [← he.out]; rfl, hK.out.trans hkr.out⟩
theorem beatenB_ref {xs : List Int} {now : Nat} {m : Int} (h : now < 7) : beatenB xs now m = decide (gi xs (best xs) < gi xs now - m) := by
  unfold beatenB
  rw [decide_eq_decide]
  simp
  omega
set_option maxHeartbeats 4000000 in
theorem refBeaten_any (x0 x1 x2 x3 x4 x5 x6 now margin : Int) (w : World) (v : Bool) (hf : fair [x0, x1, x2, x3, x4, x5, x6]) (hm : 0 ≤ margin ∧ margin ≤ 1073741824) (hv : beatenB [x0, x1, x2, x3, x4, x5, x6] now margin = v) :
    Calls Tryd.prog 19 #[.agg (row7 x0 x1 x2 x3 x4 x5 x6), .int .i64 now, .int .i64 margin] w fun r w' => r = .returned (.bool v) ∧ Keep w w' := by
  have hK := hide ((Keep.refl w).alloc (o := .cells (row7 x0 x1 x2 x3 x4 x5 x6) 31))
  obtain ⟨m0, m1⟩ := hm
  by_cases h1 : 0 ≤ now
  · by_cases h2 : now < 7
    · obtain ⟨n, rfl⟩ : ∃ n : Nat, now = n := ⟨now.toNat, by omega⟩
      have hn : n < 7 := by omega
      have hB := best_lt [x0, x1, x2, x3, x4, x5, x6]
      have hB' : (best [x0, x1, x2, x3, x4, x5, x6] : Int) < 7 := by omega
      have hB0 : (0 : Int) ≤ (best [x0, x1, x2, x3, x4, x5, x6] : Int) := by omega
      have f1 := hf n
      rw [beatenB_ref hn] at hv
      have hv := hide hv
      have hwr : Hide (IntKind.i64.wrap (gi [x0, x1, x2, x3, x4, x5, x6] n - margin) = gi [x0, x1, x2, x3, x4, x5, x6] n - margin) := ⟨IntWalk.i64_in _ (by omega)⟩
      have ck := fun u : KeptOf (w.alloc (.cells (row7 x0 x1 x2 x3 x4 x5 x6) 31)) => u.cell (a := ⟨w.heap.size, n, none⟩) (v := .int .i64 (gi [x0, x1, x2, x3, x4, x5, x6] n)) (by rw [World.cell?_alloc_at _ _ _ _ rfl]; exact row7_get x0 x1 x2 x3 x4 x5 x6 _ hn)
      have cb := fun u : KeptOf (w.alloc (.cells (row7 x0 x1 x2 x3 x4 x5 x6) 31)) => u.cell (a := ⟨w.heap.size, best [x0, x1, x2, x3, x4, x5, x6], none⟩) (v := .int .i64 (gi [x0, x1, x2, x3, x4, x5, x6] (best [x0, x1, x2, x3, x4, x5, x6]))) (by rw [World.cell?_alloc_at _ _ _ _ rfl]; exact row7_get x0 x1 x2 x3 x4 x5 x6 _ hB)
      have q0 := fun u : KeptOf (w.alloc (.cells (row7 x0 x1 x2 x3 x4 x5 x6) 31)) => u.cell (a := ⟨w.heap.size, 0, none⟩) (v := .int .i64 x0) (by simp)
      have q1 := fun u : KeptOf (w.alloc (.cells (row7 x0 x1 x2 x3 x4 x5 x6) 31)) => u.cell (a := ⟨w.heap.size, 1, none⟩) (v := .int .i64 x1) (by simp)
      have q2 := fun u : KeptOf (w.alloc (.cells (row7 x0 x1 x2 x3 x4 x5 x6) 31)) => u.cell (a := ⟨w.heap.size, 2, none⟩) (v := .int .i64 x2) (by simp)
      have q3 := fun u : KeptOf (w.alloc (.cells (row7 x0 x1 x2 x3 x4 x5 x6) 31)) => u.cell (a := ⟨w.heap.size, 3, none⟩) (v := .int .i64 x3) (by simp)
      have q4 := fun u : KeptOf (w.alloc (.cells (row7 x0 x1 x2 x3 x4 x5 x6) 31)) => u.cell (a := ⟨w.heap.size, 4, none⟩) (v := .int .i64 x4) (by simp)
      have q5 := fun u : KeptOf (w.alloc (.cells (row7 x0 x1 x2 x3 x4 x5 x6) 31)) => u.cell (a := ⟨w.heap.size, 5, none⟩) (v := .int .i64 x5) (by simp)
      have q6 := fun u : KeptOf (w.alloc (.cells (row7 x0 x1 x2 x3 x4 x5 x6) 31)) => u.cell (a := ⟨w.heap.size, 6, none⟩) (v := .int .i64 x6) (by simp)
      go_enter Tryd.func19, Tryd.ntmps19
      go_wp2
      have hwq := hwr.out
      (refine wp_region_kept (by kernel_rfl) (by kernel_rfl) ?_; (repeat (go_big_quiet_step ((go_at_call 17; with_reducible exact KeptOf.calls (refBest_any x0 x1 x2 x3 x4 x5 x6 _))))); refine wpQuiet_nil ?_; intro _ hw'; obtain ⟨uq, hw''⟩ := hw'; subst hw'')
      clear hwq
      go_wp2
      go_ret
      exact ⟨by rw [← hv.out]; rfl, hK.out.trans uq.keep⟩
    · have hv := hide hv
      have d2 : decide (now < 7) = false := decide_eq_false h2
      go_enter Tryd.func19, Tryd.ntmps19
      go_wp2
      go_ret
      exact ⟨by rw [← hv.out, show beatenB [x0, x1, x2, x3, x4, x5, x6] now margin = false from decide_eq_false fun h => by omega]; rfl, hK.out⟩
  · have hv := hide hv
    go_enter Tryd.func19, Tryd.ntmps19
    go_wp2
    go_ret
    exact ⟨by rw [← hv.out, show beatenB [x0, x1, x2, x3, x4, x5, x6] now margin = false from decide_eq_false fun h => by omega]; rfl, hK.out⟩
theorem refAsk_any (c m h : Int) (x0 x1 x2 x3 x4 x5 x6 now : Int) (pinned moving : Bool) (w : World) (c' k : Int) (ok : Bool) (hf : fair [x0, x1, x2, x3, x4, x5, x6]) (hm : 0 ≤ m ∧ m ≤ 1073741824) (hc : 0 ≤ c ∧ c < h ∧ h ≤ 64) (hv : askB m h c [x0, x1, x2, x3, x4, x5, x6] now pinned moving = (c', k, ok)) :
    Calls Tryd.prog 14 #[.int .i64 c, .int .i64 m, .int .i64 h, .agg (row7 x0 x1 x2 x3 x4 x5 x6), .int .i64 now, .bool pinned, .bool moving] w
      fun r w' => r = .returned (.tuple #[.int .i64 c', .int .i64 k, .bool ok]) ∧ Keep w w' := by
  have hK := hide ((Keep.refl w).alloc (o := .cells (row7 x0 x1 x2 x3 x4 x5 x6) 31))
  obtain ⟨q0, q1, q2⟩ := hc
  cases pinned
  · cases moving
    · cases hb : beatenB [x0, x1, x2, x3, x4, x5, x6] now m
      · have hb' := hide hb
        rw [show askB m h c [x0, x1, x2, x3, x4, x5, x6] now false false = (0, 0, false) by simp [askB, hb]] at hv
        clear hb
        obtain ⟨rfl, rfl, rfl⟩ : 0 = c' ∧ 0 = k ∧ false = ok := by simpa using hv
        clear hv
        go_enter Tryd.func14, Tryd.ntmps14
        go_wp2_with (go_at_call 19; (with_reducible refine (refBeaten_any x0 x1 x2 x3 x4 x5 x6 now m _ _ hf hm hb'.out).mono ?_); rintro r w1 ⟨rfl, h1⟩; have h1 := hide h1)
        go_ret3
        exact ⟨rfl, hK.out.trans h1.out⟩
      · have hb' := hide hb
        by_cases hlt : c + 1 < h
        · rw [show askB m h c [x0, x1, x2, x3, x4, x5, x6] now false false = (c + 1, 0, false) by simp [askB, hb, hlt]] at hv
          clear hb
          obtain ⟨rfl, rfl, rfl⟩ : c + 1 = c' ∧ 0 = k ∧ false = ok := by simpa using hv
          clear hv
          have z1 : (c + 1 == h) = false := by rw [beq_eq_false_iff_ne]; omega
          go_enter Tryd.func14, Tryd.ntmps14
          go_wp2_with (go_at_call 19; (with_reducible refine (refBeaten_any x0 x1 x2 x3 x4 x5 x6 now m _ _ hf hm hb'.out).mono ?_); rintro r w1 ⟨rfl, h1⟩; have h1 := hide h1)
          go_ret3
          exact ⟨rfl, hK.out.trans h1.out⟩
        · rw [show askB m h c [x0, x1, x2, x3, x4, x5, x6] now false false = (0, ((best [x0, x1, x2, x3, x4, x5, x6] : Nat) : Int), true) by simp [askB, hb, hlt]] at hv
          clear hb
          obtain ⟨rfl, rfl, rfl⟩ : 0 = c' ∧ ((best [x0, x1, x2, x3, x4, x5, x6] : Nat) : Int) = k ∧ true = ok := by simpa using hv
          clear hv
          have z1 : (c + 1 == h) = true := by rw [beq_iff_eq]; omega
          go_enter Tryd.func14, Tryd.ntmps14
          go_wp2_with (first
            | (go_at_call 19; (with_reducible refine (refBeaten_any x0 x1 x2 x3 x4 x5 x6 now m _ _ hf hm hb'.out).mono ?_); rintro r w1 ⟨rfl, h1⟩
               have g1 := h1.cell (a := ⟨w.heap.size, 0, none⟩) (v := .int .i64 x0) (by simp)
               have g2 := h1.cell (a := ⟨w.heap.size, 1, none⟩) (v := .int .i64 x1) (by simp)
               have g3 := h1.cell (a := ⟨w.heap.size, 2, none⟩) (v := .int .i64 x2) (by simp)
               have g4 := h1.cell (a := ⟨w.heap.size, 3, none⟩) (v := .int .i64 x3) (by simp)
               have g5 := h1.cell (a := ⟨w.heap.size, 4, none⟩) (v := .int .i64 x4) (by simp)
               have g6 := h1.cell (a := ⟨w.heap.size, 5, none⟩) (v := .int .i64 x5) (by simp)
               have g7 := h1.cell (a := ⟨w.heap.size, 6, none⟩) (v := .int .i64 x6) (by simp)
               have h1 := hide h1)
            | (go_at_call 17; (with_reducible refine (refBest_any x0 x1 x2 x3 x4 x5 x6 _).mono ?_); rintro r w2 ⟨rfl, h2⟩; have h2 := hide h2))
          go_ret3
          exact ⟨rfl, hK.out.trans (h1.out.trans h2.out)⟩
    · rw [show askB m h c [x0, x1, x2, x3, x4, x5, x6] now false true = (0, 0, false) by simp [askB]] at hv
      obtain ⟨rfl, rfl, rfl⟩ : 0 = c' ∧ 0 = k ∧ false = ok := by simpa using hv
      clear hv
      go_enter Tryd.func14, Tryd.ntmps14
      go_wp2
      go_ret3
      exact ⟨rfl, hK.out⟩
  · rw [show askB m h c [x0, x1, x2, x3, x4, x5, x6] now true moving = (0, 0, false) by simp [askB]] at hv
    obtain ⟨rfl, rfl, rfl⟩ : 0 = c' ∧ 0 = k ∧ false = ok := by simpa using hv
    clear hv
    go_enter Tryd.func14, Tryd.ntmps14
    go_wp2
    go_ret3
    exact ⟨rfl, hK.out⟩
theorem askB_lt {m h c now : Int} {xs : List Int} {p v : Bool} {c' k : Int} {ok : Bool} (hc : 0 ≤ c ∧ c < h) (e : askB m h c xs now p v = (c', k, ok)) : 0 ≤ c' ∧ c' < h := by
  unfold askB at e
  split at e
  · obtain ⟨rfl, _⟩ : 0 = c' ∧ _ := by simpa using e
    omega
  · split at e
    · obtain ⟨rfl, _⟩ : c + 1 = c' ∧ _ := by simpa using e
      omega
    · obtain ⟨rfl, _⟩ : 0 = c' ∧ _ := by simpa using e
      omega
theorem Counted_cell {b : Nat} {c : Int} {w : World} (hc : w.cell? ⟨b, 2, none⟩ = some (.int .i64 c)) :
    Calls Tryd.prog 15 #[.pointer (some ⟨b, 0, none⟩)] w fun r w' => r = .returned (.int .i64 c) ∧ Keep w w' := by
  go_enter Tryd.func15, Tryd.ntmps15
  go_wp2
  go_ret
  exact ⟨rfl, Keep.refl _⟩
end Go.Proofs.YtkkkjjoknabopaaDoor
